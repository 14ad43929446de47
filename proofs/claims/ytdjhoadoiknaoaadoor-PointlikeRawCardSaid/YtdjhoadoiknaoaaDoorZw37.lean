/- Part 37 of the proof: AgPlain. -/
import Derived.Test.YtdjhoadoiknaoaaDoorZw36
set_option linter.unusedVariables false
set_option linter.unusedSimpArgs false
namespace Go.Proofs.YtdjhoadoiknaoaaDoor
open Go.RowKit
theorem bits_single {x z : Nat} : (2 ^ x).testBit z = decide (x = z) := by rw [Nat.testBit_two_pow]
theorem prod_single {n : Nat} {tb : Nat → Nat → Nat} (ht : Tb n tb) {x y : Nat} (hx : x < n) (hy : y < n) : prodSet n tb (2 ^ x) (2 ^ y) = 2 ^ tb x y := by
  apply Nat.eq_of_testBit_eq
  intro z
  rw [bits_single, Bool.eq_iff_iff, prodSet_bit, decide_eq_true_eq]
  constructor
  · rintro ⟨a, b, _, _, h1, h2, e⟩
    rw [bits_single, decide_eq_true_eq] at h1 h2
    subst h1; subst h2; exact e
  · intro e
    exact ⟨x, y, hx, hy, by rw [bits_single]; simp, by rw [bits_single]; simp, e⟩
section
variable {t : List (List Int)} {im : List Int}
def UC (t : List (List Int)) (im : List Int) (s : Nat) : Prop := under (closeL t im) s = true
theorem close_all (hg : Good t im) : roundSets t.length (entN t) (closeL t im) = closeL t im ∧ (∀ s, under (startL t im) s = true → UC t im s) ∧ (∀ b ∈ closeL t im, b < 2 ^ t.length) := by
  have h := closeFrom_inv (tb_of hg.valid) (start_ok hg)
  exact ⟨h.1, h.2.1, h.2.2.1⟩
theorem uc_gen (hg : Good t im) {s : Nat} (h : s ∈ genL t im) : UC t im s := by
  refine (close_all hg).2.1 s ?_
  rw [startL, under_maxOf (genL_lt hg)]
  exact under_iff.2 ⟨s, h, sub_refl s⟩
theorem uc_prod (hg : Good t im) {a b : Nat} (ha : UC t im a) (hb : UC t im b) : UC t im (prodSet t.length (entN t) a b) := closed_prod (tb_of hg.valid) (close_all hg).2.2 (close_all hg).1 ha hb
theorem uc_omega (hg : Good t im) {a : Nat} (ha : UC t im a) : UC t im (omegaSet t.length (entN t) a) := closed_omega (tb_of hg.valid) (close_all hg).2.2 (close_all hg).1 ha
theorem uc_one (hg : Good t im) : UC t im (2 ^ oneN t) := uc_gen hg (by simp [genL, oneN])
theorem uc_word (hg : Good t im) : ∀ (l : List UInt8) (x : Nat), x < t.length → UC t im (2 ^ x) → (∀ c ∈ l, okByte im.length c = true) → UC t im (2 ^ walkV t im x l)
  | [], x, _, h, _ => h
  | c :: l, x, hx, h, hl => by
    have hc := hl c (by simp)
    simp only [okByte, decide_eq_true_eq] at hc
    have h1 := inB_iff.1 hg.inb (c.toNat - 97) (by omega)
    have hs := (valid_of hg.valid).1
    have hy : (im.getD (c.toNat - 97) 0).toNat < t.length := by omega
    refine uc_word hg l (entN t x (im.getD (c.toNat - 97) 0).toNat) (entN_lt hs hx hy) ?_ (fun d hd => hl d (by simp [hd]))
    rw [← prod_single (tb_of hg.valid) hx hy]
    refine uc_prod hg h (uc_gen hg ?_)
    refine List.mem_cons_of_mem _ (List.mem_map.2 ⟨im.getD (c.toNat - 97) 0, ?_, rfl⟩)
    rw [List.getD_eq_getElem?_getD, List.getElem?_eq_getElem (show c.toNat - 97 < im.length by omega)]
    exact List.getElem_mem _
theorem step_more {ss r : List StepV} {i : Nat} (hi : i < ss.length) (h : stepB t im ss i = true) : stepB t im (ss ++ r) i = true := by
  have key : ∀ j, j < ss.length → (ss ++ r).getD j default = ss.getD j default := fun j hj => by
    rw [List.getD_eq_getElem?_getD, List.getElem?_append_left hj, ← List.getD_eq_getElem?_getD]
  simp only [stepB] at h ⊢
  rw [key i hi]
  split at h
  · rename_i h1; rw [if_pos h1]; exact h
  rename_i h1
  rw [if_neg h1]
  split at h
  · rename_i h2
    rw [if_pos h2]
    simp only [Bool.and_eq_true] at h
    have ha := befB_iff.1 h.1.1.2
    have hb := befB_iff.1 h.1.2
    rw [key _ (by omega), key _ (by omega)]
    simp only [Bool.and_eq_true]; exact h
  rename_i h2
  rw [if_neg h2]
  split at h
  · rename_i h3
    rw [if_pos h3]
    simp only [Bool.and_eq_true] at h
    have ha := befB_iff.1 h.1.1.2
    rw [key _ (by omega)]
    simp only [Bool.and_eq_true]; exact h
  · cases h
structure Ders (t : List (List Int)) (im : List Int) (ss : List StepV) : Prop where
  ok : stepsTo t im ss ss.length
  uc : ∀ i, i < ss.length → ∃ s : Nat, (ss.getD i default).set = (s : Int) ∧ s < 2 ^ t.length ∧ UC t im s
  wz : ∀ i, i < ss.length → (ss.getD i default).word.size ≤ maxLen
theorem Ders.nil : Ders t im [] := ⟨fun i hi => absurd hi (by simp), fun i hi => absurd hi (by simp), fun i hi => absurd hi (by simp)⟩
theorem getD_last (ss : List StepV) (st : StepV) : (ss ++ [st]).getD ss.length default = st := by
  rw [List.getD_eq_getElem?_getD, List.getElem?_append_right (Nat.le_refl _)]; simp
theorem getD_old (ss : List StepV) (st : StepV) {j : Nat} (hj : j < ss.length) : (ss ++ [st]).getD j default = ss.getD j default := by
  rw [List.getD_eq_getElem?_getD, List.getElem?_append_left hj, ← List.getD_eq_getElem?_getD]
theorem Ders.push {ss : List StepV} {st : StepV} {s : Nat} (h : Ders t im ss) (hs : stepB t im (ss ++ [st]) ss.length = true) (he : st.set = (s : Int)) (hl : s < 2 ^ t.length) (hu : UC t im s) (hw : st.word.size ≤ maxLen) : Ders t im (ss ++ [st]) where
  ok := fun i hi => by
    rw [List.length_append, List.length_singleton] at hi
    rcases Nat.lt_succ_iff_lt_or_eq.1 hi with hi | rfl
    · exact step_more hi (h.ok i hi)
    · exact hs
  uc := fun i hi => by
    rw [List.length_append, List.length_singleton] at hi
    rcases Nat.lt_succ_iff_lt_or_eq.1 hi with hi | rfl
    · rw [getD_old ss st hi]; exact h.uc i hi
    · rw [getD_last]; exact ⟨s, he, hl, hu⟩
  wz := fun i hi => by
    rw [List.length_append, List.length_singleton] at hi
    rcases Nat.lt_succ_iff_lt_or_eq.1 hi with hi | rfl
    · rw [getD_old ss st hi]; exact h.wz i hi
    · rw [getD_last]; exact hw
theorem Ders.word (hg : Good t im) {ss : List StepV} (h : Ders t im ss) {wd : ByteArray} (hv : wordValid wd im.length = true) : Ders t im (ss ++ [⟨1, 0, 0, wd, ((2 ^ walkV t im (oneN t) wd.data.toList : Nat) : Int)⟩]) := by
  have hl : ∀ c ∈ wd.data.toList, okByte im.length c = true := by
    have := hv
    simp only [wordValid, Bool.and_eq_true, List.all_eq_true] at this; exact this.2
  have hz : wd.size ≤ maxLen := by
    have := hv
    simp only [wordValid, Bool.and_eq_true, decide_eq_true_eq] at this
    unfold maxLen; omega
  have ho := (oneN_lt hg).1
  refine h.push ?_ rfl (Nat.pow_lt_pow_right (by omega) (walkV_lt hg _ _ hl ho)) (uc_word hg _ _ ho (uc_one hg) hl) hz
  rw [stepB_word (getD_last ss _).symm rfl]
  simp [hv]
theorem Ders.product (hg : Good t im) {ss : List StepV} (h : Ders t im ss) {a b za zb : Nat} (ha : a < ss.length) (hb : b < ss.length) (ea : (ss.getD a default).set = (za : Int)) (eb : (ss.getD b default).set = (zb : Int)) : Ders t im (ss ++ [⟨2, a, b, ⟨#[]⟩, ((prodSet t.length (entN t) za zb : Nat) : Int)⟩]) := by
  obtain ⟨sa, h1, h2, h3⟩ := h.uc a ha
  obtain ⟨sb, k1, k2, k3⟩ := h.uc b hb
  have e1 : sa = za := by omega
  have e2 : sb = zb := by omega
  subst e1; subst e2
  refine h.push ?_ rfl (prodSet_lt (tb_of hg.valid).lt _ _) (uc_prod hg h3 k3) (Nat.zero_le _)
  rw [stepB_prod (getD_last ss _).symm rfl]
  have x1 : befB (a : Int) ss.length = true := befB_iff.2 ⟨by omega, by omega⟩
  have x2 : befB (b : Int) ss.length = true := befB_iff.2 ⟨by omega, by omega⟩
  simp only [Bool.and_eq_true, decide_eq_true_eq]
  refine ⟨⟨⟨by rw [ByteArray.toList_eq]; rfl, x1⟩, x2⟩, ?_⟩
  have e3 : ∀ st : StepV, ((ss ++ [st]).getD ((a : Nat) : Int).toNat default).set = (sa : Int) := fun st => by rw [Int.toNat_natCast, getD_old ss st ha, ea]
  have e4 : ∀ st : StepV, ((ss ++ [st]).getD ((b : Nat) : Int).toNat default).set = (sb : Int) := fun st => by rw [Int.toNat_natCast, getD_old ss st hb, eb]
  rw [e3, e4, Int.toNat_natCast, Int.toNat_natCast]
theorem Ders.om (hg : Good t im) {ss : List StepV} (h : Ders t im ss) {a za : Nat} (ha : a < ss.length) (ea : (ss.getD a default).set = (za : Int)) : Ders t im (ss ++ [⟨3, a, 0, ⟨#[]⟩, ((omegaSet t.length (entN t) za : Nat) : Int)⟩]) := by
  obtain ⟨sa, h1, h2, h3⟩ := h.uc a ha
  have e1 : sa = za := by omega
  subst e1
  refine h.push ?_ rfl (omegaSet_lt (tb_of hg.valid) h2) (uc_omega hg h3) (Nat.zero_le _)
  rw [stepB_om (getD_last ss _).symm rfl]
  have x1 : befB (a : Int) ss.length = true := befB_iff.2 ⟨by omega, by omega⟩
  simp only [Bool.and_eq_true, decide_eq_true_eq]
  refine ⟨⟨⟨by rw [ByteArray.toList_eq]; rfl, x1⟩, trivial⟩, ?_⟩
  have e3 : ∀ st : StepV, ((ss ++ [st]).getD ((a : Nat) : Int).toNat default).set = (sa : Int) := fun st => by rw [Int.toNat_natCast, getD_old ss st ha, ea]
  rw [e3, Int.toNat_natCast]
theorem within_uc (hg : Good t im) {s : Nat} (hs : s < 2 ^ t.length) (h : UC t im s) : withinB (intL (closeL t im)) (s : Int) = true := by
  obtain ⟨b, hb, e⟩ := under_iff.1 h
  have hbl := (close_all hg).2.2 b hb
  have hp : 2 ^ t.length ≤ 2 ^ 12 := Nat.pow_le_pow_right (by omega) hg.le
  refine List.any_eq_true.2 ⟨(b : Int), List.mem_map.2 ⟨b, hb, rfl⟩, ?_⟩
  rw [i64_and_nat b s (by omega) (by omega), Nat.and_comm, e]; simp
theorem Ders.derB {ss : List StepV} (h : Ders t im ss) (hz : checkE t im = 0) (h0 : 0 < ss.length) : derB t im ss = true := derB_yes hz h0 h.ok
end
end Go.Proofs.YtdjhoadoiknaoaaDoor
