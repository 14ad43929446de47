/- Part 38 of the proof: DerP. -/
import Derived.Test.YtdjhoadoiknaoaaDoorZw37
set_option linter.unusedVariables false
set_option linter.unusedSimpArgs false
namespace Go.Proofs.YtdjhoadoiknaoaaDoor
structure DerI (n : Nat) (ss : List StepV) (ix : List Nat) : Prop where
  len : ix.length = 2 ^ n
  at_ : ∀ x, x < 2 ^ n → ix.getD x 0 = 0 ∨ (1 ≤ ix.getD x 0 ∧ ix.getD x 0 ≤ ss.length ∧ (ss.getD (ix.getD x 0 - 1) default).set = (x : Int))
  of_ : ∀ i, i < ss.length → ∃ x : Nat, x < 2 ^ n ∧ (ss.getD i default).set = (x : Int) ∧ ix.getD x 0 = i + 1
theorem DerI.le {n : Nat} {ss : List StepV} {ix : List Nat} (h : DerI n ss ix) : ss.length ≤ 2 ^ n := by
  rcases Nat.lt_or_ge (2 ^ n) ss.length with hl | hl
  · exfalso
    obtain ⟨i, j, hij, hj, e⟩ := pigeon (2 ^ n) (fun i => (ss.getD i default).set.toNat) (fun i hi => by
      obtain ⟨x, hx, ex, _⟩ := h.of_ i (by omega)
      rw [ex, Int.toNat_natCast]; exact hx)
    obtain ⟨x, hx, ex, ix1⟩ := h.of_ i (by omega)
    obtain ⟨y, hy, ey, iy1⟩ := h.of_ j (by omega)
    rw [ex, ey, Int.toNat_natCast, Int.toNat_natCast] at e
    subst e
    omega
  · exact hl
theorem derI_nil (n : Nat) : DerI n [] (List.replicate (2 ^ n) 0) where
  len := by simp
  at_ := fun x hx => .inl (by rw [getD_eq (by simpa using hx)]; simp)
  of_ := fun i hi => absurd hi (by simp)
def addS (ss : List StepV) (ix : List Nat) (st : StepV) (x : Nat) : List StepV × List Nat := if ix.getD x 0 = 0 then (ss ++ [st], ix.set x (ss.length + 1)) else (ss, ix)
theorem addS_new {ss : List StepV} {ix : List Nat} {st : StepV} {x : Nat} (h : ix.getD x 0 = 0) : addS ss ix st x = (ss ++ [st], ix.set x (ss.length + 1)) := if_pos h
theorem addS_old {ss : List StepV} {ix : List Nat} {st : StepV} {x : Nat} (h : ix.getD x 0 ≠ 0) : addS ss ix st x = (ss, ix) := if_neg h
theorem DerI.add {n : Nat} {ss : List StepV} {ix : List Nat} {st : StepV} {x : Nat} (h : DerI n ss ix) (hx : x < 2 ^ n) (e : st.set = (x : Int)) : DerI n (addS ss ix st x).1 (addS ss ix st x).2 := by
  by_cases h0 : ix.getD x 0 = 0
  · rw [addS_new h0]
    refine ⟨by rw [List.length_set]; exact h.len, fun y hy => ?_, fun i hi => ?_⟩
    · by_cases exy : x = y
      · subst exy
        rw [getD_set_eq _ _ _ _ (by rw [h.len]; exact hx)]
        exact .inr ⟨by omega, by simp, by rw [Nat.add_sub_cancel, getD_last]; exact e⟩
      · rw [getD_set_ne _ _ _ _ _ exy]
        rcases h.at_ y hy with h1 | ⟨h1, h2, h3⟩
        · exact .inl h1
        · exact .inr ⟨h1, by rw [List.length_append, List.length_singleton]; omega, by rw [getD_old _ _ (by omega)]; exact h3⟩
    · rw [List.length_append, List.length_singleton] at hi
      rcases Nat.lt_succ_iff_lt_or_eq.1 hi with hi | rfl
      · obtain ⟨y, hy, ey, iy⟩ := h.of_ i hi
        refine ⟨y, hy, by rw [getD_old _ _ hi]; exact ey, ?_⟩
        rw [getD_set_ne _ _ _ _ _ (fun exy => by subst exy; omega)]; exact iy
      · exact ⟨x, hx, by rw [getD_last]; exact e, by rw [getD_set_eq _ _ _ _ (by rw [h.len]; exact hx)]⟩
  · rw [addS_old h0]; exact h
def IxLe (ix ix' : List Nat) : Prop := ∀ y, ix.getD y 0 ≠ 0 → ix'.getD y 0 = ix.getD y 0
theorem IxLe.refl (ix : List Nat) : IxLe ix ix := fun _ _ => rfl
theorem IxLe.trans {a b c : List Nat} (h : IxLe a b) (k : IxLe b c) : IxLe a c := fun y hy => by rw [k y (by rw [h y hy]; exact hy), h y hy]
theorem IxLe.ne {a b : List Nat} (h : IxLe a b) {y : Nat} (hy : a.getD y 0 ≠ 0) : b.getD y 0 ≠ 0 := by rw [h y hy]; exact hy
theorem addS_le {n : Nat} {ss : List StepV} {ix : List Nat} {st : StepV} {x : Nat} (h : DerI n ss ix) (hx : x < 2 ^ n) : IxLe ix (addS ss ix st x).2 ∧ (addS ss ix st x).2.getD x 0 ≠ 0 := by
  by_cases h0 : ix.getD x 0 = 0
  · rw [addS_new h0]
    refine ⟨fun y hy => ?_, by rw [getD_set_eq _ _ _ _ (by rw [h.len]; exact hx)]; omega⟩
    rw [getD_set_ne _ _ _ _ _ (fun e => by subst e; exact hy h0)]
  · rw [addS_old h0]; exact ⟨IxLe.refl _, h0⟩
structure DerS (t : List (List Int)) (im : List Int) (ss : List StepV) (ix : List Nat) : Prop where
  i : DerI t.length ss ix
  d : Ders t im ss
section
variable {t : List (List Int)} {im : List Int} {ss : List StepV} {ix : List Nat}
theorem DerS.at_set (h : DerS t im ss ix) {x : Nat} (hx : x < 2 ^ t.length) (h0 : ix.getD x 0 ≠ 0) : ix.getD x 0 - 1 < ss.length ∧ (ss.getD (ix.getD x 0 - 1) default).set = (x : Int) := by
  rcases h.i.at_ x hx with h1 | ⟨h1, h2, h3⟩
  · exact absurd h1 h0
  · exact ⟨by omega, h3⟩
theorem DerS.product (hg : Good t im) (h : DerS t im ss ix) {a b : Nat} (ha : a < 2 ^ t.length) (hb : b < 2 ^ t.length) (ka : ix.getD a 0 ≠ 0) (kb : ix.getD b 0 ≠ 0) :
    DerS t im (addS ss ix ⟨2, (ix.getD a 0 - 1 : Nat), (ix.getD b 0 - 1 : Nat), ⟨#[]⟩, ((prodSet t.length (entN t) a b : Nat) : Int)⟩ (prodSet t.length (entN t) a b)).1 (addS ss ix ⟨2, (ix.getD a 0 - 1 : Nat), (ix.getD b 0 - 1 : Nat), ⟨#[]⟩, ((prodSet t.length (entN t) a b : Nat) : Int)⟩ (prodSet t.length (entN t) a b)).2 := by
  refine ⟨h.i.add (prodSet_lt (tb_of hg.valid).lt _ _) rfl, ?_⟩
  by_cases h0 : ix.getD (prodSet t.length (entN t) a b) 0 = 0
  · rw [addS_new h0]
    exact h.d.product hg (h.at_set ha ka).1 (h.at_set hb kb).1 (h.at_set ha ka).2 (h.at_set hb kb).2
  · rw [addS_old h0]; exact h.d
theorem DerS.omega (hg : Good t im) (h : DerS t im ss ix) {a : Nat} (ha : a < 2 ^ t.length) (ka : ix.getD a 0 ≠ 0) :
    DerS t im (addS ss ix ⟨3, (ix.getD a 0 - 1 : Nat), 0, ⟨#[]⟩, ((omegaSet t.length (entN t) a : Nat) : Int)⟩ (omegaSet t.length (entN t) a)).1 (addS ss ix ⟨3, (ix.getD a 0 - 1 : Nat), 0, ⟨#[]⟩, ((omegaSet t.length (entN t) a : Nat) : Int)⟩ (omegaSet t.length (entN t) a)).2 := by
  refine ⟨h.i.add (omegaSet_lt (tb_of hg.valid) ha) rfl, ?_⟩
  by_cases h0 : ix.getD (omegaSet t.length (entN t) a) 0 = 0
  · rw [addS_new h0]
    exact h.d.om hg (h.at_set ha ka).1 (h.at_set ha ka).2
  · rw [addS_old h0]; exact h.d
theorem DerS.word (hg : Good t im) (h : DerS t im ss ix) {wd : ByteArray} (hv : wordValid wd im.length = true) {x : Nat} (e : x = 2 ^ walkV t im (oneN t) wd.data.toList) :
    DerS t im (addS ss ix ⟨1, 0, 0, wd, (x : Int)⟩ x).1 (addS ss ix ⟨1, 0, 0, wd, (x : Int)⟩ x).2 := by
  have hl : ∀ c ∈ wd.data.toList, okByte im.length c = true := by
    have := hv
    simp only [wordValid, Bool.and_eq_true, List.all_eq_true] at this; exact this.2
  have hlt : x < 2 ^ t.length := by rw [e]; exact Nat.pow_lt_pow_right (by omega) (walkV_lt hg _ _ hl (oneN_lt hg).1)
  refine ⟨h.i.add hlt rfl, ?_⟩
  by_cases h0 : ix.getD x 0 = 0
  · rw [addS_new h0, e]; exact h.d.word hg hv
  · rw [addS_old h0]; exact h.d
theorem derS_nil (t : List (List Int)) (im : List Int) : DerS t im [] (List.replicate (2 ^ t.length) 0) := ⟨derI_nil _, Ders.nil⟩
end
def renum (no : List Nat) (s : StepV) : StepV := if s.op = 1 then s else if s.op = 2 then { s with a := (no.getD s.a.toNat 0 : Nat), b := (no.getD s.b.toNat 0 : Nat) } else { s with a := (no.getD s.a.toNat 0 : Nat) }
structure MarksOk (ss : List StepV) (bs : List Bool) (k : Nat) : Prop where
  len : bs.length = ss.length
  last : bs.getD (ss.length - 1) false = true
  a : ∀ i, k ≤ i → i < ss.length → bs.getD i false = true → (ss.getD i default).op ≠ 1 → bs.getD (ss.getD i default).a.toNat false = true
  b : ∀ i, k ≤ i → i < ss.length → bs.getD i false = true → (ss.getD i default).op = 2 → bs.getD (ss.getD i default).b.toNat false = true
structure ListOk (t : List (List Int)) (im : List Int) (ss : List StepV) (bs : List Bool) (no : List Nat) (k : Nat) (l : List StepV) : Prop where
  len : no.length = ss.length
  ok : stepsTo t im l l.length
  le : l.length ≤ k
  nos : ∀ i, i < k → bs.getD i false = true → no.getD i 0 < l.length ∧ (l.getD (no.getD i 0) default).set = (ss.getD i default).set ∧ (l.getD (no.getD i 0) default).word = (ss.getD i default).word
  wz : ∀ i, i < l.length → (l.getD i default).word.size ≤ maxLen
  lastn : 0 < k → bs.getD (k - 1) false = true → 0 < l.length ∧ no.getD (k - 1) 0 = l.length - 1
theorem ListOk.skip {t : List (List Int)} {im : List Int} {ss : List StepV} {bs : List Bool} {no : List Nat} {k : Nat} {l : List StepV} (h : ListOk t im ss bs no k l) (hb : bs.getD k false = false) : ListOk t im ss bs no (k + 1) l where
  len := h.len
  ok := h.ok
  le := by have := h.le; omega
  nos := fun i hi hbi => by
    rcases Nat.lt_succ_iff_lt_or_eq.1 hi with hi | rfl
    · exact h.nos i hi hbi
    · rw [hb] at hbi; cases hbi
  wz := h.wz
  lastn := fun _ h1 => by rw [Nat.add_sub_cancel, hb] at h1; cases h1
theorem ListOk.push {t : List (List Int)} {im : List Int} {ss : List StepV} {bs : List Bool} {no : List Nat} {k : Nat} {l : List StepV} (h : ListOk t im ss bs no k l) (hk : k < ss.length) (hb : bs.getD k false = true) (hm : MarksOk ss bs 0) (hs : stepB t im ss k = true) (hw : (ss.getD k default).word.size ≤ maxLen) : ListOk t im ss bs (no.set k l.length) (k + 1) (l ++ [renum no (ss.getD k default)]) := by
  have hset : ∀ s : StepV, (renum no s).set = s.set ∧ (renum no s).word = s.word ∧ (renum no s).op = s.op := fun s => by
    unfold renum; split <;> (try split) <;> simp
  refine ⟨by rw [List.length_set]; exact h.len, fun i hi => ?_, by rw [List.length_append, List.length_singleton]; have := h.le; omega, fun i hi hbi => ?_, fun i hi => ?_, fun _ _ => ⟨by simp, ?_⟩⟩
  · rw [List.length_append, List.length_singleton] at hi
    rcases Nat.lt_succ_iff_lt_or_eq.1 hi with hi | rfl
    · exact step_more hi (h.ok i hi)
    · obtain ⟨st, est⟩ : ∃ st, st = ss.getD k default := ⟨_, rfl⟩
      have hop := hset st
      rw [← est]
      by_cases h1 : st.op = 1
      · have hs := hs
        rw [stepB_word est h1] at hs
        have e : renum no st = st := by unfold renum; rw [if_pos h1]
        rw [stepB_word (getD_last l _).symm (by rw [e]; exact h1), e]; exact hs
      by_cases h2 : st.op = 2
      · have hs := hs
        rw [stepB_prod est h2] at hs
        simp only [Bool.and_eq_true, decide_eq_true_eq] at hs
        obtain ⟨⟨⟨s1, s2⟩, s3⟩, s4⟩ := hs
        have e : renum no st = { st with a := (no.getD st.a.toNat 0 : Nat), b := (no.getD st.b.toNat 0 : Nat) } := by unfold renum; rw [if_neg h1, if_pos h2]
        have ba := befB_iff.1 s2
        have bb := befB_iff.1 s3
        have ma : bs.getD st.a.toNat false = true := by rw [est]; exact hm.a k (Nat.zero_le _) hk hb (by rw [← est]; exact h1)
        have mb : bs.getD st.b.toNat false = true := by rw [est]; exact hm.b k (Nat.zero_le _) hk hb (by rw [← est]; exact h2)
        obtain ⟨na, sa, _⟩ := h.nos _ (by omega) ma
        obtain ⟨nb, sb, _⟩ := h.nos _ (by omega) mb
        rw [stepB_prod (getD_last l _).symm (by rw [e]; exact h2), e]
        simp only [Bool.and_eq_true, decide_eq_true_eq, Int.toNat_natCast]
        refine ⟨⟨⟨s1, befB_iff.2 ⟨by omega, by omega⟩⟩, befB_iff.2 ⟨by omega, by omega⟩⟩, ?_⟩
        rw [getD_old l _ na, getD_old l _ nb, sa, sb]; exact s4
      by_cases h3 : st.op = 3
      · have hs := hs
        rw [stepB_om est h3] at hs
        simp only [Bool.and_eq_true, decide_eq_true_eq] at hs
        obtain ⟨⟨⟨s1, s2⟩, s3⟩, s4⟩ := hs
        have e : renum no st = { st with a := (no.getD st.a.toNat 0 : Nat) } := by unfold renum; rw [if_neg h1, if_neg h2]
        have ba := befB_iff.1 s2
        have ma : bs.getD st.a.toNat false = true := by rw [est]; exact hm.a k (Nat.zero_le _) hk hb (by rw [← est]; exact h1)
        obtain ⟨na, sa, _⟩ := h.nos _ (by omega) ma
        rw [stepB_om (getD_last l _).symm (by rw [e]; exact h3), e]
        simp only [Bool.and_eq_true, decide_eq_true_eq, Int.toNat_natCast]
        refine ⟨⟨⟨s1, befB_iff.2 ⟨by omega, by omega⟩⟩, s3⟩, ?_⟩
        rw [getD_old l _ na, sa]; exact s4
      · rw [stepB_op est h1 h2 h3] at hs; cases hs
  · have hkn : k < no.length := by rw [h.len]; exact hk
    rw [List.length_append, List.length_singleton]
    rcases Nat.lt_succ_iff_lt_or_eq.1 hi with hi | rfl
    · obtain ⟨a1, a2, a3⟩ := h.nos i hi hbi
      rw [getD_set_ne _ _ _ _ _ (by omega), getD_old l _ a1]
      exact ⟨by omega, a2, a3⟩
    · rw [getD_set_eq _ _ _ _ hkn, getD_last]
      exact ⟨by omega, (hset _).1, (hset _).2.1⟩
  · rw [List.length_append, List.length_singleton] at hi
    rcases Nat.lt_succ_iff_lt_or_eq.1 hi with hi | rfl
    · rw [getD_old l _ hi]; exact h.wz i hi
    · rw [getD_last, (hset _).2.1]; exact hw
  · rw [Nat.add_sub_cancel, getD_set_eq _ _ _ _ (by rw [h.len]; exact hk)]; simp
end Go.Proofs.YtdjhoadoiknaoaaDoor
