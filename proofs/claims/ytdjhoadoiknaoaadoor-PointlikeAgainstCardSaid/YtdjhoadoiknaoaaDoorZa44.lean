/- Part 44 of the proof: AgPlain, MadeWord, Law40A, Laid40. -/
import Derived.Test.YtdjhoadoiknaoaaDoorZa43
import Derived.LaidMore
import Derived.Lib.LaidTab
import Derived.Stop.Joined
set_option linter.unusedVariables false
set_option linter.unusedSimpArgs false
namespace Go.Proofs.YtdjhoadoiknaoaaDoor
open Go.RowKit
theorem setB_of {n z : Nat} (h : z < 2 ^ n) : setB n (z : Int) = true := by
 have e : ((2 ^ n : Nat) : Int) = (2 : Int) ^ n := by rw [Int.natCast_pow]; rfl
 simp only [setB, decide_eq_true_eq]
 first | (rw [← e]; omega) | omega
theorem bits_single {x z : Nat} : (2 ^ x).testBit z = decide (x = z) := by rw [Nat.testBit_two_pow]
theorem prod_single {n : Nat} {tb : Nat → Nat → Nat} (ht : Tb n tb) {x y : Nat} (hx : x < n) (hy : y < n) : zV n tb (2 ^ x) (2 ^ y) = 2 ^ tb x y := by
 apply Nat.eq_of_testBit_eq
 intro z
 rw [bits_single, Bool.eq_iff_iff, yX, decide_eq_true_eq]
 constructor
 ·rintro ⟨a, b, _, _, h1, h2, e⟩
  rw [bits_single, decide_eq_true_eq] at h1 h2
  subst h1; subst h2; exact e
 ·intro e
  exact ⟨x, y, hx, hy, by rw [bits_single]; simp, by rw [bits_single]; simp, e⟩
section
variable {t : List (List Int)} {im : List Int}
def UC (t : List (List Int)) (im : List Int) (s : Nat) : Prop := under (closeL t im) s = true
theorem close_all (hg : Good t im) : zZ t.length (entN t) (closeL t im) = closeL t im ∧ (∀ s, under (tV t im) s = true → UC t im s) ∧ (∀ b ∈ closeL t im, b < 2 ^ t.length) := by
 have h := closeFrom_inv (tb_of hg.valid) (start_ok hg)
 exact ⟨h.1, h.2.1, h.2.2.1⟩
theorem uc_gen (hg : Good t im) {s : Nat} (h : s ∈ genL t im) : UC t im s := by
 refine (close_all hg).2.1 s ?_
 rw [tV, tB (genL_lt hg)]
 exact yS.2 ⟨s, h, sub_refl s⟩
theorem uc_prod (hg : Good t im) {a b : Nat} (ha : UC t im a) (hb : UC t im b) : UC t im (zV t.length (entN t) a b) := closed_prod (tb_of hg.valid) (close_all hg).2.2 (close_all hg).1 ha hb
theorem uc_omega (hg : Good t im) {a : Nat} (ha : UC t im a) : UC t im (yQ t.length (entN t) a) := closed_omega (tb_of hg.valid) (close_all hg).2.2 (close_all hg).1 ha
theorem uc_one (hg : Good t im) : UC t im (2 ^ oneN t) := uc_gen hg (by simp [genL, oneN])
theorem uc_word (hg : Good t im) : ∀ (l : List UInt8) (x : Nat), x < t.length → UC t im (2 ^ x) → (∀ c ∈ l, uW im.length c = true) → UC t im (2 ^ walkV t im x l)
 | [], x, _, h, _ => h
 | c :: l, x, hx, h, hl => by
  have hc := hl c (by simp)
  simp only [uW, decide_eq_true_eq] at hc
  have h1 := tT.1 hg.inb (c.toNat - 97) (by omega)
  have hs := (uE hg.valid).1
  have hy : (im.getD (c.toNat - 97) 0).toNat < t.length := by omega
  refine uc_word hg l (entN t x (im.getD (c.toNat - 97) 0).toNat) (uH hs hx hy) ?_ (fun d hd => hl d (by simp [hd]))
  rw [← prod_single (tb_of hg.valid) hx hy]
  refine uc_prod hg h (uc_gen hg ?_)
  refine List.mem_cons_of_mem _ (List.mem_map.2 ⟨im.getD (c.toNat - 97) 0, ?_, rfl⟩)
  rw [List.getD_eq_getElem?_getD, List.getElem?_eq_getElem (show c.toNat - 97 < im.length by omega)]
  exact List.getElem_mem _
theorem step_more {ss r : List StepV} {i : Nat} (hi : i < ss.length) (h : stepB t im ss i = true) : stepB t im (ss ++ r) i = true := by
 have key : ∀ j, j < ss.length → (ss ++ r).getD j default = ss.getD j default := fun j hj => by
  rw [List.getD_eq_getElem?_getD, List.getElem?_append_left hj, ← List.getD_eq_getElem?_getD]
 simp only [stepB] at h ⊢
 rw [key i hi]
 split at h
 ·rename_i h1; rw [if_pos h1]; exact h
 rename_i h1
 rw [if_neg h1]
 split at h
 ·rename_i h2
  rw [if_pos h2]
  simp only [Bool.and_eq_true] at h
  have ha := befB_iff.1 h.1.1.2
  have hb := befB_iff.1 h.1.2
  rw [key _ (by omega), key _ (by omega)]
  simp only [Bool.and_eq_true]; exact h
 rename_i h2
 rw [if_neg h2]
 split at h
 ·rename_i h3
  rw [if_pos h3]
  simp only [Bool.and_eq_true] at h
  have ha := befB_iff.1 h.1.1.2
  rw [key _ (by omega)]
  simp only [Bool.and_eq_true]; exact h
 ·cases h
structure Ders (t : List (List Int)) (im : List Int) (ss : List StepV) : Prop where
 ok : stepsTo t im ss ss.length
 uc : ∀ i, i < ss.length → ∃ s : Nat, (ss.getD i default).set = (s : Int) ∧ s < 2 ^ t.length ∧ UC t im s
 wz : ∀ i, i < ss.length → (ss.getD i default).word.size ≤ maxLen
theorem Ders.nil : Ders t im [] := ⟨fun i hi => absurd hi (by simp), fun i hi => absurd hi (by simp), fun i hi => absurd hi (by simp)⟩
theorem sY (ss : List StepV) (st : StepV) : (ss ++ [st]).getD ss.length default = st := by
 rw [List.getD_eq_getElem?_getD, List.getElem?_append_right (Nat.le_refl _)]; simp
theorem getD_old (ss : List StepV) (st : StepV) {j : Nat} (hj : j < ss.length) : (ss ++ [st]).getD j default = ss.getD j default := by
 rw [List.getD_eq_getElem?_getD, List.getElem?_append_left hj, ← List.getD_eq_getElem?_getD]
theorem Ders.push {ss : List StepV} {st : StepV} {s : Nat} (h : Ders t im ss) (hs : stepB t im (ss ++ [st]) ss.length = true) (he : st.set = (s : Int)) (hl : s < 2 ^ t.length) (hu : UC t im s) (hw : st.word.size ≤ maxLen) : Ders t im (ss ++ [st]) where
 ok := fun i hi => by
  rw [List.length_append, List.length_singleton] at hi
  rcases Nat.lt_succ_iff_lt_or_eq.1 hi with hi | rfl
  ·exact step_more hi (h.ok i hi)
  ·exact hs
 uc := fun i hi => by
  rw [List.length_append, List.length_singleton] at hi
  rcases Nat.lt_succ_iff_lt_or_eq.1 hi with hi | rfl
  ·rw [getD_old ss st hi]; exact h.uc i hi
  ·rw [sY]; exact ⟨s, he, hl, hu⟩
 wz := fun i hi => by
  rw [List.length_append, List.length_singleton] at hi
  rcases Nat.lt_succ_iff_lt_or_eq.1 hi with hi | rfl
  ·rw [getD_old ss st hi]; exact h.wz i hi
  ·rw [sY]; exact hw
theorem Ders.word (hg : Good t im) {ss : List StepV} (h : Ders t im ss) {wd : ByteArray} (hv : yI wd im.length = true) : Ders t im (ss ++ [⟨1, 0, 0, wd, ((2 ^ walkV t im (oneN t) wd.data.toList : Nat) : Int)⟩]) := by
 have hl : ∀ c ∈ wd.data.toList, uW im.length c = true := by
  have := hv
  simp only [yI, Bool.and_eq_true, List.all_eq_true] at this; exact this.2
 have hz : wd.size ≤ maxLen := by
  have := hv
  simp only [yI, Bool.and_eq_true, decide_eq_true_eq] at this
  unfold maxLen; omega
 have ho := (tS hg).1
 refine h.push ?_ rfl (Nat.pow_lt_pow_right (by omega) (walkV_lt hg _ _ hl ho)) (uc_word hg _ _ ho (uc_one hg) hl) hz
 rw [stepB_word (sY ss _).symm rfl]
 simp [hv]
theorem Ders.product (hg : Good t im) {ss : List StepV} (h : Ders t im ss) {a b za zb : Nat} (ha : a < ss.length) (hb : b < ss.length) (ea : (ss.getD a default).set = (za : Int)) (eb : (ss.getD b default).set = (zb : Int)) : Ders t im (ss ++ [⟨2, a, b, ⟨#[]⟩, ((zV t.length (entN t) za zb : Nat) : Int)⟩]) := by
 obtain ⟨sa, h1, h2, h3⟩ := h.uc a ha
 obtain ⟨sb, k1, k2, k3⟩ := h.uc b hb
 have e1 : sa = za := by omega
 have e2 : sb = zb := by omega
 subst e1; subst e2
 refine h.push ?_ rfl (wJ (tb_of hg.valid).lt _ _) (uc_prod hg h3 k3) (Nat.zero_le _)
 rw [stepB_prod (sY ss _).symm rfl]
 have x1 : befB (a : Int) ss.length = true := befB_iff.2 ⟨by omega, by omega⟩
 have x2 : befB (b : Int) ss.length = true := befB_iff.2 ⟨by omega, by omega⟩
 simp only [Bool.and_eq_true, decide_eq_true_eq]
 refine ⟨⟨⟨by rw [ByteArray.toList_eq]; rfl, x1⟩, x2⟩, ?_⟩
 have e3 : ∀ st : StepV, ((ss ++ [st]).getD ((a : Nat) : Int).toNat default).set = (sa : Int) := fun st => by rw [Int.toNat_natCast, getD_old ss st ha, ea]
 have e4 : ∀ st : StepV, ((ss ++ [st]).getD ((b : Nat) : Int).toNat default).set = (sb : Int) := fun st => by rw [Int.toNat_natCast, getD_old ss st hb, eb]
 rw [e3, e4, Int.toNat_natCast, Int.toNat_natCast]
theorem Ders.om (hg : Good t im) {ss : List StepV} (h : Ders t im ss) {a za : Nat} (ha : a < ss.length) (ea : (ss.getD a default).set = (za : Int)) : Ders t im (ss ++ [⟨3, a, 0, ⟨#[]⟩, ((yQ t.length (entN t) za : Nat) : Int)⟩]) := by
 obtain ⟨sa, h1, h2, h3⟩ := h.uc a ha
 have e1 : sa = za := by omega
 subst e1
 refine h.push ?_ rfl (sN (tb_of hg.valid) h2) (uc_omega hg h3) (Nat.zero_le _)
 rw [stepB_om (sY ss _).symm rfl]
 have x1 : befB (a : Int) ss.length = true := befB_iff.2 ⟨by omega, by omega⟩
 simp only [Bool.and_eq_true, decide_eq_true_eq]
 refine ⟨⟨⟨by rw [ByteArray.toList_eq]; rfl, x1⟩, trivial⟩, ?_⟩
 have e3 : ∀ st : StepV, ((ss ++ [st]).getD ((a : Nat) : Int).toNat default).set = (sa : Int) := fun st => by rw [Int.toNat_natCast, getD_old ss st ha, ea]
 rw [e3, Int.toNat_natCast]
theorem within_uc (hg : Good t im) {s : Nat} (hs : s < 2 ^ t.length) (h : UC t im s) : withinB (intL (closeL t im)) (s : Int) = true := by
 obtain ⟨b, hb, e⟩ := yS.1 h
 have hbl := (close_all hg).2.2 b hb
 have hp : 2 ^ t.length ≤ 2 ^ 12 := Nat.pow_le_pow_right (by omega) hg.le
 refine List.any_eq_true.2 ⟨(b : Int), List.mem_map.2 ⟨b, hb, rfl⟩, ?_⟩
 rw [sX b s (by omega) (by omega), Nat.and_comm, e]; simp
theorem Ders.derB {ss : List StepV} (h : Ders t im ss) (hz : xT t im = 0) (h0 : 0 < ss.length) : derB t im ss = true := derB_yes hz h0 h.ok
end
theorem elem_u8 : ElemOk Tryd.prog 89 5 (.int .u8 0) 1 := ⟨Tryd.underlying89, by kernel_rfl, rfl⟩
def okNum (letters : Int) (n : Int) : Prop := 97 ≤ n ∧ n < 97 + letters
def Worded (B tb : Nat) (w : World) (letters most : Int) (e : Ending) (w' : World) : Prop :=
 ∃ l : List Int, e = .returned (.string (strOfNums l)) ∧ (l.length : Int) ≤ most ∧ (∀ n ∈ l, okNum letters n) ∧ xC B w' tb ∧ w.grownBy w' (some tb)
set_option maxRecDepth 100000 in
set_option maxHeartbeats 400000 in
theorem word_any (B tb : Nat) (w : World) (letters most : Int) (h1 : 1 ≤ letters) (h6 : letters ≤ 6) (h0 : 0 ≤ most) (hm : most ≤ 1000) (hT : xC B w tb) :
  Calls Tryd.prog 31 #[.pointer (some ⟨tb, 0, none⟩), .int .i64 letters, .int .i64 most] w (Worded B tb w letters most) := by
 have htb := hT.lt
 go_enter Tryd.func31, Tryd.ntmps31
 go_wp2_with fail
 refine (vH B tb _ _ (by omega) hT).mono ?_
 rintro e w1 ⟨r, rfl, hr0, hr1, hT1, hg1⟩
 replace hr1 := hr1 (by omega)
 go_wp2
 go_loopw [7, 8] (fun v i wr => ∃ (sa : Option Addr) (sc : Nat) (l : List Int) (r : Int), v = .slice sa l.length sc ∧ i = .int .i64 r ∧ 0 ≤ r ∧ (l.length : Int) + r ≤ most ∧ wr.ownsRow w.heap.size 5 1 (.slice sa l.length sc) l.length (l.map (Value.int .u8)) ∧ (∀ n ∈ l, okNum letters n) ∧ xC B wr tb ∧ w.grownBy wr (some tb))
  (fun _ i _ => (intOf i).toNat)
 case atStart => exact ⟨none, 0, [], r, rfl, rfl, hr0, by simp; omega, World.ownsRow_nil _ _ _ _, by simp, hT1, hg1⟩
 case round =>
  clear hT1 hg1
  obtain ⟨sa, sc, l, r, rfl, rfl, hr0, hlr, hown, hok, hTr, hgr⟩ := hrel
  have hsz := hgr.size
  by_cases hp : 0 < r
  ·go_wp2_with fail
   refine (vH B tb _ _ (by omega) hTr).mono ?_
   rintro e w2 ⟨x, rfl, hx0, hx1, hT2, hg2⟩
   replace hx1 := hx1 (by omega)
   have hown2 := zY hown hg2 (by simpa using htb)
   have hsz2 := hg2.size
   go_wp2_with (at_builtin; refine app1 rfl _ _ _ rfl elem_u8 w.heap.size _ l.length (l.map (Value.int .u8)) rfl hown2 _ rfl rfl ?c1 ?c2 ?c3 ?_)
   case c1 => unfold maxLen; omega
   case c2 => omega
   case c3 => omega
   intro sa' sc' w3 hown3 hg3 hlt3
   have hlen : (l ++ [97 + x]).length = l.length + 1 := by simp
   have hb := fun k (e : (Value.slice sa l.length sc).ownBlock = some k) => (hown2.lt k e).1
   go_wp2
   go_roundw
   case rel =>
    refine ⟨sa', sc', l ++ [97 + x], r - 1, by rw [hlen], by go_num, by omega, by omega, ?_, ?_, hT2.kept hg3 ?_, ?_⟩
    ·rw [hlen, List.map_append]; exact hown3
    ·intro n hn
     rcases List.mem_append.1 hn with hn | hn
     ·exact hok n hn
     ·simp at hn; subst hn; exact ⟨by omega, by omega⟩
    ·intro k e; have := hb k e; have := hTr.ge; omega
    ·exact grownBy_trans (zG hgr hg2) hg3 (.inr (.inl rfl)) (by
      rcases hv : (Value.slice sa l.length sc).ownBlock with _ | k
      ·exact .inl rfl
      ·exact .inr (.inr ⟨k, rfl, hb k hv⟩))
   case measure => simp [intOf]; omega
  ·have hst := fun dst hd => run_bytes_own (P := Tryd.prog) 89 5 Tryd.underlying89 Tryd.underlying5 dst hd hown
   have hst' := hst 9 Tryd.underlying9
   clear hst
   go_wp2
   go_ret
   exact ⟨l, rfl, by omega, hok, hTr, hgr⟩
theorem app5 {P : Program} {w : World} {ops : Array Oper} {rest : List Oper} {o : Oper} {a : Act} {Q : Exit → Act → World → Prop} (hgd : o.guard = none) (s x : Operand) (t : TypeId)
  (ho : o.op = .call { callee := .builtin .append, args := #[s, x], argTypes := #[t, t] })
  {e : TypeId} {z : Value} {bytes : Nat} (E : Elem5 P t e z bytes) (base : Nat) (v : Value) (n : Nat) (xs : List Value) (hs : a.eval s = v) (hown : w.ownsRow base e 5 v n xs)
  (st : StepV) (hx : a.eval x = .slice (some ⟨w.heap.size, 0, none⟩) 1 1) (h63 : n + 1 ≤ maxLen) (hbytes : (n + 1) * bytes ≤ 140737488355328) (hbase : base ≤ w.heap.size)
  (h : ∀ sa sc w', w'.ownsRow base e 5 (.slice sa (n + 1) sc) (n + 1) (xs ++ st.vals) → w.grownBy w' v.ownBlock → wpList P ops Q rest (a.put o.dst (.slice sa (n + 1) sc)) w') :
  wpList P ops Q (o :: rest) a (w.alloc (.cells #[.int .i64 st.op, .int .i64 st.a, .int .i64 st.b, .string st.word, .int .i64 st.set] e)) :=
 wpList_plain hgd fun _ hK => wp_app5 s x t ho E base v n xs hs (hown.alloc _) st w.heap.size hx (0, 0) (heap_alloc_new w _) h63 hbytes (by simp; omega) fun sa sc w' h2 h3 => hK _ _ (h sa sc w' h2 (zG (World.grownBy_alloc w _ _) h3))
theorem set_same {w : World} {g i e : Nat} {c : Array Value} {u : Value} (h : w.heap[g]? = some (.cells c e (0, 0))) (hu : w.cell? ⟨g, i, none⟩ = some u) : w.grownBy (w.setCell ⟨g, i, none⟩ u) none := by
 have h1 := heap_setCell_same w g i _ _ u h
 have h2 := zH w ⟨g, i, none⟩ u
 refine ⟨h2.os, h2.tape, h2.output, h2.size, fun k hk _ => ?_⟩
 by_cases hkg : k = g
 ·subst hkg
  rw [h1, h]
  have hc : c[i]? = some u := by rw [cell_of_row w k i _ _ _ h] at hu; exact hu
  have : c.setIfInBounds i u = c := by
   apply Array.ext
   ·simp
   ·intro j h3 h4
    rw [Array.getElem_setIfInBounds]
    split
    ·rename_i hij
     subst hij
     rw [Array.getElem?_eq_getElem h4] at hc
     exact (Option.some.inj hc).symm
    ·rfl
  rw [this]
 ·exact h2.block k hk (fun e => hkg (Option.some.inj e))
theorem xX {w w' : World} {base e : Nat} {v : Value} {n : Nat} {xs : List Value} {row : Option Nat} (h : w.ownsRow base e 5 v n xs) (hg : w.grownBy w' row) (hr : ∀ k, row = some k → k < base) : w'.ownsRow base e 5 v n xs := by
 refine h.kept hg ?_
 rcases hv : v.ownBlock with _ | k
 ·exact .inl rfl
 ·refine .inr fun e => ?_
  have := hr k e.symm
  have := (h.lt k hv).1
  omega
theorem wordValid_of {l : List Int} {letters : Int} (h1 : 1 ≤ letters) (h6 : letters ≤ 6) (hl : (l.length : Int) ≤ 4) (hk : ∀ n ∈ l, okNum letters n) : yI (strOfNums l) letters = true := by
 simp only [yI, Bool.and_eq_true, decide_eq_true_eq, List.all_eq_true]
 refine ⟨⟨h1, h6, by rw [strOfNums_size]; omega⟩, fun c hc => ?_⟩
 rw [strOfNums_data] at hc
 obtain ⟨n, hn, rfl⟩ := List.mem_map.1 hc
 obtain ⟨k1, k2⟩ := hk n hn
 have e : (UInt8.ofNat n.toNat).toNat = n.toNat := by rw [UInt8.toNat_ofNat']; omega
 simp only [uW, decide_eq_true_eq]
 omega
set_option maxRecDepth 100000 in
set_option maxHeartbeats 4000000 in
theorem against_walk (w : World) (sl sr sw : Value) (zs rs qs : List Int) (h : Row w.heap.size w sl (zs.map (Value.int .i64))) (h' : Row w.heap.size w sr (rs.map (Value.int .i64))) (h'' : Row w.heap.size w sw (qs.map (Value.int .i64))) (hT : TabOk w) :
    Calls Tryd.prog 7 #[sl, sr, sw] w fun e w' => e = .returned (.bool true) ∧ w.grownBy w' none := by
  obtain ⟨sA, sC, rfl⟩ := h.shape
  obtain ⟨sl, hsl⟩ : ∃ sl, sl = (zs.map (Value.int .i64)).length := ⟨_, rfl⟩
  rw [← hsl] at h ⊢
  have hpl := h'.len_le
  obtain ⟨pA, pC, rfl⟩ := h'.shape
  rw [List.length_map] at h' hpl ⊢
  unfold maxLen at hpl
  obtain ⟨qA, qC, rfl⟩ := h''.shape
  obtain ⟨ql, hql⟩ : ∃ ql, ql = (qs.map (Value.int .i64)).length := ⟨_, rfl⟩
  rw [← hql] at h'' ⊢
  have HNW := Kh (new_any w.heap.size w (.slice sA sl sC) zs h (Nat.le_refl _))
  have HT := Kh hT; have HP := Kh h'; have HQ := Kh h''
  clear h hT hsl h' h'' hql
  go_enter Tryd.func7, Tryd.ntmps7
  go_wp2_with fail
  refine HNW.out.mono ?_
  rintro e w1 ⟨rfl, hT1, hg1⟩
  have HTA := Kh (table40_any w.heap.size w.heap.size 7 w1 (by omega) hT1)
  have HG1 := Kh hg1
  clear hT1 hg1
  go_wp2_with fail
  refine HTA.out.mono ?_
  rintro e w2 ⟨T, im0, vT, vI, rfl, hTm, hIm, hTE, hTp, hg2⟩
  have hg02 := zF HG1.out hg2 (fun j e => by have e : w.heap.size = j := Option.some.inj e; omega)
  have HG2 := Kh hg02
  have HT2 := Kh (HT.out.kept hg02 (by simp))
  have hgood := hTE.good (by omega) (by omega)
  have hmat := (TMatT.tmat hTm).mat
  have him := hIm.row
  rw [nats_ints] at him
  obtain ⟨tA, tC, rfl⟩ := (TMatT.tmat hTm).shape
  obtain ⟨iA, iC, rfl⟩ := hIm.shape
  obtain ⟨t, ht⟩ : ∃ t, t = tabI T := ⟨_, rfl⟩
  obtain ⟨im, him2⟩ : ∃ im, im = im0.map fun (x : Nat) => (x : Int) := ⟨_, rfl⟩
  have hil2 : (nats im0).length = im.length := by rw [him2]; simp [nats]
  rw [← ht, ← him2] at hgood
  obtain ⟨hgd, hl8, hlt, _⟩ := hgood
  have htl : T.length = t.length := hlt.symm
  rw [← ht, htl] at hmat
  rw [← him2, hil2] at him
  rw [htl, hil2]
  have HM2 := Kh hmat; have HI2 := Kh him; have HGA2 := Kh (zW w2 none)
  have HZ : Hid (xT t im = 0) := Kh (checkE_good.2 hgd)
  have HGD := Kh hgd; have HTB := Kh (tb_of hgd.valid)
  have hle := hgd.le
  have him0 := hgd.im0
  have him6 := hgd.im6
  clear hTm hIm hTE hTp hg2 hg02 hmat ht him him2 hil2 hgd hl8 hlt htl
  go_wp2_with fail
  refine (closure_any w2.heap.size w2 _ _ t im (Nat.le_refl _) HM2.out HI2.out HT2.out).mono ?_
  rintro e w3 ⟨hg3, ⟨hne, _⟩ | ⟨_, v3, rfl, hrow3⟩⟩
  · exact absurd HZ.out hne
  obtain ⟨a3, c3, rfl⟩ := hrow3.shape
  rw [zN] at hrow3 ⊢
  have HR3 := Kh hrow3
  have HG3 := Kh (zF HG2.out hg3 (by simp)); have HGA3 := Kh (zF HGA2.out hg3 (by simp))
  obtain ⟨cl, hcl⟩ : ∃ cl, cl = (closeL t im).length := ⟨_, rfl⟩
  rw [← hcl] at HR3 ⊢
  have HNW2 := Kh (new_any w3.heap.size w3 (.slice qA ql qC) qs ((HQ.out.kept HG3.out (by simp)).mono HG3.out.size) (Nat.le_refl _))
  clear hg3 hrow3 hcl
  go_wp2_with fail
  refine HNW2.out.mono ?_
  rintro e w4 ⟨rfl, hT4, hg4⟩
  obtain ⟨tb, htb⟩ : ∃ tb, tb = w3.heap.size := ⟨_, rfl⟩
  have HG4 := Kh (zF HG3.out hg4 (by simp)); have HGA4 := Kh (zF HGA3.out hg4 (by simp))
  have HR4 := Kh (HR3.out.kept hg4 (by simp))
  have htbw : w2.heap.size ≤ tb := by rw [htb]; exact HGA3.out.size
  have htb0 : w.heap.size ≤ tb := by rw [htb]; exact HG3.out.size
  rw [← htb] at hT4 HR4 ⊢
  have HT4 := Kh hT4
  have hz4 := hg4.size
  obtain ⟨z5, by5, E5, hby5⟩ := elem_step
  have HE5 := Kh E5
  obtain ⟨base, hbase⟩ : ∃ base, base = w4.heap.size := ⟨_, rfl⟩
  have hbz : base ≤ w4.heap.size := by omega
  have htbb : tb < base := by rw [hbase]; exact HT4.out.lt
  clear hg4 hT4 E5 htb hz4 hbase HNW HTA HNW2
  go_wp2
  -- LOOP
  go_loopg [12, 13] 12 (fun gh v12 iv wr => ∃ (i n : Nat) (sa : Option Addr) (sc : Nat) (ss : List StepV), gh + i = 12 ∧ iv = .int .i64 (i : Int) ∧ v12 = .slice sa n sc ∧ Hid (n = ss.length) ∧ n ≤ i ∧ Hid (wr.ownsRow base 60 5 (.slice sa n sc) n (vS ss)) ∧ Hid (Ders t im ss) ∧ xC tb wr tb ∧ w.grownBy wr none ∧ w2.grownBy wr none ∧ Row tb wr (.slice a3 cl c3) (nats (closeL t im)) ∧ base ≤ wr.heap.size)
  case atStart => exact ⟨0, 0, none, 0, [], rfl, rfl, rfl, Kh rfl, Nat.le_refl _, Kh (World.ownsRow_nil _ _ _ _), Kh Ders.nil, HT4.out, HG4.out, HGA4.out, HR4.out, hbz⟩
  case round =>
    clear HT4 HG4 HGA4 HR4 hbz HG3 HGA3 HR3
    obtain ⟨i, n, sa, sc, ss, hgh, rfl, rfl, HL, hni, HO, HD, htp, hgw, hga, hrr, hbw⟩ := hrel
    obtain ⟨wo, rfl⟩ : ∃ wo : World, wo = wr := ⟨_, rfl⟩
    have hi12 : i ≤ 12 := by omega
    have HGH := Kh hgh; have HTP := Kh htp; have HGW := Kh hgw; have HGA := Kh hga; have HRR := Kh hrr
    clear hgh htp hgw hga hrr
    by_cases hgo : i < rs.length ∧ i < 12
    · obtain ⟨hi1, hi2⟩ := hgo
      have hi1' : (i : Int) < rs.length := by omega
      have hi2' : (i : Int) < 12 := by omega
      obtain ⟨pb, po, pcap, pe, hpB, hp1, hp2, hpr⟩ := HP.out.some_ (by rw [List.length_map]; omega)
      rw [List.length_map] at pe hp1
      simp only [Value.slice.injEq] at pe
      obtain ⟨rfl, _, rfl⟩ := pe
      have hpm : pC ≤ 9223372036854775807 := by unfold maxLen at hp2; omega
      have hpc := (hpr.kept HGW.out (by simp)).map i hi1
      obtain ⟨ri, hri⟩ : ∃ ri, ri = rs[i] := ⟨_, rfl⟩
      rw [← hri] at hpc
      clear hpr hri hp2
      by_cases hn0 : n = 0
      · have hn0' : ((n : Int) == 0) = true := by rw [hn0]; rfl
        clear hn0
        have hw := word_any tb tb wo im.length 4 (by omega) (by omega) (by omega) (by omega) HTP.out
        have HWO := Kh hw
        clear hw
        go_wp2_with fail
        refine HWO.out.mono ?_
        rintro e w5 ⟨l, rfl, hl4, hlk, hT5, hg5⟩
        have hwv := wordValid_of (by omega) (by omega) hl4 hlk
        obtain ⟨WD, hWD⟩ : ∃ WD, WD = strOfNums l := ⟨_, rfl⟩
        rw [← hWD] at hwv ⊢
        have HTP5 := Kh hT5
        have HGW5 := Kh (zF HGW.out hg5 (fun j e => by have e : tb = j := Option.some.inj e; omega)); have HGA5 := Kh (zF HGA.out hg5 (fun j e => by have e : tb = j := Option.some.inj e; omega))
        have HRR5 := Kh (HRR.out.kept hg5 (fun j e => by have e : tb = j := Option.some.inj e; omega))
        have HO5 := Kh (xX HO.out hg5 (fun j e => by have e : tb = j := Option.some.inj e; omega))
        have hz5 : base ≤ w5.heap.size := Nat.le_trans hbw hg5.size
        have hvl := walkV_lt HGD.out WD.data.toList (oneN t) (by
          have := hwv
          simp only [yI, Bool.and_eq_true, List.all_eq_true] at this
          exact this.2) (tS HGD.out).1
        have hval := value14_any w2.heap.size w5 _ _ t im WD ((HM2.out.kept HGA5.out (by simp))) ((HI2.out.kept HGA5.out (by simp))) HGD.out hwv
        have HND := Kh (HD.out.word HGD.out hwv)
        have HE0 : Hid (WD.toList.isEmpty = true → walkV t im (oneN t) WD.data.toList = oneN t) := Kh (fun he => by
          rw [ByteArray.toList_eq, List.isEmpty_iff] at he
          rw [he]; rfl)
        obtain ⟨V, hV⟩ : ∃ V, V = walkV t im (oneN t) WD.data.toList := ⟨_, rfl⟩
        rw [← hV] at hvl hval HND HE0
        have HVAL := Kh hval
        have hsh := shl_eq (m := V) (by omega)
        have hsh' := shl_eq' (m := V) (by omega)
        obtain ⟨X, hX⟩ : ∃ X, X = 2 ^ V := ⟨_, rfl⟩
        rw [← hX] at hsh hsh' HND
        have HXE : Hid (V = oneN t → X = 2 ^ oneN t) := Kh (fun h => by rw [hX, h])
        clear hV hX hval hT5 hg5 hwv hWD hl4 hlk HWO
        go_wp2_with fail
        refine HVAL.out.mono ?_
        rintro e w6 ⟨rfl, m6, rfl⟩
        have hg6 := zL w5 m6 none
        obtain ⟨w6, hw6⟩ : ∃ w6, w6 = w5.drewN m6 := ⟨_, rfl⟩
        rw [← hw6] at hg6 ⊢
        have HO6 := xX HO5.out hg6 (by simp)
        have hz6 := hg6.size
        clear hw6
        go_wp2_with (at_builtin; refine app5 rfl (.tmp 83) (.tmp 92) _ rfl HE5.out base _ n (vS ss) rfl HO6 ⟨1, 0, 0, WD, (X : Int)⟩ rfl ?a1 ?a2 ?a3 ?_)
        case a1 => unfold maxLen; omega
        case a2 => have : (n + 1) * by5 ≤ 13 * 64 := Nat.mul_le_mul (by omega) hby5
                   omega
        case a3 => omega
        intro s7 c7 w7 hown7 hg7
        rw [← tW] at hown7
        have hb7 := fun j (e : (Value.slice sa n sc).ownBlock = some j) => (HO6.lt j e).1
        have HGW7 := Kh (zF (zF HGW5.out hg6 (by simp)) hg7 (fun j e => by have := hb7 j e; omega)); have HGA7 := Kh (zF (zF HGA5.out hg6 (by simp)) hg7 (fun j e => by have := hb7 j e; omega))
        have HRR7 := Kh ((HRR5.out.kept hg6 (by simp)).kept hg7 (fun j e => by have := hb7 j e; omega))
        have HTP7 := Kh ((HTP5.out.kept hg6 (by simp)).kept hg7 (fun j e => by have := hb7 j e; omega))
        have hz7 : base ≤ w7.heap.size := by have := hg7.size; omega
        have HNL : Hid (n + 1 = (ss ++ [(⟨1, 0, 0, WD, (X : Int)⟩ : StepV)]).length) := Kh (by rw [List.length_append, ← HL.out]; rfl)
        have HO7 := Kh hown7
        clear hg6 hg7 hown7 HO6 HO5 HGW5 HGA5 HRR5 HTP5 hb7 hsh hsh' HVAL
        obtain ⟨eb, heb⟩ : ∃ eb, eb = WD.toList.isEmpty := ⟨_, rfl⟩
        have heb2 := heb.symm
        have HEB := Kh heb
        clear heb
        cases eb with
        | false =>
          go_wp2
          go_roundg (12 - (i + 1))
          case measure => have := HGH.out; omega
          case rel => exact ⟨i + 1, n + 1, s7, c7, ss ++ [(⟨1, 0, 0, WD, (X : Int)⟩ : StepV)], by have := HGH.out; omega, by go_num, rfl, HNL, by omega, HO7, HND, HTP7.out, HGW7.out, HGA7.out, HRR7.out, hz7⟩
        | true =>
          have hone := (tS HGD.out).1
          have hXo : X = 2 ^ oneN t := HXE.out (HE0.out HEB.out.symm)
          have hsh := shl_eq (m := oneN t) (by omega)
          have hsh' := shl_eq' (m := oneN t) (by omega)
          rw [← hXo] at hsh hsh'
          have HID := Kh (identity14_any w2.heap.size w7 _ t (HM2.out.kept HGA7.out (by simp)) (uE HGD.out.valid).1)
          rw [(tS HGD.out).2] at HID
          rcases id HO7.out.2 with ⟨e1, _⟩ | ⟨gk, cap, cur, e1, hgb, hgk, hgc1, hgc2, hcs, htake⟩
          · simp at e1
          simp only [Value.slice.injEq] at e1
          obtain ⟨rfl, _, rfl⟩ := e1
          have hcl := (StepsAt.of_owns HO7.out).set n (by rw [← HNL.out]; omega)
          have hgl : (ss ++ [(⟨1, 0, 0, WD, (X : Int)⟩ : StepV)]).getD n default = ⟨1, 0, 0, WD, (X : Int)⟩ := by rw [HL.out]; exact sY ss _
          rw [hgl] at hcl
          have hfz := frozen_of_row w7 gk (n * 5 + 4) _ _ hgk
          have hss := set_same hgk hcl
          have hc7 : c7 ≤ 9223372036854775807 := by unfold maxLen at hgc2; omega
          have HSS := Kh hss; have HGK := Kh hgk
          clear hss hgl hXo hgk hcs htake hgc2
          go_wp2_with fail
          refine HID.out.mono ?_
          rintro e w8 ⟨rfl, rfl⟩
          go_wp2
          go_roundg (12 - (i + 1))
          case measure => have := HGH.out; omega
          case rel =>
            exact ⟨i + 1, n + 1, some ⟨gk, 0, none⟩, c7, ss ++ [(⟨1, 0, 0, WD, (X : Int)⟩ : StepV)], by have := HGH.out; omega, by go_num, rfl, HNL, by omega, Kh (xX HO7.out HSS.out (by simp)), HND, HTP7.out.kept HSS.out (by simp), zF HGW7.out HSS.out (by simp), zF HGA7.out HSS.out (by simp), HRR7.out.kept HSS.out (by simp), Nat.le_trans hz7 HSS.out.size⟩
      · have hn0' : ((n : Int) == 0) = false := by rw [beq_eq_false_iff_ne]; omega
        go_wp2_with fail
        refine (mod_any _ _ _ (by omega)).mono ?_
        rintro e wq ⟨rfl, rfl⟩
        have hr0 := sS ri 3
        have hr3 := modI_lt ri 3 (by omega)
        obtain ⟨r3, hr3e⟩ : ∃ r3, r3 = modI ri 3 := ⟨_, rfl⟩
        have HR3E := Kh hr3e
        rw [← hr3e] at hr0 hr3 ⊢
        clear hr3e
        by_cases hra : r3 = 0
        · subst hra
          have hw := word_any tb tb wo im.length 4 (by omega) (by omega) (by omega) (by omega) HTP.out
          have HWO := Kh hw
          clear hw
          go_wp2_with fail
          refine HWO.out.mono ?_
          rintro e w5 ⟨l, rfl, hl4, hlk, hT5, hg5⟩
          have hwv := wordValid_of (by omega) (by omega) hl4 hlk
          obtain ⟨WD, hWD⟩ : ∃ WD, WD = strOfNums l := ⟨_, rfl⟩
          rw [← hWD] at hwv ⊢
          have HTP5 := Kh hT5
          have HGW5 := Kh (zF HGW.out hg5 (fun j e => by have e : tb = j := Option.some.inj e; omega)); have HGA5 := Kh (zF HGA.out hg5 (fun j e => by have e : tb = j := Option.some.inj e; omega))
          have HRR5 := Kh (HRR.out.kept hg5 (fun j e => by have e : tb = j := Option.some.inj e; omega))
          have HO5 := Kh (xX HO.out hg5 (fun j e => by have e : tb = j := Option.some.inj e; omega))
          have hz5 : base ≤ w5.heap.size := Nat.le_trans hbw hg5.size
          have hvl := walkV_lt HGD.out WD.data.toList (oneN t) (by
            have := hwv
            simp only [yI, Bool.and_eq_true, List.all_eq_true] at this
            exact this.2) (tS HGD.out).1
          have hval := value14_any w2.heap.size w5 _ _ t im WD ((HM2.out.kept HGA5.out (by simp))) ((HI2.out.kept HGA5.out (by simp))) HGD.out hwv
          have HND := Kh (HD.out.word HGD.out hwv)
          have HE0 : Hid (WD.toList.isEmpty = true → walkV t im (oneN t) WD.data.toList = oneN t) := Kh (fun he => by
            rw [ByteArray.toList_eq, List.isEmpty_iff] at he
            rw [he]; rfl)
          obtain ⟨V, hV⟩ : ∃ V, V = walkV t im (oneN t) WD.data.toList := ⟨_, rfl⟩
          rw [← hV] at hvl hval HND HE0
          have HVAL := Kh hval
          have hsh := shl_eq (m := V) (by omega)
          have hsh' := shl_eq' (m := V) (by omega)
          obtain ⟨X, hX⟩ : ∃ X, X = 2 ^ V := ⟨_, rfl⟩
          rw [← hX] at hsh hsh' HND
          have HXE : Hid (V = oneN t → X = 2 ^ oneN t) := Kh (fun h => by rw [hX, h])
          clear hV hX hval hT5 hg5 hwv hWD hl4 hlk HWO
          go_wp2_with fail
          refine HVAL.out.mono ?_
          rintro e w6 ⟨rfl, m6, rfl⟩
          have hg6 := zL w5 m6 none
          obtain ⟨w6, hw6⟩ : ∃ w6, w6 = w5.drewN m6 := ⟨_, rfl⟩
          rw [← hw6] at hg6 ⊢
          have HO6 := xX HO5.out hg6 (by simp)
          have hz6 := hg6.size
          clear hw6
          go_wp2_with (at_builtin; refine app5 rfl (.tmp 83) (.tmp 92) _ rfl HE5.out base _ n (vS ss) rfl HO6 ⟨1, 0, 0, WD, (X : Int)⟩ rfl ?a1 ?a2 ?a3 ?_)
          case a1 => unfold maxLen; omega
          case a2 => have : (n + 1) * by5 ≤ 13 * 64 := Nat.mul_le_mul (by omega) hby5
                     omega
          case a3 => omega
          intro s7 c7 w7 hown7 hg7
          rw [← tW] at hown7
          have hb7 := fun j (e : (Value.slice sa n sc).ownBlock = some j) => (HO6.lt j e).1
          have HGW7 := Kh (zF (zF HGW5.out hg6 (by simp)) hg7 (fun j e => by have := hb7 j e; omega)); have HGA7 := Kh (zF (zF HGA5.out hg6 (by simp)) hg7 (fun j e => by have := hb7 j e; omega))
          have HRR7 := Kh ((HRR5.out.kept hg6 (by simp)).kept hg7 (fun j e => by have := hb7 j e; omega))
          have HTP7 := Kh ((HTP5.out.kept hg6 (by simp)).kept hg7 (fun j e => by have := hb7 j e; omega))
          have hz7 : base ≤ w7.heap.size := by have := hg7.size; omega
          have HNL : Hid (n + 1 = (ss ++ [(⟨1, 0, 0, WD, (X : Int)⟩ : StepV)]).length) := Kh (by rw [List.length_append, ← HL.out]; rfl)
          have HO7 := Kh hown7
          clear hg6 hg7 hown7 HO6 HO5 HGW5 HGA5 HRR5 HTP5 hb7 hsh hsh' HVAL
          obtain ⟨eb, heb⟩ : ∃ eb, eb = WD.toList.isEmpty := ⟨_, rfl⟩
          have heb2 := heb.symm
          have HEB := Kh heb
          clear heb
          cases eb with
          | false =>
            go_wp2
            go_roundg (12 - (i + 1))
            case measure => have := HGH.out; omega
            case rel => exact ⟨i + 1, n + 1, s7, c7, ss ++ [(⟨1, 0, 0, WD, (X : Int)⟩ : StepV)], by have := HGH.out; omega, by go_num, rfl, HNL, by omega, HO7, HND, HTP7.out, HGW7.out, HGA7.out, HRR7.out, hz7⟩
          | true =>
            have hone := (tS HGD.out).1
            have hXo : X = 2 ^ oneN t := HXE.out (HE0.out HEB.out.symm)
            have hsh := shl_eq (m := oneN t) (by omega)
            have hsh' := shl_eq' (m := oneN t) (by omega)
            rw [← hXo] at hsh hsh'
            have HID := Kh (identity14_any w2.heap.size w7 _ t (HM2.out.kept HGA7.out (by simp)) (uE HGD.out.valid).1)
            rw [(tS HGD.out).2] at HID
            rcases id HO7.out.2 with ⟨e1, _⟩ | ⟨gk, cap, cur, e1, hgb, hgk, hgc1, hgc2, hcs, htake⟩
            · simp at e1
            simp only [Value.slice.injEq] at e1
            obtain ⟨rfl, _, rfl⟩ := e1
            have hcl := (StepsAt.of_owns HO7.out).set n (by rw [← HNL.out]; omega)
            have hgl : (ss ++ [(⟨1, 0, 0, WD, (X : Int)⟩ : StepV)]).getD n default = ⟨1, 0, 0, WD, (X : Int)⟩ := by rw [HL.out]; exact sY ss _
            rw [hgl] at hcl
            have hfz := frozen_of_row w7 gk (n * 5 + 4) _ _ hgk
            have hss := set_same hgk hcl
            have hc7 : c7 ≤ 9223372036854775807 := by unfold maxLen at hgc2; omega
            have HSS := Kh hss; have HGK := Kh hgk
            clear hss hgl hXo hgk hcs htake hgc2
            go_wp2_with fail
            refine HID.out.mono ?_
            rintro e w8 ⟨rfl, rfl⟩
            go_wp2
            go_roundg (12 - (i + 1))
            case measure => have := HGH.out; omega
            case rel =>
              exact ⟨i + 1, n + 1, some ⟨gk, 0, none⟩, c7, ss ++ [(⟨1, 0, 0, WD, (X : Int)⟩ : StepV)], by have := HGH.out; omega, by go_num, rfl, HNL, by omega, Kh (xX HO7.out HSS.out (by simp)), HND, HTP7.out.kept HSS.out (by simp), zF HGW7.out HSS.out (by simp), zF HGA7.out HSS.out (by simp), HRR7.out.kept HSS.out (by simp), Nat.le_trans hz7 HSS.out.size⟩
        · have hra' : (r3 == 0) = false := by rw [beq_eq_false_iff_ne]; exact hra
          go_wp2_with fail
          refine (mod_any _ _ _ (by omega)).mono ?_
          rintro e wq ⟨rfl, rfl⟩
          rw [← HR3E.out]
          by_cases hrb : r3 = 1
          · subst hrb
            clear hra'
            obtain ⟨xa, hxa⟩ : ∃ A : Nat, (A : Int) = modI (wrap64 (ri.tdiv 3)) n := ⟨(modI (wrap64 (ri.tdiv 3)) n).toNat, by have := sS (wrap64 (ri.tdiv 3)) n; omega⟩
            obtain ⟨xb, hxb⟩ : ∃ A : Nat, (A : Int) = modI (wrap64 (ri.tdiv 50)) n := ⟨(modI (wrap64 (ri.tdiv 50)) n).toNat, by have := sS (wrap64 (ri.tdiv 50)) n; omega⟩
            have hxal : xa < n := by have := modI_lt (wrap64 (ri.tdiv 3)) n (by omega); omega
            have hxbl : xb < n := by have := modI_lt (wrap64 (ri.tdiv 50)) n (by omega); omega
            have HXA := Kh hxa; have HXB := Kh hxb
            clear hxa hxb
            go_wp2
            go_quiet ((go_at_call 19; exact xM (mod_any _ _ _ (by omega))))
            rw [← HXA.out, ← HXB.out]
            rcases id HO.out.2 with ⟨e1, e2⟩ | ⟨gk, cap, cur, e1, hgb, hgk, hgc1, hgc2, hcs, htake⟩
            · simp only [Value.slice.injEq] at e1; omega
            simp only [Value.slice.injEq] at e1
            obtain ⟨rfl, _, rfl⟩ := e1
            have hc7 : sc ≤ 9223372036854775807 := by unfold maxLen at hgc2; omega
            have hsat := StepsAt.of_owns HO.out
            have hca := hsat.set xa (by rw [← HL.out]; exact hxal)
            have hcb := hsat.set xb (by rw [← HL.out]; exact hxbl)
            obtain ⟨za, ea, hza, _⟩ := HD.out.uc xa (by rw [← HL.out]; exact hxal)
            obtain ⟨zb, eb, hzb, _⟩ := HD.out.uc xb (by rw [← HL.out]; exact hxbl)
            rw [ea] at hca
            rw [eb] at hcb
            have HND := Kh (HD.out.product HGD.out (by rw [← HL.out]; exact hxal) (by rw [← HL.out]; exact hxbl) ea eb)
            obtain ⟨w5, hw5⟩ : ∃ w5, w5 = (wo.drewN nq).drew := ⟨_, rfl⟩
            have hg5 : wo.grownBy w5 none := by rw [hw5]; exact zG (zL wo nq none) (yB _ none)
            have HW5 := Kh hw5
            have HO5 := Kh (xX HO.out hg5 (by simp))
            have HGW5 := Kh (zF HGW.out hg5 (by simp)); have HGA5 := Kh (zF HGA.out hg5 (by simp))
            have HRR5 := Kh (HRR.out.kept hg5 (by simp)); have HTP5 := Kh (HTP.out.kept hg5 (by simp))
            have hz5 : base ≤ w5.heap.size := Nat.le_trans hbw hg5.size
            have C : Hid (w5.cell? ⟨gk, xa * 5 + 4, none⟩ = some (.int .i64 (za : Int)) ∧ w5.cell? ⟨gk, xb * 5 + 4, none⟩ = some (.int .i64 (zb : Int))) := Kh ⟨zX hca hg5, zX hcb hg5⟩
            have hpr := pprod_any w2.heap.size w5 _ t (za : Int) (zb : Int) HGA5.out.size (HM2.out.kept HGA5.out (by simp)) (HT2.out.kept HGA5.out (by simp))
            rw [prodP_yes (mayB_two.2 ⟨HGD.out.valid, hle, setB_of hza, setB_of hzb⟩)] at hpr
            obtain ⟨X, hX⟩ : ∃ X, X = zV t.length (entN t) za zb := ⟨_, rfl⟩
            rw [← hX] at hpr HND
            have HPR := Kh hpr
            have hxa' : (xa : Int) < n := by omega
            have hxb' : (xb : Int) < n := by omega
            clear hX hpr hca hcb ea eb hsat hgk hcs htake hgc2 hw5 hg5
            go_upto_region 20 with fail
            refine wp_region_noPanic ?_
            refine yN (G := Until 14 (fun _ => True) (fun W => W.cell? ⟨gk, xa * 5 + 4, none⟩ = some (.int .i64 (za : Int)) ∧ W.cell? ⟨gk, xb * 5 + 4, none⟩ = some (.int .i64 (zb : Int)))) (by kernel_rfl) ?_
            rw [← HW5.out]
            refine takeC (i := 0) (v := ?_) rfl rfl (Or.inl ⟨by rfl, ?_⟩) ⟨trivial, fun _ => C.out⟩ ?_
            rotate_left
            · (intro wz hz; (try dsimp only at hz); go_simp; (try with_reducible rfl))
            try simp only [Act.put, sPa, sPb, sPc]
            refine takeC (i := 1) (v := ?_) rfl rfl (Or.inl ⟨by rfl, ?_⟩) ⟨trivial, fun _ => C.out⟩ ?_
            rotate_left
            · (intro wz hz; (try dsimp only at hz); go_simp; (try with_reducible rfl))
            try simp only [Act.put, sPa, sPb, sPc]
            refine takeC (i := 2) (v := ?_) rfl rfl (Or.inl ⟨by rfl, ?_⟩) ⟨trivial, fun _ => C.out⟩ ?_
            rotate_left
            · (intro wz hz; (try dsimp only at hz); go_simp; (try with_reducible rfl))
            try simp only [Act.put, sPa, sPb, sPc]
            refine takeC (i := 3) (v := ?_) rfl rfl (Or.inl ⟨by rfl, ?_⟩) ⟨trivial, fun _ => C.out⟩ ?_
            rotate_left
            · (intro wz hz; (try dsimp only at hz); go_simp; (try with_reducible rfl))
            try simp only [Act.put, sPa, sPb, sPc]
            refine takeC (i := 4) (v := ?_) rfl rfl (Or.inl ⟨by rfl, ?_⟩) ⟨trivial, fun _ => C.out⟩ ?_
            rotate_left
            · (intro wz hz; (try dsimp only at hz); go_simp; (try with_reducible rfl))
            try simp only [Act.put, sPa, sPb, sPc]
            refine takeC (i := 5) (v := ?_) rfl rfl (Or.inl ⟨by rfl, ?_⟩) ⟨trivial, fun _ => C.out⟩ ?_
            rotate_left
            · (intro wz hz; (try dsimp only at hz); go_simp; (try with_reducible rfl))
            try simp only [Act.put, sPa, sPb, sPc]
            refine takeC (i := 6) (v := ?_) rfl rfl (Or.inl ⟨by rfl, ?_⟩) ⟨trivial, fun _ => C.out⟩ ?_
            rotate_left
            · (intro wz hz; (try dsimp only at hz); go_simp; (try with_reducible rfl))
            try simp only [Act.put, sPa, sPb, sPc]
            refine takeC (i := 7) (v := ?_) rfl rfl (Or.inl ⟨by rfl, ?_⟩) ⟨trivial, fun _ => C.out⟩ ?_
            rotate_left
            · (intro wz hz; (try dsimp only at hz); go_simp; (try with_reducible rfl))
            try simp only [Act.put, sPa, sPb, sPc]
            refine takeD (i := 8) (v := ?_) rfl rfl (Or.inl ⟨by rfl, ?_⟩) ⟨trivial, fun _ => C.out⟩ ?_
            rotate_left
            · (rintro wz ⟨-, hz⟩; (try dsimp only at hz); go_simp; (try with_reducible rfl))
            try simp only [Act.put, sPa, sPb, sPc]
            refine takeC (i := 9) (v := ?_) rfl rfl (Or.inl ⟨by rfl, ?_⟩) ⟨trivial, fun _ => C.out⟩ ?_
            rotate_left
            · (intro wz hz; (try dsimp only at hz); go_simp; (try with_reducible rfl))
            try simp only [Act.put, sPa, sPb, sPc]
            refine takeC (i := 10) (v := ?_) rfl rfl (Or.inl ⟨by rfl, ?_⟩) ⟨trivial, fun _ => C.out⟩ ?_
            rotate_left
            · (intro wz hz; (try dsimp only at hz); go_simp; (try with_reducible rfl))
            try simp only [Act.put, sPa, sPb, sPc]
            refine takeC (i := 11) (v := ?_) rfl rfl (Or.inl ⟨by rfl, ?_⟩) ⟨trivial, fun _ => C.out⟩ ?_
            rotate_left
            · (intro wz hz; (try dsimp only at hz); go_simp; (try with_reducible rfl))
            try simp only [Act.put, sPa, sPb, sPc]
            refine takeC (i := 12) (v := ?_) rfl rfl (Or.inl ⟨by rfl, ?_⟩) ⟨trivial, fun _ => C.out⟩ ?_
            rotate_left
            · (intro wz hz; (try dsimp only at hz); go_simp; (try with_reducible rfl))
            try simp only [Act.put, sPa, sPb, sPc]
            refine takeD (i := 13) (v := ?_) rfl rfl (Or.inl ⟨by rfl, ?_⟩) ⟨trivial, fun _ => C.out⟩ ?_
            rotate_left
            · (rintro wz ⟨-, hz⟩; (try dsimp only at hz); go_simp; (try with_reducible rfl))
            try simp only [Act.put, sPa, sPb, sPc]
            refine oneG (i := 14) (by kernel_rfl) rfl (fun K hK => ?_)
            go_simp
            go_at_call 20
            refine HPR.out.mono ?_
            rintro e w6 ⟨rfl, hg6⟩
            refine hK.out _ _ ⟨trivial, fun h => by simp at h⟩ ?_
            clear hK K C
            try simp only [Act.put, sPa, sPb, sPc]
            refine oneG (i := 15) (by kernel_rfl) rfl (fun K hK => ?_)
            go_simp
            refine hK.out _ _ ⟨trivial, fun h => by simp at h⟩ ?_
            clear hK K
            try simp only [Act.put, sPa, sPb, sPc]
            refine oneG (i := 16) (by kernel_rfl) rfl (fun K hK => ?_)
            go_simp
            have hgn := heap_alloc_new w6 (.cells #[.int .i64 2, .int .i64 (xa : Int), .int .i64 (xb : Int), .string ⟨#[]⟩, .int .i64 (X : Int)] 60)
            have hg7 := World.grownBy_alloc w6 (.cells #[.int .i64 2, .int .i64 (xa : Int), .int .i64 (xb : Int), .string ⟨#[]⟩, .int .i64 (X : Int)] 60) none
            have ho7 := xX (xX HO5.out hg6 (by simp)) hg7 (by simp)
            refine hK.out _ _ ⟨trivial, fun h => by simp at h⟩ ?_
            clear hK K
            try simp only [Act.put, sPa, sPb, sPc]
            have hz6 : base ≤ w6.heap.size := Nat.le_trans hz5 hg6.size
            have hby : (n + 1) * by5 ≤ 13 * 64 := Nat.mul_le_mul (by omega) hby5
            refine oneG (i := 17) (by kernel_rfl) rfl (fun K hK => ?_)
            refine step_app5 rfl (.tmp 125) (.tmp 141) 56 rfl HE5.out base _ n (vS ss) rfl ho7 ⟨2, xa, xb, ⟨#[]⟩, (X : Int)⟩ w6.heap.size rfl (0, 0) hgn ?g1 ?g2 ?g3 ?_
            case g1 => unfold maxLen; omega
            case g2 => omega
            case g3 => rw [zM]; omega
            intro sa8 sc8 w8 hown8 hg8
            rw [← tW] at hown8
            refine hK.out _ _ ⟨trivial, fun h => by simp at h⟩ ?_
            clear hK K
            try simp only [Act.put, sPa, sPb, sPc]
            refine oneG (i := 18) (by kernel_rfl) rfl (fun K hK => ?_)
            go_simp
            refine hK.out _ _ ⟨trivial, fun h => by simp at h⟩ ?_
            clear hK K
            try simp only [Act.put, sPa, sPb, sPc]
            refine doneG (by kernel_rfl) ?_ _
            refine NoPanic.normal ?_
            have hb8 := fun k e => (ho7.lt k e).1
            have HGW8 := Kh (zF (zF (zF HGW5.out hg6 (by simp)) hg7 (by simp)) hg8 (fun k e => by have := hb8 k e; omega)); have HGA8 := Kh (zF (zF (zF HGA5.out hg6 (by simp)) hg7 (by simp)) hg8 (fun k e => by have := hb8 k e; omega))
            have HRR8 := Kh (((HRR5.out.kept hg6 (by simp)).kept hg7 (by simp)).kept hg8 (fun k e => by have := hb8 k e; omega))
            have HTP8 := Kh (((HTP5.out.kept hg6 (by simp)).kept hg7 (by simp)).kept hg8 (fun k e => by have := hb8 k e; omega))
            have hz8 : base ≤ w8.heap.size := by have := hg8.size; have := hg7.size; omega
            have HNL : Hid (n + 1 = (ss ++ [(⟨2, xa, xb, ⟨#[]⟩, (X : Int)⟩ : StepV)]).length) := Kh (by rw [List.length_append, ← HL.out]; rfl)
            have HO8 := Kh hown8
            clear hown8 hg8 hg7 hg6 ho7 hgn hb8
            go_wp2
            go_roundg (12 - (i + 1))
            case measure => have := HGH.out; omega
            case rel => exact ⟨i + 1, n + 1, sa8, sc8, ss ++ [(⟨2, xa, xb, ⟨#[]⟩, (X : Int)⟩ : StepV)], by have := HGH.out; omega, by go_num, rfl, HNL, by omega, HO8, HND, HTP8.out, HGW8.out, HGA8.out, HRR8.out, hz8⟩
          · have hrb' : (r3 == 1) = false := by rw [beq_eq_false_iff_ne]; exact hrb
            obtain ⟨xa, hxa⟩ : ∃ A : Nat, (A : Int) = modI (wrap64 (ri.tdiv 3)) n := ⟨(modI (wrap64 (ri.tdiv 3)) n).toNat, by have := sS (wrap64 (ri.tdiv 3)) n; omega⟩
            have hxal : xa < n := by have := modI_lt (wrap64 (ri.tdiv 3)) n (by omega); omega
            have HXA := Kh hxa
            clear hxa
            go_wp2_with fail
            refine (mod_any _ _ _ (by omega)).mono ?_
            rintro e wq ⟨rfl, rfl⟩
            rw [← HXA.out]
            rcases id HO.out.2 with ⟨e1, e2⟩ | ⟨gk, cap, cur, e1, hgb, hgk, hgc1, hgc2, hcs, htake⟩
            · simp only [Value.slice.injEq] at e1; omega
            simp only [Value.slice.injEq] at e1
            obtain ⟨rfl, _, rfl⟩ := e1
            have hc7 : sc ≤ 9223372036854775807 := by unfold maxLen at hgc2; omega
            have hsat := StepsAt.of_owns HO.out
            have hca := hsat.set xa (by rw [← HL.out]; exact hxal)
            obtain ⟨za, ea, hza, _⟩ := HD.out.uc xa (by rw [← HL.out]; exact hxal)
            rw [ea] at hca
            have HND := Kh (HD.out.om HGD.out (by rw [← HL.out]; exact hxal) ea)
            have hpr := pomega_any w2.heap.size wo _ t (za : Int) HGA.out.size (HM2.out.kept HGA.out (by simp)) (HT2.out.kept HGA.out (by simp))
            rw [omegaP_yes (mayB_one.2 ⟨HGD.out.valid, hle, setB_of hza⟩)] at hpr
            obtain ⟨X, hX⟩ : ∃ X, X = yQ t.length (entN t) za := ⟨_, rfl⟩
            rw [← hX] at hpr HND
            have HPR := Kh hpr
            have hxa' : (xa : Int) < n := by omega
            have hby : (n + 1) * by5 ≤ 13 * 64 := Nat.mul_le_mul (by omega) hby5
            clear hX hpr ea hsat hgk hcs htake hgc2
            go_wp2_with fail
            refine HPR.out.mono ?_
            rintro e w6 ⟨rfl, hg6⟩
            have HO6 := xX HO.out hg6 (by simp)
            have hz6 : base ≤ w6.heap.size := Nat.le_trans hbw hg6.size
            clear hca
            go_wp2_with (at_builtin; refine app5 rfl (.tmp 56) (.tmp 66) _ rfl HE5.out base _ n (vS ss) rfl HO6 ⟨3, xa, 0, ⟨#[]⟩, (X : Int)⟩ rfl ?a1 ?a2 ?a3 ?_)
            case a1 => unfold maxLen; omega
            case a2 => omega
            case a3 => omega
            intro s7 c7 w7 hown7 hg7
            rw [← tW] at hown7
            have hb7 := fun j e => (HO6.lt j e).1
            have HGW7 := Kh (zF (zF HGW.out hg6 (by simp)) hg7 (fun j e => by have := hb7 j e; omega)); have HGA7 := Kh (zF (zF HGA.out hg6 (by simp)) hg7 (fun j e => by have := hb7 j e; omega))
            have HRR7 := Kh ((HRR.out.kept hg6 (by simp)).kept hg7 (fun j e => by have := hb7 j e; omega))
            have HTP7 := Kh ((HTP.out.kept hg6 (by simp)).kept hg7 (fun j e => by have := hb7 j e; omega))
            have hz7 : base ≤ w7.heap.size := by have := hg7.size; omega
            have HNL : Hid (n + 1 = (ss ++ [(⟨3, xa, 0, ⟨#[]⟩, (X : Int)⟩ : StepV)]).length) := Kh (by rw [List.length_append, ← HL.out]; rfl)
            have HO7 := Kh hown7
            clear hg6 hg7 hown7 HO6 hb7
            go_wp2
            go_roundg (12 - (i + 1))
            case measure => have := HGH.out; omega
            case rel => exact ⟨i + 1, n + 1, s7, c7, ss ++ [(⟨3, xa, 0, ⟨#[]⟩, (X : Int)⟩ : StepV)], by have := HGH.out; omega, by go_num, rfl, HNL, by omega, HO7, HND, HTP7.out, HGW7.out, HGA7.out, HRR7.out, hz7⟩
    · have HN12 := Kh hni
      by_cases hi1 : i < rs.length
      · have hi2' : ¬ (i : Int) < 12 := by omega
        have hi1' : (i : Int) < rs.length := by omega
        clear hgo hi1
        by_cases hn0 : n = 0
        · have hn0' : ((n : Int) == 0) = true := by rw [hn0]; rfl
          clear hn0
          go_wp2_with fail
          refine (known40_any wo (HT2.out.kept HGA.out (by simp))).mono ?_
          rintro e w20 ⟨rfl, hg20⟩
          have HG20 := Kh (zF HGW.out hg20 (by simp))
          clear hg20
          go_wp2
          go_ret
          exact ⟨rfl, HG20.out⟩
        · have hn0' : ((n : Int) == 0) = false := by rw [beq_eq_false_iff_ne]; omega
          rcases id HO.out.2 with ⟨e1, e2⟩ | ⟨gk, cap, cur, e1, hgb, hgk, hgc1, hgc2, hcs, htake⟩
          · simp only [Value.slice.injEq] at e1; omega
          simp only [Value.slice.injEq] at e1
          obtain ⟨rfl, _, rfl⟩ := e1
          have hc7 : sc ≤ 9223372036854775807 := by unfold maxLen at hgc2; omega
          have HGL := Kh (zW wo none)
          clear hgk hcs htake hgc2
          go_wp2
          go_loopg [149] n (fun gh iv wr => ∃ (k : Nat), gh + k = n ∧ iv = .int .i64 (k : Int) ∧ wo.grownBy wr none)
          case atStart => exact ⟨0, rfl, rfl, HGL.out⟩
          case round =>
            clear HGL
            obtain ⟨k, hgk2, rfl, hgl⟩ := hrel
            have HGK := Kh hgk2; have HGL := Kh hgl
            clear hgk2 hgl
            by_cases hk : k < n
            · have hk' : (k : Int) < n := by omega
              have hkl : k < ss.length := by rw [← HL.out]; exact hk
              have hsat := (StepsAt.of_owns HO.out).kept HGL.out (by simp)
              have k0 := hsat.op k hkl
              have k1 := hsat.a k hkl
              have k2 := hsat.b k hkl
              have k3 := hsat.word k hkl
              have k4 := hsat.set k hkl
              obtain ⟨z, ez, hz, huc⟩ := HD.out.uc k hkl
              rw [ez] at k4
              have hwi := within_uc HGD.out hz huc
              obtain ⟨st, hst0⟩ : ∃ st, st = ss.getD k default := ⟨_, rfl⟩
              rw [← hst0] at k0 k1 k2 k3
              obtain ⟨wb, hwb⟩ : ∃ W, W = wr.alloc (.cells #[.int .i64 st.op, .int .i64 st.a, .int .i64 st.b, .string st.word, .int .i64 (z : Int)] 60) := ⟨_, rfl⟩
              have hgb2 : wr.grownBy wb none := by rw [hwb]; exact World.grownBy_alloc wr _ none
              have hbb := heap_alloc_new wr (.cells #[.int .i64 st.op, .int .i64 st.a, .int .i64 st.b, .string st.word, .int .i64 (z : Int)] 60)
              rw [← hwb] at hbb
              obtain ⟨o, ho⟩ : ∃ o, o = wr.heap.size := ⟨_, rfl⟩
              rw [← ho] at hbb
              have HWB := Kh hwb; have HO2 := Kh ho; have HBB := Kh hbb
              have HGB := Kh (zF HGL.out hgb2 (by simp))
              have hrw := HRR.out.kept HGB.out (by simp)
              rw [natsI] at hrw
              have HWI := Kh (within_any tb wb _ (intL (closeL t im)) (z : Int) hrw)
              rw [hwi] at HWI
              clear hwb hgb2 hbb ho hsat ez hz huc hst0 hrw hwi
              go_upto_region 26 with fail
              rw [← HWB.out, ← HO2.out]
              clear k0 k1 k2 k3 k4
              obtain ⟨b0, b1, b2, b3, b4⟩ := box5_cells HBB.out
              go_wp2_with fail
              refine HWI.out.mono ?_
              rintro e wq ⟨rfl, rfl⟩
              go_wp2
              go_roundg (n - (k + 1))
              case measure => have := HGK.out; omega
              case rel => exact ⟨k + 1, by have := HGK.out; omega, by go_num, HGB.out⟩
            · have HGW9 := Kh (zF HGW.out HGL.out (by simp)); have HGA9 := Kh (zF HGA.out HGL.out (by simp))
              have hsr := SRow.of_owns (xX HO.out HGL.out (by simp)) HL.out.symm
              have hcd := checkD_any wr.heap.size wr _ _ _ t im ss (Nat.le_refl _) ((HM2.out.kept HGA9.out (by simp)).mono HGA9.out.size) ((HI2.out.kept HGA9.out (by simp)).mono HGA9.out.size) hsr HD.out.wz (HT2.out.kept HGA9.out (by simp))
              rw [HD.out.derB HZ.out (by rw [← HL.out]; omega)] at hcd
              have HCD := Kh hcd
              clear hcd hsr
              go_wp2_with fail
              refine HCD.out.mono ?_
              rintro e w10 ⟨rfl, hg10⟩
              have HT10 := Kh ((HT2.out.kept HGA9.out (by simp)).kept hg10 (by simp))
              have HGW10 := Kh (zF HGW9.out hg10 (by simp))
              clear hg10
              go_wp2_with fail
              refine (known40_any w10 HT10.out).mono ?_
              rintro e w20 ⟨rfl, hg20⟩
              have HG20 := Kh (zF HGW10.out hg20 (by simp))
              clear hg20
              go_wp2
              go_ret
              exact ⟨rfl, HG20.out⟩
      · have hi1' : ¬ (i : Int) < rs.length := by omega
        clear hgo hi1
        by_cases hn0 : n = 0
        · have hn0' : ((n : Int) == 0) = true := by rw [hn0]; rfl
          clear hn0
          go_wp2_with fail
          refine (known40_any wo (HT2.out.kept HGA.out (by simp))).mono ?_
          rintro e w20 ⟨rfl, hg20⟩
          have HG20 := Kh (zF HGW.out hg20 (by simp))
          clear hg20
          go_wp2
          go_ret
          exact ⟨rfl, HG20.out⟩
        · have hn0' : ((n : Int) == 0) = false := by rw [beq_eq_false_iff_ne]; omega
          rcases id HO.out.2 with ⟨e1, e2⟩ | ⟨gk, cap, cur, e1, hgb, hgk, hgc1, hgc2, hcs, htake⟩
          · simp only [Value.slice.injEq] at e1; omega
          simp only [Value.slice.injEq] at e1
          obtain ⟨rfl, _, rfl⟩ := e1
          have hc7 : sc ≤ 9223372036854775807 := by unfold maxLen at hgc2; omega
          have HGL := Kh (zW wo none)
          clear hgk hcs htake hgc2
          go_wp2
          go_loopg [149] n (fun gh iv wr => ∃ (k : Nat), gh + k = n ∧ iv = .int .i64 (k : Int) ∧ wo.grownBy wr none)
          case atStart => exact ⟨0, rfl, rfl, HGL.out⟩
          case round =>
            clear HGL
            obtain ⟨k, hgk2, rfl, hgl⟩ := hrel
            have HGK := Kh hgk2; have HGL := Kh hgl
            clear hgk2 hgl
            by_cases hk : k < n
            · have hk' : (k : Int) < n := by omega
              have hkl : k < ss.length := by rw [← HL.out]; exact hk
              have hsat := (StepsAt.of_owns HO.out).kept HGL.out (by simp)
              have k0 := hsat.op k hkl
              have k1 := hsat.a k hkl
              have k2 := hsat.b k hkl
              have k3 := hsat.word k hkl
              have k4 := hsat.set k hkl
              obtain ⟨z, ez, hz, huc⟩ := HD.out.uc k hkl
              rw [ez] at k4
              have hwi := within_uc HGD.out hz huc
              obtain ⟨st, hst0⟩ : ∃ st, st = ss.getD k default := ⟨_, rfl⟩
              rw [← hst0] at k0 k1 k2 k3
              obtain ⟨wb, hwb⟩ : ∃ W, W = wr.alloc (.cells #[.int .i64 st.op, .int .i64 st.a, .int .i64 st.b, .string st.word, .int .i64 (z : Int)] 60) := ⟨_, rfl⟩
              have hgb2 : wr.grownBy wb none := by rw [hwb]; exact World.grownBy_alloc wr _ none
              have hbb := heap_alloc_new wr (.cells #[.int .i64 st.op, .int .i64 st.a, .int .i64 st.b, .string st.word, .int .i64 (z : Int)] 60)
              rw [← hwb] at hbb
              obtain ⟨o, ho⟩ : ∃ o, o = wr.heap.size := ⟨_, rfl⟩
              rw [← ho] at hbb
              have HWB := Kh hwb; have HO2 := Kh ho; have HBB := Kh hbb
              have HGB := Kh (zF HGL.out hgb2 (by simp))
              have hrw := HRR.out.kept HGB.out (by simp)
              rw [natsI] at hrw
              have HWI := Kh (within_any tb wb _ (intL (closeL t im)) (z : Int) hrw)
              rw [hwi] at HWI
              clear hwb hgb2 hbb ho hsat ez hz huc hst0 hrw hwi
              go_upto_region 26 with fail
              rw [← HWB.out, ← HO2.out]
              clear k0 k1 k2 k3 k4
              obtain ⟨b0, b1, b2, b3, b4⟩ := box5_cells HBB.out
              go_wp2_with fail
              refine HWI.out.mono ?_
              rintro e wq ⟨rfl, rfl⟩
              go_wp2
              go_roundg (n - (k + 1))
              case measure => have := HGK.out; omega
              case rel => exact ⟨k + 1, by have := HGK.out; omega, by go_num, HGB.out⟩
            · have HGW9 := Kh (zF HGW.out HGL.out (by simp)); have HGA9 := Kh (zF HGA.out HGL.out (by simp))
              have hsr := SRow.of_owns (xX HO.out HGL.out (by simp)) HL.out.symm
              have hcd := checkD_any wr.heap.size wr _ _ _ t im ss (Nat.le_refl _) ((HM2.out.kept HGA9.out (by simp)).mono HGA9.out.size) ((HI2.out.kept HGA9.out (by simp)).mono HGA9.out.size) hsr HD.out.wz (HT2.out.kept HGA9.out (by simp))
              rw [HD.out.derB HZ.out (by rw [← HL.out]; omega)] at hcd
              have HCD := Kh hcd
              clear hcd hsr
              go_wp2_with fail
              refine HCD.out.mono ?_
              rintro e w10 ⟨rfl, hg10⟩
              have HT10 := Kh ((HT2.out.kept HGA9.out (by simp)).kept hg10 (by simp))
              have HGW10 := Kh (zF HGW9.out hg10 (by simp))
              clear hg10
              go_wp2_with fail
              refine (known40_any w10 HT10.out).mono ?_
              rintro e w20 ⟨rfl, hg20⟩
              have HG20 := Kh (zF HGW10.out hg20 (by simp))
              clear hg20
              go_wp2
              go_ret
              exact ⟨rfl, HG20.out⟩
def laidTabs : List (String × DataW Unit) := [("math/bits.deBruijn32tab", Rows.laid_math_bits_deBruijn32tab), ("math/bits.deBruijn64tab", Rows.laid_math_bits_deBruijn64tab)]
theorem tabOk_of_laid {W : World} (h : laidMetH Tryd.prog laidTabs W) : TabOk W := by
 rw [MakeChecks.laidMetH_plain _ _ _ (by kernel_rfl)] at h
 obtain ⟨ps, ⟨g0, t0, cs0, f0, p0, q0, hg0, ht0, hv0, hd0, ⟨g1, t1, cs1, f1, p1, q1, hg1, ht1, hv1, hd1, _, _⟩, _⟩, _, _⟩ := h
 have e1 : Tryd.prog.globalNamed "math/bits.deBruijn64tab" = some 1 := by kernel_rfl
 obtain rfl := Option.some.inj (e1.symm.trans hg1)
 have e2 : (Tryd.prog.globals[1]?).map (·.type) = some 143 := by kernel_rfl
 obtain rfl := Option.some.inj (e2.symm.trans ht1)
 have hc := Lib.cells_of_tab (k := .u8) (zs := Lib.deBruijn64tab.map fun (x : Nat) => (x : Int)) (n := 64) (e := 5) (by kernel_rfl) (by kernel_rfl) (by kernel_rfl) (by kernel_rfl) hd1
 have hti : Lib.TabIs Tryd.prog W "math/bits.deBruijn64tab" .u8 (Lib.deBruijn64tab.map fun (x : Nat) => (x : Int)) := by
  unfold Lib.TabIs
  rw [hv1, ← hc]
 have hcell : ∀ i, i < Lib.deBruijn64tab.length → W.cell? ⟨1, i, none⟩ = some (.int .u8 (Lib.deBruijn64tab.getD i 0)) := fun i hi => by
  have := hti.cell e1 i (by rw [List.length_map]; exact hi)
  rw [this]
  simp [List.getD, List.getElem?_eq_getElem hi]
 exact ⟨World.block_lt_of_cell? W _ (hcell 0 (by decide)), hcell⟩
end Go.Proofs.YtdjhoadoiknaoaaDoor
