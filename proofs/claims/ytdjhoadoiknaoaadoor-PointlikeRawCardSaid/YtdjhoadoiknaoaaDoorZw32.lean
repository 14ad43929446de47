/- Part 32 of the proof: FewRows, Known40, Law40R. -/
import Derived.Test.YtdjhoadoiknaoaaDoorZw31
set_option linter.unusedVariables false
set_option linter.unusedSimpArgs false
namespace Go.Proofs.YtdjhoadoiknaoaaDoor
open Go.RowKit
def fewRows (t : List (List Int)) : Bool := decide (t.length ≤ 30) && t.all fun r => decide (r.length ≤ 30)
theorem few_bad {t : List (List Int)} {k : Nat} (hk : k < t.length) (h : 30 < (t.getD k []).length) : fewRows t = false := by
  have hm : t.getD k [] ∈ t := by simp [List.getD, hk]
  cases e : fewRows t with
  | false => rfl
  | true =>
    simp only [fewRows, Bool.and_eq_true, List.all_eq_true, decide_eq_true_eq] at e
    have := e.2 _ hm
    omega
theorem few_good {t : List (List Int)} (h0 : t.length ≤ 30) (h : ∀ i, i < t.length → (t.getD i []).length ≤ 30) : fewRows t = true := by
  simp only [fewRows, Bool.and_eq_true, List.all_eq_true, decide_eq_true_eq]
  refine ⟨h0, fun r hr => ?_⟩
  obtain ⟨i, hi, rfl⟩ := List.getElem_of_mem hr
  have := h i hi
  simpa [List.getD, List.getElem?_eq_getElem hi] using this
set_option maxHeartbeats 400000 in
theorem fewRows_any (B : Nat) (w : World) (v : Value) (t : List (List Int)) (h : Mat B w v t) :
    Calls Tryd.prog 41 #[v] w fun e w' => e = .returned (.bool (fewRows t)) ∧ w = w' := by
  have hlm := h.len_le
  unfold maxLen at hlm
  have H := Lib.hid h
  obtain ⟨ta, tc, rfl⟩ := h.shape
  clear h
  by_cases hb : t.length ≤ 30
  · go_enter Tryd.func41, Tryd.ntmps41
    go_wp2
    go_loopg [10] t.length (fun g i wr => ∃ k : Nat, g + k = t.length ∧ i = .int .i64 k ∧ Hid (∀ i, i < k → (t.getD i []).length ≤ 30) ∧ w = wr)
    case atStart => exact ⟨0, rfl, rfl, Lib.hid (fun i hi => absurd hi (by omega)), rfl⟩
    case round =>
      obtain ⟨k, hg, rfl, hok, rfl⟩ := hrel
      have HG := Lib.hid hg; clear hg
      by_cases hk : k < t.length
      · have hk' : (k : Int) < t.length := by omega
        obtain ⟨b, off, cap, A, C, e, hc1, hc2, hm⟩ := H.out.some_ (by omega)
        simp only [Value.slice.injEq] at e
        obtain ⟨rfl, -, rfl⟩ := e
        have ck := hm.hd k hk
        have hrl := (hm.row k hk).len_le
        rw [ints_length] at hrl
        unfold maxLen at hrl
        obtain ⟨r, hr⟩ : ∃ r, r = t.getD k [] := ⟨_, rfl⟩
        rw [← hr] at ck hrl
        have HR := Lib.hid hr
        clear hm hr
        by_cases h30 : r.length ≤ 30
        · have HOK : Hid (∀ i, i < k + 1 → (t.getD i []).length ≤ 30) := Lib.hid (fun i hi => by
            rcases Nat.lt_succ_iff_lt_or_eq.1 hi with hi | rfl
            · exact hok.out i hi
            · rw [← HR.out]; exact h30)
          go_wp2
          go_roundg (t.length - (k + 1))
          case measure => have := HG.out; omega
          case rel => exact ⟨k + 1, by omega, by go_num, HOK, rfl⟩
        · have HF : Hid (fewRows t = false) := Lib.hid (few_bad hk (by rw [← HR.out]; omega))
          go_wp2
          go_ret
          exact ⟨ret_bool HF.out.symm, rfl⟩
      · have HF : Hid (fewRows t = true) := Lib.hid (few_good hb (fun i hi => hok.out i (by have := HG.out; omega)))
        go_wp2
        go_ret
        exact ⟨ret_bool HF.out.symm, rfl⟩
  · have HF : Hid (fewRows t = false) := Lib.hid (by simp [fewRows, hb])
    go_enter Tryd.func41, Tryd.ntmps41
    go_wp2
    go_ret
    exact ⟨ret_bool HF.out.symm, rfl⟩
end Go.Proofs.YtdjhoadoiknaoaaDoor
namespace Go.Proofs.YtdjhoadoiknaoaaDoor
open Go.RowKit
theorem closeL_one : closeL [[0, 1], [1, 0]] [1] = [3] := by unfold closeL closeFrom; decide +kernel
theorem closeL_two : closeL [[0, 1], [1, 1]] [1] = [1, 2] := by unfold closeL closeFrom; decide +kernel
theorem valid_one : validE [[0, 1], [1, 0]] = 0 := validE_assoc (by decide +kernel) (assoc_of_all (by
  unfold assAt
  decide +kernel))
theorem valid_two : validE [[0, 1], [1, 1]] = 0 := validE_assoc (by decide +kernel) (assoc_of_all (by
  unfold assAt
  decide +kernel))
theorem checkE_one : checkE [[0, 1], [1, 0]] [1] = 0 := by
  rw [checkE, valid_one]; decide +kernel
theorem checkE_two : checkE [[0, 1], [1, 1]] [1] = 0 := by
  rw [checkE, valid_two]; decide +kernel
theorem omegaP_one : omegaP [[0, 1], [1, 0]] 2 = 3 := by
  rw [omegaP, mayB, valid_one]; decide +kernel
theorem rowAt_block {W : World} {a e : Nat} {zs : List Int} {cs : Array Value} (ha : W.heap[a]? = some (.cells cs e (0, 0))) (hcs : cs.toList = ints zs) : RowAt W a 0 (ints zs) := by
  refine ⟨lt_of_block ha, fun i hi => ?_⟩
  have hi' : i < cs.size := by rw [← Array.length_toList, hcs]; exact hi
  rw [Nat.zero_add, cell_block ha i hi']
  congr 1
  rw [← Array.getElem_toList]
  simp only [hcs]
theorem row_block' {B : Nat} {W : World} {a e n : Nat} {zs : List Int} {cs : Array Value} (ha : W.heap[a]? = some (.cells cs e (0, 0))) (hcs : cs.toList = ints zs) (hn : zs.length = n) (hm : n ≤ maxLen) (hB : a < B) : Row B W (.slice (some ⟨a, 0, none⟩) n n) (ints zs) :=
  .inr ⟨a, 0, n, by rw [ints_length, hn], hB, by rw [ints_length]; omega, hm, rowAt_block ha hcs⟩
theorem mat_two {B : Nat} {W : World} {a b c e e' : Nat} {p q r s : Int} (ha : W.heap[a]? = some (.cells #[.int .i64 p, .int .i64 q] e (0, 0))) (hb : W.heap[b]? = some (.cells #[.int .i64 r, .int .i64 s] e (0, 0)))
    (hc : W.heap[c]? = some (.cells #[.slice (some ⟨a, 0, none⟩) 2 2, .slice (some ⟨b, 0, none⟩) 2 2] e' (0, 0))) (h1 : a < B) (h2 : b < B) (h3 : c < B) : Mat B W (.slice (some ⟨c, 0, none⟩) 2 2) [[p, q], [r, s]] := by
  have hm : 2 ≤ maxLen := by unfold maxLen; omega
  refine .inr ⟨c, 0, 2, fun x => if x = 0 then some ⟨a, 0, none⟩ else some ⟨b, 0, none⟩, fun _ => 2, rfl, by simp, hm, ⟨h3, lt_of_block hc, fun x hx => ?_, fun x hx => ?_⟩⟩
  · have hx2 : x < 2 := by simpa using hx
    match x, hx2 with
    | 0, _ => exact cell_block hc 0 (by simp)
    | 1, _ => exact cell_block hc 1 (by simp)
  · have hx2 : x < 2 := by simpa using hx
    match x, hx2 with
    | 0, _ => exact row_block' (zs := [p, q]) ha rfl rfl hm h1
    | 1, _ => exact row_block' (zs := [r, s]) hb rfl rfl hm h2
theorem laid4 (w : World) (c1 c2 c3 c4 : Array Value) (e1 e2 e3 e4 : Nat) : ∀ W, W = (((w.alloc (.cells c1 e1)).alloc (.cells c2 e2)).alloc (.cells c3 e3)).alloc (.cells c4 e4) →
    W.heap[w.heap.size]? = some (.cells c1 e1 (0, 0)) ∧ W.heap[w.heap.size + 1]? = some (.cells c2 e2 (0, 0)) ∧ W.heap[w.heap.size + 2]? = some (.cells c3 e3 (0, 0)) ∧ W.heap[w.heap.size + 3]? = some (.cells c4 e4 (0, 0)) ∧ w.grownBy W none ∧ W.heap.size = w.heap.size + 4 := by
  rintro W rfl
  have g1 := World.grownBy_alloc w (.cells c1 e1) none
  have g2 := World.grownBy_alloc (w.alloc (.cells c1 e1)) (.cells c2 e2) none
  have g3 := World.grownBy_alloc ((w.alloc (.cells c1 e1)).alloc (.cells c2 e2)) (.cells c3 e3) none
  have g4 := World.grownBy_alloc (((w.alloc (.cells c1 e1)).alloc (.cells c2 e2)).alloc (.cells c3 e3)) (.cells c4 e4) none
  have h1 := heap_alloc_new w (.cells c1 e1)
  have h2 := heap_alloc_new (w.alloc (.cells c1 e1)) (.cells c2 e2)
  have h3 := heap_alloc_new ((w.alloc (.cells c1 e1)).alloc (.cells c2 e2)) (.cells c3 e3)
  have h4 := heap_alloc_new (((w.alloc (.cells c1 e1)).alloc (.cells c2 e2)).alloc (.cells c3 e3)) (.cells c4 e4)
  simp only [alloc_size] at h2 h3 h4
  exact ⟨block_kept h1 (grownBy_trans' (grownBy_trans' g2 g3) g4) (by simp), block_kept h2 (grownBy_trans' g3 g4) (by simp), block_kept h3 g4 (by simp), h4, grownBy_trans' (grownBy_trans' (grownBy_trans' g1 g2) g3) g4, by simp only [alloc_size]⟩
theorem laid3 (w : World) (c1 c2 c3 : Array Value) (e1 e2 e3 : Nat) : ∀ W, W = ((w.alloc (.cells c1 e1)).alloc (.cells c2 e2)).alloc (.cells c3 e3) →
    W.heap[w.heap.size]? = some (.cells c1 e1 (0, 0)) ∧ W.heap[w.heap.size + 1]? = some (.cells c2 e2 (0, 0)) ∧ W.heap[w.heap.size + 2]? = some (.cells c3 e3 (0, 0)) ∧ w.grownBy W none ∧ W.heap.size = w.heap.size + 3 := by
  rintro W rfl
  have g1 := World.grownBy_alloc w (.cells c1 e1) none
  have g2 := World.grownBy_alloc (w.alloc (.cells c1 e1)) (.cells c2 e2) none
  have g3 := World.grownBy_alloc ((w.alloc (.cells c1 e1)).alloc (.cells c2 e2)) (.cells c3 e3) none
  have h1 := heap_alloc_new w (.cells c1 e1)
  have h2 := heap_alloc_new (w.alloc (.cells c1 e1)) (.cells c2 e2)
  have h3 := heap_alloc_new ((w.alloc (.cells c1 e1)).alloc (.cells c2 e2)) (.cells c3 e3)
  simp only [alloc_size] at h2 h3
  exact ⟨block_kept h1 (grownBy_trans' g2 g3) (by simp), block_kept h2 g3 (by simp), h3, grownBy_trans' (grownBy_trans' g1 g2) g3, by simp only [alloc_size]⟩
set_option maxHeartbeats 800000 in
theorem known40_any (w : World) (hT : TabOk w) : Calls Tryd.prog 17 #[] w fun e w' => e = .returned (.bool true) ∧ w.grownBy w' none := by
  have HT := Lib.hid hT
  clear hT
  go_enter Tryd.func17, Tryd.ntmps17
  go_wp2_with fail
  obtain ⟨wA, hWA⟩ : ∃ wA, wA = (((w.alloc (.cells #[.int .i64 0, .int .i64 1] 3)).alloc (.cells #[.int .i64 1, .int .i64 0] 3)).alloc (.cells #[.slice (some ⟨w.heap.size, 0, none⟩) 2 2, .slice (some ⟨w.heap.size + 1, 0, none⟩) 2 2] 22)).alloc (.cells #[.int .i64 1] 3) := ⟨_, rfl⟩
  obtain ⟨h1, h2, h3, h4, hgA, hzA⟩ := laid4 w _ _ _ _ _ _ _ _ wA hWA
  rw [← hWA]
  have hcl := closure_any wA.heap.size wA _ _ [[0, 1], [1, 0]] [1] (Nat.le_refl _) (mat_two h1 h2 h3 (by omega) (by omega) (by omega)) (row_block' (n := 1) (zs := [1]) h4 rfl rfl (by unfold maxLen; omega) (by omega)) (HT.out.kept hgA (by simp))
  have HC := Lib.hid hcl; have HGA := Lib.hid hgA
  clear hcl hgA h1 h2 h3 h4 hWA
  refine HC.out.mono ?_
  rintro e w1 ⟨hg1, hc1⟩
  rcases hc1 with ⟨hne, _⟩ | ⟨_, v1, rfl, hr1⟩
  · exact absurd checkE_one hne
  rw [closeL_one] at hr1
  have HG1 : Hid (w.grownBy w1 none) := Lib.hid (grownBy_trans' HGA.out hg1)
  have HR1 : Hid (Row w1.heap.size w1 v1 (ints [3])) := Lib.hid hr1
  have hz1 := hg1.size
  clear hr1 hg1 HC HGA
  go_wp2_with fail
  obtain ⟨wB, hWB⟩ : ∃ wB, wB = (((w1.alloc (.cells #[.int .i64 0, .int .i64 1] 3)).alloc (.cells #[.int .i64 1, .int .i64 1] 3)).alloc (.cells #[.slice (some ⟨w1.heap.size, 0, none⟩) 2 2, .slice (some ⟨w1.heap.size + 1, 0, none⟩) 2 2] 22)).alloc (.cells #[.int .i64 1] 3) := ⟨_, rfl⟩
  obtain ⟨h1, h2, h3, h4, hgB, hzB⟩ := laid4 w1 _ _ _ _ _ _ _ _ wB hWB
  rw [← hWB]
  have hcl := closure_any wB.heap.size wB _ _ [[0, 1], [1, 1]] [1] (Nat.le_refl _) (mat_two h1 h2 h3 (by omega) (by omega) (by omega)) (row_block' (n := 1) (zs := [1]) h4 rfl rfl (by unfold maxLen; omega) (by omega)) (HT.out.kept (grownBy_trans' HG1.out hgB) (by simp))
  have HC := Lib.hid hcl; have HGB := Lib.hid hgB
  clear hcl hgB h1 h2 h3 h4 hWB
  refine HC.out.mono ?_
  rintro e w2 ⟨hg2, hc2⟩
  rcases hc2 with ⟨hne, _⟩ | ⟨_, v2, rfl, hr2⟩
  · exact absurd checkE_two hne
  rw [closeL_two] at hr2
  have HG12 : Hid (w1.grownBy w2 none) := Lib.hid (grownBy_trans' HGB.out hg2)
  have HR2 : Hid (Row w2.heap.size w2 v2 (ints [1, 2])) := Lib.hid hr2
  have hz2 := hg2.size
  clear hr2 hg2 HC HGB
  have HGA3 := Lib.hid (World.grownBy_alloc w2 (.cells #[.int .i64 3] 3) none)
  have HS3 := Lib.hid (same03_any w1.heap.size (w2.heap.size + 1) (w2.alloc (.cells #[.int .i64 3] 3)) v1 _ [3] [3] ((HR1.out.kept HG12.out (by simp)).kept HGA3.out (by simp)) (row_lit w2 [3] #[.int .i64 3] rfl 1 rfl (by unfold maxLen; omega)))
  go_wp2_with fail
  refine HS3.out.mono ?_
  rintro e w3 ⟨rfl, m3, rfl⟩
  have HG3 := Lib.hid (grownBy_trans' HGA3.out (grownBy_drewN (w2.alloc (.cells #[.int .i64 3] 3)) m3 none))
  obtain ⟨w3, hw3⟩ : ∃ w3, w3 = (w2.alloc (.cells #[.int .i64 3] 3)).drewN m3 := ⟨_, rfl⟩
  rw [← hw3] at HG3 ⊢
  clear hw3 HS3 HGA3
  have HGA4 := Lib.hid (World.grownBy_alloc w3 (.cells #[.int .i64 1, .int .i64 2] 3) none)
  have HS4 := Lib.hid (same03_any w2.heap.size (w3.heap.size + 1) (w3.alloc (.cells #[.int .i64 1, .int .i64 2] 3)) v2 _ [1, 2] [1, 2] ((HR2.out.kept HG3.out (by simp)).kept HGA4.out (by simp)) (row_lit w3 [1, 2] #[.int .i64 1, .int .i64 2] rfl 2 rfl (by unfold maxLen; omega)))
  go_wp2_with fail
  refine HS4.out.mono ?_
  rintro e w4 ⟨rfl, m4, rfl⟩
  have HG4 := Lib.hid (grownBy_trans' HGA4.out (grownBy_drewN (w3.alloc (.cells #[.int .i64 1, .int .i64 2] 3)) m4 none))
  obtain ⟨w4, hw4⟩ : ∃ w4, w4 = (w3.alloc (.cells #[.int .i64 1, .int .i64 2] 3)).drewN m4 := ⟨_, rfl⟩
  rw [← hw4] at HG4 ⊢
  clear hw4 HS4 HGA4
  have HGW : Hid (w.grownBy w4 none) := Lib.hid (grownBy_trans' (grownBy_trans' (grownBy_trans' HG1.out HG12.out) HG3.out) HG4.out)
  go_wp2_with fail
  obtain ⟨wC, hWC⟩ : ∃ wC, wC = ((w4.alloc (.cells #[.int .i64 0, .int .i64 1] 3)).alloc (.cells #[.int .i64 1, .int .i64 0] 3)).alloc (.cells #[.slice (some ⟨w4.heap.size, 0, none⟩) 2 2, .slice (some ⟨w4.heap.size + 1, 0, none⟩) 2 2] 22) := ⟨_, rfl⟩
  obtain ⟨h1, h2, h3, hgC, hzC⟩ := laid3 w4 _ _ _ _ _ _ wC hWC
  rw [← hWC]
  have hom := pomega_any wC.heap.size wC _ [[0, 1], [1, 0]] 2 (Nat.le_refl _) (mat_two h1 h2 h3 (by omega) (by omega) (by omega)) (HT.out.kept (grownBy_trans' HGW.out hgC) (by simp))
  rw [omegaP_one] at hom
  have HOM := Lib.hid hom; have HGC := Lib.hid hgC
  clear hom hgC h1 h2 h3 hWC
  refine HOM.out.mono ?_
  rintro e w5 ⟨rfl, hg5⟩
  have HG5 := Lib.hid hg5
  clear hg5
  go_wp2
  go_ret
  exact ⟨ret_bool rfl, grownBy_trans' (grownBy_trans' HGW.out HGC.out) HG5.out⟩
end Go.Proofs.YtdjhoadoiknaoaaDoor
namespace Go.Proofs.YtdjhoadoiknaoaaDoor
open Go.RowKit
noncomputable def beginF (t : List (List Int)) (im : List Int) : List Nat := if checkE t im = 0 then startL t im else []
noncomputable def closeF (t : List (List Int)) (im : List Int) : List Nat := if checkE t im = 0 then closeL t im else []
noncomputable def advF (t : List (List Int)) (im zs : List Int) (d : Bool) (bud : Int) : List Nat × Bool := if advE t im zs bud = 0 then advL t zs d bud else ([], false)
theorem BeginOk.uni {w w' : World} {t : List (List Int)} {im : List Int} {e : Ending} (h : BeginOk w t im e w') : ∃ (a : Option Addr) (c : Nat), e = .returned (.tuple #[.agg #[.slice a (beginF t im).length c, .bool false], .int .i64 (checkE t im)]) ∧ Row w'.heap.size w' (.slice a (beginF t im).length c) (nats (beginF t im)) ∧ w.grownBy w' none := by
  obtain ⟨hg, ⟨hc, rfl⟩ | ⟨hc, sa, sc, rfl, ho⟩⟩ := h
  · rw [beginF, if_neg hc]
    exact ⟨none, 0, rfl, .inl ⟨none, 0, rfl, rfl⟩, hg⟩
  · rw [beginF, if_pos hc]
    exact ⟨sa, sc, by rw [hc], Row.of_owns ho, hg⟩
theorem ClosureOk.uni {w w' : World} {t : List (List Int)} {im : List Int} {e : Ending} (h : ClosureOk w t im e w') : ∃ (a : Option Addr) (c : Nat), e = .returned (.tuple #[.slice a (closeF t im).length c, .int .i64 (checkE t im)]) ∧ Row w'.heap.size w' (.slice a (closeF t im).length c) (nats (closeF t im)) ∧ w.grownBy w' none := by
  obtain ⟨hg, ⟨hc, rfl⟩ | ⟨hc, v, rfl, ho⟩⟩ := h
  · rw [closeF, if_neg hc]
    exact ⟨none, 0, rfl, .inl ⟨none, 0, rfl, rfl⟩, hg⟩
  · rw [closeF, if_pos hc]
    obtain ⟨a, c, rfl⟩ := ho.shape
    rw [nats_length] at ho ⊢
    exact ⟨a, c, by rw [hc], ho, hg⟩
theorem AdvOk.uni {w w' : World} {t : List (List Int)} {im zs : List Int} {d : Bool} {bud : Int} {e : Ending} (h : AdvOk w t im zs d bud e w') : ∃ (a : Option Addr) (c : Nat), e = .returned (.tuple #[.agg #[.slice a (advF t im zs d bud).1.length c, .bool (advF t im zs d bud).2], .int .i64 (advE t im zs bud)]) ∧ Row w'.heap.size w' (.slice a (advF t im zs d bud).1.length c) (nats (advF t im zs d bud).1) ∧ w.grownBy w' none := by
  obtain ⟨hg, ⟨hc, rfl⟩ | ⟨hc, v, rfl, ho⟩⟩ := h
  · rw [advF, if_neg hc]
    exact ⟨none, 0, rfl, .inl ⟨none, 0, rfl, rfl⟩, hg⟩
  · rw [advF, if_pos hc]
    obtain ⟨a, c, rfl⟩ := ho.shape
    rw [nats_length] at ho ⊢
    exact ⟨a, c, by rw [hc], ho, hg⟩
theorem lawsame_same (w : World) (B C : Nat) (va vb : Value) (l : List Nat) (d : Bool) (hB : B ≤ w.heap.size) (hC : C ≤ w.heap.size) (ha : Row B w va (nats l)) (hb : Row C w vb (nats l)) :
    Calls Tryd.prog 26 #[.agg #[va, .bool d], .agg #[vb, .bool d]] w fun r w' => r = .returned (.bool true) ∧ w.grownBy w' none := by
  rw [nats_ints] at ha hb
  refine (lawsame_any B C w va vb _ _ d d hB hC ha hb).mono ?_
  rintro e w' ⟨rfl, hg⟩
  exact ⟨by simp, hg⟩
theorem box2_cells {w : World} {p e : Nat} {x0 x1 : Value} (h : w.heap[p]? = some (.cells #[x0, x1] e (0, 0))) : w.cell? ⟨p, 0, none⟩ = some x0 ∧ w.cell? ⟨p, 1, none⟩ = some x1 := by
  have c0 := cell_block h 0 (by simp)
  have c1 := cell_block h 1 (by simp)
  exact ⟨by simpa using c0, by simpa using c1⟩
end Go.Proofs.YtdjhoadoiknaoaaDoor
