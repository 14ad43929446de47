/- Part 44 of the proof: Known40, Law40S, Laid40. -/
import Derived.Test.YtdjhoadoiknaoaaDoorSp43
import Derived.Test.YtdjhoadoiknaoaaDoorRows
import Derived.LaidMore
import Derived.Lib.LaidTab
import Derived.Stop.Joined
set_option linter.unusedVariables false
set_option linter.unusedSimpArgs false
namespace Go.Proofs.YtdjhoadoiknaoaaDoor
open Go.RowKit
theorem closeL_one : closeL [[0, 1], [1, 0]] [1] = [3] := by unfold closeL closeFrom; decide +kernel
theorem closeL_two : closeL [[0, 1], [1, 1]] [1] = [1, 2] := by unfold closeL closeFrom; decide +kernel
theorem valid_one : validE [[0, 1], [1, 0]] = 0 := validE_assoc (by decide +kernel) (assoc_of_all (by
  unfold assAt
  decide +kernel))
theorem valid_two : validE [[0, 1], [1, 1]] = 0 := validE_assoc (by decide +kernel) (assoc_of_all (by
  unfold assAt
  decide +kernel))
theorem checkE_one : checkE [[0, 1], [1, 0]] [1] = 0 := by
  rw [checkE, valid_one]; decide +kernel
theorem checkE_two : checkE [[0, 1], [1, 1]] [1] = 0 := by
  rw [checkE, valid_two]; decide +kernel
theorem omegaP_one : omegaP [[0, 1], [1, 0]] 2 = 3 := by
  rw [omegaP, mayB, valid_one]; decide +kernel
theorem rowAt_block {W : World} {a e : Nat} {zs : List Int} {cs : Array Value} (ha : W.heap[a]? = some (.cells cs e (0, 0))) (hcs : cs.toList = ints zs) : RowAt W a 0 (ints zs) := by
  refine ⟨lt_of_block ha, fun i hi => ?_⟩
  have hi' : i < cs.size := by rw [← Array.length_toList, hcs]; exact hi
  rw [Nat.zero_add, cell_block ha i hi']
  congr 1
  rw [← Array.getElem_toList]
  simp only [hcs]
theorem row_block' {B : Nat} {W : World} {a e n : Nat} {zs : List Int} {cs : Array Value} (ha : W.heap[a]? = some (.cells cs e (0, 0))) (hcs : cs.toList = ints zs) (hn : zs.length = n) (hm : n ≤ maxLen) (hB : a < B) : Row B W (.slice (some ⟨a, 0, none⟩) n n) (ints zs) :=
  .inr ⟨a, 0, n, by rw [ints_length, hn], hB, by rw [ints_length]; omega, hm, rowAt_block ha hcs⟩
theorem mat_two {B : Nat} {W : World} {a b c e e' : Nat} {p q r s : Int} (ha : W.heap[a]? = some (.cells #[.int .i64 p, .int .i64 q] e (0, 0))) (hb : W.heap[b]? = some (.cells #[.int .i64 r, .int .i64 s] e (0, 0)))
    (hc : W.heap[c]? = some (.cells #[.slice (some ⟨a, 0, none⟩) 2 2, .slice (some ⟨b, 0, none⟩) 2 2] e' (0, 0))) (h1 : a < B) (h2 : b < B) (h3 : c < B) : Mat B W (.slice (some ⟨c, 0, none⟩) 2 2) [[p, q], [r, s]] := by
  have hm : 2 ≤ maxLen := by unfold maxLen; omega
  refine .inr ⟨c, 0, 2, fun x => if x = 0 then some ⟨a, 0, none⟩ else some ⟨b, 0, none⟩, fun _ => 2, rfl, by simp, hm, ⟨h3, lt_of_block hc, fun x hx => ?_, fun x hx => ?_⟩⟩
  · have hx2 : x < 2 := by simpa using hx
    match x, hx2 with
    | 0, _ => exact cell_block hc 0 (by simp)
    | 1, _ => exact cell_block hc 1 (by simp)
  · have hx2 : x < 2 := by simpa using hx
    match x, hx2 with
    | 0, _ => exact row_block' (zs := [p, q]) ha rfl rfl hm h1
    | 1, _ => exact row_block' (zs := [r, s]) hb rfl rfl hm h2
theorem laid4 (w : World) (c1 c2 c3 c4 : Array Value) (e1 e2 e3 e4 : Nat) : ∀ W, W = (((w.alloc (.cells c1 e1)).alloc (.cells c2 e2)).alloc (.cells c3 e3)).alloc (.cells c4 e4) →
    W.heap[w.heap.size]? = some (.cells c1 e1 (0, 0)) ∧ W.heap[w.heap.size + 1]? = some (.cells c2 e2 (0, 0)) ∧ W.heap[w.heap.size + 2]? = some (.cells c3 e3 (0, 0)) ∧ W.heap[w.heap.size + 3]? = some (.cells c4 e4 (0, 0)) ∧ w.grownBy W none ∧ W.heap.size = w.heap.size + 4 := by
  rintro W rfl
  have g1 := World.grownBy_alloc w (.cells c1 e1) none
  have g2 := World.grownBy_alloc (w.alloc (.cells c1 e1)) (.cells c2 e2) none
  have g3 := World.grownBy_alloc ((w.alloc (.cells c1 e1)).alloc (.cells c2 e2)) (.cells c3 e3) none
  have g4 := World.grownBy_alloc (((w.alloc (.cells c1 e1)).alloc (.cells c2 e2)).alloc (.cells c3 e3)) (.cells c4 e4) none
  have h1 := heap_alloc_new w (.cells c1 e1)
  have h2 := heap_alloc_new (w.alloc (.cells c1 e1)) (.cells c2 e2)
  have h3 := heap_alloc_new ((w.alloc (.cells c1 e1)).alloc (.cells c2 e2)) (.cells c3 e3)
  have h4 := heap_alloc_new (((w.alloc (.cells c1 e1)).alloc (.cells c2 e2)).alloc (.cells c3 e3)) (.cells c4 e4)
  simp only [alloc_size] at h2 h3 h4
  exact ⟨block_kept h1 (grownBy_trans' (grownBy_trans' g2 g3) g4) (by simp), block_kept h2 (grownBy_trans' g3 g4) (by simp), block_kept h3 g4 (by simp), h4, grownBy_trans' (grownBy_trans' (grownBy_trans' g1 g2) g3) g4, by simp only [alloc_size]⟩
theorem laid3 (w : World) (c1 c2 c3 : Array Value) (e1 e2 e3 : Nat) : ∀ W, W = ((w.alloc (.cells c1 e1)).alloc (.cells c2 e2)).alloc (.cells c3 e3) →
    W.heap[w.heap.size]? = some (.cells c1 e1 (0, 0)) ∧ W.heap[w.heap.size + 1]? = some (.cells c2 e2 (0, 0)) ∧ W.heap[w.heap.size + 2]? = some (.cells c3 e3 (0, 0)) ∧ w.grownBy W none ∧ W.heap.size = w.heap.size + 3 := by
  rintro W rfl
  have g1 := World.grownBy_alloc w (.cells c1 e1) none
  have g2 := World.grownBy_alloc (w.alloc (.cells c1 e1)) (.cells c2 e2) none
  have g3 := World.grownBy_alloc ((w.alloc (.cells c1 e1)).alloc (.cells c2 e2)) (.cells c3 e3) none
  have h1 := heap_alloc_new w (.cells c1 e1)
  have h2 := heap_alloc_new (w.alloc (.cells c1 e1)) (.cells c2 e2)
  have h3 := heap_alloc_new ((w.alloc (.cells c1 e1)).alloc (.cells c2 e2)) (.cells c3 e3)
  simp only [alloc_size] at h2 h3
  exact ⟨block_kept h1 (grownBy_trans' g2 g3) (by simp), block_kept h2 g3 (by simp), h3, grownBy_trans' (grownBy_trans' g1 g2) g3, by simp only [alloc_size]⟩
set_option maxHeartbeats 800000 in
theorem known40_any (w : World) (hT : TabOk w) : Calls Tryd.prog 17 #[] w fun e w' => e = .returned (.bool true) ∧ w.grownBy w' none := by
  have HT := Lib.hid hT
  clear hT
  go_enter Tryd.func17, Tryd.ntmps17
  go_wp2_with fail
  obtain ⟨wA, hWA⟩ : ∃ wA, wA = (((w.alloc (.cells #[.int .i64 0, .int .i64 1] 3)).alloc (.cells #[.int .i64 1, .int .i64 0] 3)).alloc (.cells #[.slice (some ⟨w.heap.size, 0, none⟩) 2 2, .slice (some ⟨w.heap.size + 1, 0, none⟩) 2 2] 22)).alloc (.cells #[.int .i64 1] 3) := ⟨_, rfl⟩
  obtain ⟨h1, h2, h3, h4, hgA, hzA⟩ := laid4 w _ _ _ _ _ _ _ _ wA hWA
  rw [← hWA]
  have hcl := closure_any wA.heap.size wA _ _ [[0, 1], [1, 0]] [1] (Nat.le_refl _) (mat_two h1 h2 h3 (by omega) (by omega) (by omega)) (row_block' (n := 1) (zs := [1]) h4 rfl rfl (by unfold maxLen; omega) (by omega)) (HT.out.kept hgA (by simp))
  have HC := Lib.hid hcl; have HGA := Lib.hid hgA
  clear hcl hgA h1 h2 h3 h4 hWA
  refine HC.out.mono ?_
  rintro e w1 ⟨hg1, hc1⟩
  rcases hc1 with ⟨hne, _⟩ | ⟨_, v1, rfl, hr1⟩
  · exact absurd checkE_one hne
  rw [closeL_one] at hr1
  have HG1 : Hid (w.grownBy w1 none) := Lib.hid (grownBy_trans' HGA.out hg1)
  have HR1 : Hid (Row w1.heap.size w1 v1 (ints [3])) := Lib.hid hr1
  have hz1 := hg1.size
  clear hr1 hg1 HC HGA
  go_wp2_with fail
  obtain ⟨wB, hWB⟩ : ∃ wB, wB = (((w1.alloc (.cells #[.int .i64 0, .int .i64 1] 3)).alloc (.cells #[.int .i64 1, .int .i64 1] 3)).alloc (.cells #[.slice (some ⟨w1.heap.size, 0, none⟩) 2 2, .slice (some ⟨w1.heap.size + 1, 0, none⟩) 2 2] 22)).alloc (.cells #[.int .i64 1] 3) := ⟨_, rfl⟩
  obtain ⟨h1, h2, h3, h4, hgB, hzB⟩ := laid4 w1 _ _ _ _ _ _ _ _ wB hWB
  rw [← hWB]
  have hcl := closure_any wB.heap.size wB _ _ [[0, 1], [1, 1]] [1] (Nat.le_refl _) (mat_two h1 h2 h3 (by omega) (by omega) (by omega)) (row_block' (n := 1) (zs := [1]) h4 rfl rfl (by unfold maxLen; omega) (by omega)) (HT.out.kept (grownBy_trans' HG1.out hgB) (by simp))
  have HC := Lib.hid hcl; have HGB := Lib.hid hgB
  clear hcl hgB h1 h2 h3 h4 hWB
  refine HC.out.mono ?_
  rintro e w2 ⟨hg2, hc2⟩
  rcases hc2 with ⟨hne, _⟩ | ⟨_, v2, rfl, hr2⟩
  · exact absurd checkE_two hne
  rw [closeL_two] at hr2
  have HG12 : Hid (w1.grownBy w2 none) := Lib.hid (grownBy_trans' HGB.out hg2)
  have HR2 : Hid (Row w2.heap.size w2 v2 (ints [1, 2])) := Lib.hid hr2
  have hz2 := hg2.size
  clear hr2 hg2 HC HGB
  have HGA3 := Lib.hid (World.grownBy_alloc w2 (.cells #[.int .i64 3] 3) none)
  have HS3 := Lib.hid (same03_any w1.heap.size (w2.heap.size + 1) (w2.alloc (.cells #[.int .i64 3] 3)) v1 _ [3] [3] ((HR1.out.kept HG12.out (by simp)).kept HGA3.out (by simp)) (row_lit w2 [3] #[.int .i64 3] rfl 1 rfl (by unfold maxLen; omega)))
  go_wp2_with fail
  refine HS3.out.mono ?_
  rintro e w3 ⟨rfl, m3, rfl⟩
  have HG3 := Lib.hid (grownBy_trans' HGA3.out (grownBy_drewN (w2.alloc (.cells #[.int .i64 3] 3)) m3 none))
  obtain ⟨w3, hw3⟩ : ∃ w3, w3 = (w2.alloc (.cells #[.int .i64 3] 3)).drewN m3 := ⟨_, rfl⟩
  rw [← hw3] at HG3 ⊢
  clear hw3 HS3 HGA3
  have HGA4 := Lib.hid (World.grownBy_alloc w3 (.cells #[.int .i64 1, .int .i64 2] 3) none)
  have HS4 := Lib.hid (same03_any w2.heap.size (w3.heap.size + 1) (w3.alloc (.cells #[.int .i64 1, .int .i64 2] 3)) v2 _ [1, 2] [1, 2] ((HR2.out.kept HG3.out (by simp)).kept HGA4.out (by simp)) (row_lit w3 [1, 2] #[.int .i64 1, .int .i64 2] rfl 2 rfl (by unfold maxLen; omega)))
  go_wp2_with fail
  refine HS4.out.mono ?_
  rintro e w4 ⟨rfl, m4, rfl⟩
  have HG4 := Lib.hid (grownBy_trans' HGA4.out (grownBy_drewN (w3.alloc (.cells #[.int .i64 1, .int .i64 2] 3)) m4 none))
  obtain ⟨w4, hw4⟩ : ∃ w4, w4 = (w3.alloc (.cells #[.int .i64 1, .int .i64 2] 3)).drewN m4 := ⟨_, rfl⟩
  rw [← hw4] at HG4 ⊢
  clear hw4 HS4 HGA4
  have HGW : Hid (w.grownBy w4 none) := Lib.hid (grownBy_trans' (grownBy_trans' (grownBy_trans' HG1.out HG12.out) HG3.out) HG4.out)
  go_wp2_with fail
  obtain ⟨wC, hWC⟩ : ∃ wC, wC = ((w4.alloc (.cells #[.int .i64 0, .int .i64 1] 3)).alloc (.cells #[.int .i64 1, .int .i64 0] 3)).alloc (.cells #[.slice (some ⟨w4.heap.size, 0, none⟩) 2 2, .slice (some ⟨w4.heap.size + 1, 0, none⟩) 2 2] 22) := ⟨_, rfl⟩
  obtain ⟨h1, h2, h3, hgC, hzC⟩ := laid3 w4 _ _ _ _ _ _ wC hWC
  rw [← hWC]
  have hom := pomega_any wC.heap.size wC _ [[0, 1], [1, 0]] 2 (Nat.le_refl _) (mat_two h1 h2 h3 (by omega) (by omega) (by omega)) (HT.out.kept (grownBy_trans' HGW.out hgC) (by simp))
  rw [omegaP_one] at hom
  have HOM := Lib.hid hom; have HGC := Lib.hid hgC
  clear hom hgC h1 h2 h3 hWC
  refine HOM.out.mono ?_
  rintro e w5 ⟨rfl, hg5⟩
  have HG5 := Lib.hid hg5
  clear hg5
  go_wp2
  go_ret
  exact ⟨ret_bool rfl, grownBy_trans' (grownBy_trans' HGW.out HGC.out) HG5.out⟩
end Go.Proofs.YtdjhoadoiknaoaaDoor

namespace Go.Proofs.YtdjhoadoiknaoaaDoor
open Go.RowKit
theorem TableE.le {most : Nat} {T : List (List Nat)} {im : List Nat} (h : TableE most T im) : T.length ≤ 400 := by
  have key : ∀ (d : DfaV) (S : SynV), Of21E d (some S) → S.tab.length ≤ 400 := fun d S h => by
    obtain ⟨n, k, m, M, _, _, _, _, el, pr, la, ri, mm, _, h1, _, h2, _⟩ := h
    rw [h2, tabE_length]; exact h1
  rcases h with ⟨d, n, k, S, _, _, h1, _, rfl, _⟩ | ⟨d, n, S, _, _, _, h1, rfl, _⟩
  · exact key d S h1
  · cases S with
    | none => simp [SynPart]
    | some S => exact key d S h1
set_option maxRecDepth 100000 in
set_option maxHeartbeats 2000000 in
theorem sets_walk (w : World) (sl : Value) (zs : List Int) (a b : Int) (h : Row w.heap.size w sl (zs.map (Value.int .i64))) (hT : TabOk w) :
    Calls Tryd.prog 4 #[sl, .int .i64 a, .int .i64 b] w fun e w' => e = .returned (.bool true) ∧ w.grownBy w' none := by
  obtain ⟨sA, sC, rfl⟩ := h.shape
  obtain ⟨sl, hsl⟩ : ∃ sl, sl = (zs.map (Value.int .i64)).length := ⟨_, rfl⟩
  rw [← hsl] at h ⊢
  have HNW := Lib.hid (new_any w.heap.size w (.slice sA sl sC) zs h (Nat.le_refl _))
  have HT := Lib.hid hT
  clear h hT hsl
  go_enter Tryd.func4, Tryd.ntmps4
  go_wp2_with fail
  refine HNW.out.mono ?_
  rintro e w1 ⟨rfl, hT1, hg1⟩
  have HTA := Lib.hid (table40_any w.heap.size w.heap.size 12 w1 (by omega) hT1)
  have HG1 := Lib.hid hg1
  clear hT1 hg1
  go_wp2_with fail
  refine HTA.out.mono ?_
  rintro e w2 ⟨T, im, vT, vI, rfl, hTm, hIm, hTE, hTp, hg2⟩
  have hg02 := grown_far HG1.out hg2 (fun j e => by have e : w.heap.size = j := Option.some.inj e; omega)
  have HG2 := Lib.hid hg02
  have HT2 := Lib.hid (HT.out.kept hg02 (by simp))
  have hTl := hTE.le
  have hmat := (TMatT.tmat hTm).mat
  obtain ⟨tA, tC, rfl⟩ := (TMatT.tmat hTm).shape
  obtain ⟨iA, iC, rfl⟩ := hIm.shape
  obtain ⟨t, ht⟩ : ∃ t, t = tabI T := ⟨_, rfl⟩
  obtain ⟨tl, htl⟩ : ∃ tl, tl = T.length := ⟨_, rfl⟩
  rw [← ht] at hmat
  rw [← htl] at hmat hTl ⊢
  have HM := Lib.hid hmat
  clear hTm hIm hTE hTp hg2 hg02 hmat ht htl
  go_wp2_with fail
  have hwl : wrap64 (2 ^ min tl 64) ≤ 9223372036854775807 := by unfold wrap64; omega
  obtain ⟨nn, hnn⟩ : ∃ nn, nn = wrap64 ((2 : Int) ^ min tl 64) := ⟨_, rfl⟩
  rw [← hnn] at hwl ⊢
  clear hnn
  refine (mod_any _ _ _ hwl).mono ?_
  rintro e w3 ⟨rfl, rfl⟩
  go_wp2_with fail
  refine (mod_any _ _ _ hwl).mono ?_
  rintro e w3 ⟨rfl, rfl⟩
  obtain ⟨x, hx⟩ : ∃ x, x = modI a nn := ⟨_, rfl⟩
  obtain ⟨y, hy⟩ : ∃ y, y = modI b nn := ⟨_, rfl⟩
  rw [← hx, ← hy]
  clear hx hy hwl
  have HM2 := Lib.hid (HM.out.mono (Nat.le_refl _))
  have HGA2 := Lib.hid (grownBy_refl w2 none)
  go_wp2_with fail
  refine (pprod_any w2.heap.size w2 _ t x y (by have := HGA2.out.size; omega) HM2.out HT2.out).mono ?_
  rintro e w3 ⟨rfl, hg3⟩
  have HG3 := Lib.hid (grown_far HG2.out hg3 (by simp)); have HGA3 := Lib.hid (grown_far HGA2.out hg3 (by simp)); have HM3 := Lib.hid (HM2.out.kept hg3 (by simp)); have HT3 := Lib.hid (HT2.out.kept hg3 (by simp))
  clear hg3
  go_wp2_with fail
  refine (rprod_any w2.heap.size w3 _ t x y (by have := HGA3.out.size; omega) HM3.out).mono ?_
  rintro e w4 ⟨rfl, hg4⟩
  have HG4 := Lib.hid (grown_far HG3.out hg4 (by simp)); have HGA4 := Lib.hid (grown_far HGA3.out hg4 (by simp)); have HM4 := Lib.hid (HM3.out.kept hg4 (by simp)); have HT4 := Lib.hid (HT3.out.kept hg4 (by simp))
  clear hg4
  obtain ⟨p5, hp5⟩ : ∃ p, p = prodP t x y := ⟨_, rfl⟩
  rw [← hp5]
  clear hp5
  go_wp2_with fail
  refine (pomega_any w2.heap.size w4 _ t x (by have := HGA4.out.size; omega) HM4.out HT4.out).mono ?_
  rintro e w5 ⟨rfl, hg5⟩
  have HG5 := Lib.hid (grown_far HG4.out hg5 (by simp)); have HGA5 := Lib.hid (grown_far HGA4.out hg5 (by simp)); have HM5 := Lib.hid (HM4.out.kept hg5 (by simp)); have HT5 := Lib.hid (HT4.out.kept hg5 (by simp))
  clear hg5
  go_wp2_with fail
  refine (romega_any w2.heap.size w5 _ t x (by have := HGA5.out.size; omega) HM5.out).mono ?_
  rintro e w6 ⟨rfl, hg6⟩
  have HG6 := Lib.hid (grown_far HG5.out hg6 (by simp)); have HGA6 := Lib.hid (grown_far HGA5.out hg6 (by simp)); have HM6 := Lib.hid (HM5.out.kept hg6 (by simp)); have HT6 := Lib.hid (HT5.out.kept hg6 (by simp))
  clear hg6
  obtain ⟨p7, hp7⟩ : ∃ p, p = omegaP t x := ⟨_, rfl⟩
  rw [← hp7]
  clear hp7
  go_wp2_with fail
  refine (pprod_any w2.heap.size w6 _ t a b (by have := HGA6.out.size; omega) HM6.out HT6.out).mono ?_
  rintro e w7 ⟨rfl, hg7⟩
  have HG7 := Lib.hid (grown_far HG6.out hg7 (by simp)); have HGA7 := Lib.hid (grown_far HGA6.out hg7 (by simp)); have HM7 := Lib.hid (HM6.out.kept hg7 (by simp)); have HT7 := Lib.hid (HT6.out.kept hg7 (by simp))
  clear hg7
  go_wp2_with fail
  refine (rprod_any w2.heap.size w7 _ t a b (by have := HGA7.out.size; omega) HM7.out).mono ?_
  rintro e w8 ⟨rfl, hg8⟩
  have HG8 := Lib.hid (grown_far HG7.out hg8 (by simp)); have HGA8 := Lib.hid (grown_far HGA7.out hg8 (by simp)); have HM8 := Lib.hid (HM7.out.kept hg8 (by simp)); have HT8 := Lib.hid (HT7.out.kept hg8 (by simp))
  clear hg8
  obtain ⟨p9, hp9⟩ : ∃ p, p = prodP t a b := ⟨_, rfl⟩
  rw [← hp9]
  clear hp9
  go_wp2_with fail
  refine (pomega_any w2.heap.size w8 _ t a (by have := HGA8.out.size; omega) HM8.out HT8.out).mono ?_
  rintro e w9 ⟨rfl, hg9⟩
  have HG9 := Lib.hid (grown_far HG8.out hg9 (by simp)); have HGA9 := Lib.hid (grown_far HGA8.out hg9 (by simp)); have HM9 := Lib.hid (HM8.out.kept hg9 (by simp)); have HT9 := Lib.hid (HT8.out.kept hg9 (by simp))
  clear hg9
  go_wp2_with fail
  refine (romega_any w2.heap.size w9 _ t a (by have := HGA9.out.size; omega) HM9.out).mono ?_
  rintro e w10 ⟨rfl, hg10⟩
  have HG10 := Lib.hid (grown_far HG9.out hg10 (by simp)); have HGA10 := Lib.hid (grown_far HGA9.out hg10 (by simp)); have HM10 := Lib.hid (HM9.out.kept hg10 (by simp)); have HT10 := Lib.hid (HT9.out.kept hg10 (by simp))
  clear hg10
  obtain ⟨p11, hp11⟩ : ∃ p, p = omegaP t a := ⟨_, rfl⟩
  rw [← hp11]
  clear hp11
  go_wp2_with fail
  refine (known40_any w10 HT10.out).mono ?_
  rintro e w20 ⟨rfl, hg20⟩
  have HG20 := Lib.hid (grown_far HG10.out hg20 (by simp))
  clear hg20
  go_wp2
  go_ret
  exact ⟨rfl, HG20.out⟩
end Go.Proofs.YtdjhoadoiknaoaaDoor

namespace Go.Proofs.YtdjhoadoiknaoaaDoor
open Go.RowKit
def laidTabs : List (String × DataW Unit) := [("math/bits.deBruijn32tab", Rows.laid_math_bits_deBruijn32tab), ("math/bits.deBruijn64tab", Rows.laid_math_bits_deBruijn64tab)]
theorem tabOk_of_laid {W : World} (h : laidMetH Tryd.prog laidTabs W) : TabOk W := by
  rw [MakeChecks.laidMetH_plain _ _ _ (by kernel_rfl)] at h
  obtain ⟨ps, ⟨g0, t0, cs0, f0, p0, q0, hg0, ht0, hv0, hd0, ⟨g1, t1, cs1, f1, p1, q1, hg1, ht1, hv1, hd1, _, _⟩, _⟩, _, _⟩ := h
  have e1 : Tryd.prog.globalNamed "math/bits.deBruijn64tab" = some 1 := by kernel_rfl
  obtain rfl := Option.some.inj (e1.symm.trans hg1)
  have e2 : (Tryd.prog.globals[1]?).map (·.type) = some 143 := by kernel_rfl
  obtain rfl := Option.some.inj (e2.symm.trans ht1)
  have hc := Lib.cells_of_tab (k := .u8) (zs := Lib.deBruijn64tab.map fun (x : Nat) => (x : Int)) (n := 64) (e := 5) (by kernel_rfl) (by kernel_rfl) (by kernel_rfl) (by kernel_rfl) hd1
  have hti : Lib.TabIs Tryd.prog W "math/bits.deBruijn64tab" .u8 (Lib.deBruijn64tab.map fun (x : Nat) => (x : Int)) := by
    unfold Lib.TabIs
    rw [hv1, ← hc]
  have hcell : ∀ i, i < Lib.deBruijn64tab.length → W.cell? ⟨1, i, none⟩ = some (.int .u8 (Lib.deBruijn64tab.getD i 0)) := fun i hi => by
    have := hti.cell e1 i (by rw [List.length_map]; exact hi)
    rw [this]
    simp [List.getD, List.getElem?_eq_getElem hi]
  exact ⟨World.block_lt_of_cell? W _ (hcell 0 (by decide)), hcell⟩
end Go.Proofs.YtdjhoadoiknaoaaDoor
