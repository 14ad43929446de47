/- Part 43 of the proof: MAny, Letters, Table40, Known40, GoodT, Mono, Closed, Steps, StepsO, AgPlain. -/
import Derived.Test.YtdjhoadoiknaoaaDoorZq42
set_option linter.unusedVariables false
set_option linter.unusedSimpArgs false
namespace Go.Proofs.YtdjhoadoiknaoaaDoor
open Go.RowKit
theorem DealtDfa.r {B tb : Nat} {w : World} {letters most : Nat} {e : Ending} {w' : World} (h : DealtDfa B tb w letters most e w') : DealtR (fun _ _ => True) B tb w letters most e w' := by
 obtain ⟨v, m, n, h1, h2, h3, h4, h6, h7⟩ := h
 exact ⟨v, m, n, h1, h2, h3, h4, trivial, h6, h7⟩
def LettersOk (B tb : Nat) (w : World) (e : Ending) (w' : World) : Prop := ∃ r : Nat, e = .returned (.int .i64 (r : Int)) ∧ 1 ≤ r ∧ r ≤ 2 ∧ xT B w' tb ∧ w.grownBy w' (some tb)
set_option maxHeartbeats 400000 in
theorem letters_any (B tb : Nat) (w : World) (hT : xT B w tb) :
  Calls Tryd.prog 13 #[.pointer (some ⟨tb, 0, none⟩)] w (LettersOk B tb w) := by
 have HN := Kh (tN B tb w 8 (by omega) hT)
 clear hT
 go_enter Tryd.func13, Tryd.ntmps13
 go_wp2_with fail
 refine HN.out.mono ?_
 rintro e w1 ⟨r, rfl, hr0, hr1, hT1, hg1⟩
 have hr8 := hr1 (by omega)
 have HT1 := Kh hT1; have HG1 := Kh hg1
 clear hT1 hg1 hr1
 go_wp2
 go_ret
 refine ⟨(2 - r / 7).toNat, ?_, by omega, by omega, HT1.out, HG1.out⟩
 show Ending.returned (.int .i64 (2 - r / 7)) = _
 exact yG (by omega)
theorem DfaOwn.dfa {w w' : World} {v : Value} {m : DfaV} {n k : Nat} (h : DfaOwn w w' v m) (hd : VD m n k) : DfaOk w'.heap.size w' v m := by
 obtain ⟨o, hs, sf, cf, sn, cn, rfl, _, hh⟩ := h
 exact (hh.built (by rw [hd.hn, hd.nl])).dfa
theorem TMatT.nil (B : Nat) (w : World) : TMatT B w (.slice none 0 0) [] := ⟨[], .inl ⟨rfl, rfl⟩, RowsT.nil⟩
theorem closeL_one : uD [[0, 1], [1, 0]] [1] = [3] := by unfold uD vC; decide +kernel
theorem closeL_two : uD [[0, 1], [1, 1]] [1] = [1, 2] := by unfold uD vC; decide +kernel
theorem valid_one : xJ [[0, 1], [1, 0]] = 0 := sH (by decide +kernel) (assoc_of_all (by
 unfold assAt
 decide +kernel))
theorem valid_two : xJ [[0, 1], [1, 1]] = 0 := sH (by decide +kernel) (assoc_of_all (by
 unfold assAt
 decide +kernel))
theorem checkE_one : wI [[0, 1], [1, 0]] [1] = 0 := by
 rw [wI, valid_one]; decide +kernel
theorem checkE_two : wI [[0, 1], [1, 1]] [1] = 0 := by
 rw [wI, valid_two]; decide +kernel
theorem omegaP_one : omegaP [[0, 1], [1, 0]] 2 = 3 := by
 rw [omegaP, mayB, valid_one]; decide +kernel
theorem rowAt_block {W : World} {a e : Nat} {zs : List Int} {cs : Array Value} (ha : W.heap[a]? = some (.cells cs e (0, 0))) (hcs : cs.toList = ints zs) : RowAt W a 0 (ints zs) := by
 refine ⟨zT ha, fun i hi => ?_⟩
 have hi' : i < cs.size := by rw [← Array.length_toList, hcs]; exact hi
 rw [Nat.zero_add, zJ ha i hi']
 congr 1
 rw [← Array.getElem_toList]
 simp only [hcs]
theorem row_block' {B : Nat} {W : World} {a e n : Nat} {zs : List Int} {cs : Array Value} (ha : W.heap[a]? = some (.cells cs e (0, 0))) (hcs : cs.toList = ints zs) (hn : zs.length = n) (hm : n ≤ maxLen) (hB : a < B) : Row B W (.slice (some ⟨a, 0, none⟩) n n) (ints zs) :=
 .inr ⟨a, 0, n, by rw [zU, hn], hB, by rw [zU]; omega, hm, rowAt_block ha hcs⟩
theorem mat_two {B : Nat} {W : World} {a b c e e' : Nat} {p q r s : Int} (ha : W.heap[a]? = some (.cells #[.int .i64 p, .int .i64 q] e (0, 0))) (hb : W.heap[b]? = some (.cells #[.int .i64 r, .int .i64 s] e (0, 0)))
  (hc : W.heap[c]? = some (.cells #[.slice (some ⟨a, 0, none⟩) 2 2, .slice (some ⟨b, 0, none⟩) 2 2] e' (0, 0))) (h1 : a < B) (h2 : b < B) (h3 : c < B) : Mat B W (.slice (some ⟨c, 0, none⟩) 2 2) [[p, q], [r, s]] := by
 have hm : 2 ≤ maxLen := by unfold maxLen; omega
 refine .inr ⟨c, 0, 2, fun x => if x = 0 then some ⟨a, 0, none⟩ else some ⟨b, 0, none⟩, fun _ => 2, rfl, by simp, hm, ⟨h3, zT hc, fun x hx => ?_, fun x hx => ?_⟩⟩
 ·have hx2 : x < 2 := by simpa using hx
  match x, hx2 with
  | 0, _ => exact zJ hc 0 (by simp)
  | 1, _ => exact zJ hc 1 (by simp)
 ·have hx2 : x < 2 := by simpa using hx
  match x, hx2 with
  | 0, _ => exact row_block' (zs := [p, q]) ha rfl rfl hm h1
  | 1, _ => exact row_block' (zs := [r, s]) hb rfl rfl hm h2
theorem laid4 (w : World) (c1 c2 c3 c4 : Array Value) (e1 e2 e3 e4 : Nat) : ∀ W, W = (((w.alloc (.cells c1 e1)).alloc (.cells c2 e2)).alloc (.cells c3 e3)).alloc (.cells c4 e4) →
  W.heap[w.heap.size]? = some (.cells c1 e1 (0, 0)) ∧ W.heap[w.heap.size + 1]? = some (.cells c2 e2 (0, 0)) ∧ W.heap[w.heap.size + 2]? = some (.cells c3 e3 (0, 0)) ∧ W.heap[w.heap.size + 3]? = some (.cells c4 e4 (0, 0)) ∧ w.grownBy W none ∧ W.heap.size = w.heap.size + 4 := by
 rintro W rfl
 have g1 := World.grownBy_alloc w (.cells c1 e1) none
 have g2 := World.grownBy_alloc (w.alloc (.cells c1 e1)) (.cells c2 e2) none
 have g3 := World.grownBy_alloc ((w.alloc (.cells c1 e1)).alloc (.cells c2 e2)) (.cells c3 e3) none
 have g4 := World.grownBy_alloc (((w.alloc (.cells c1 e1)).alloc (.cells c2 e2)).alloc (.cells c3 e3)) (.cells c4 e4) none
 have h1 := heap_alloc_new w (.cells c1 e1)
 have h2 := heap_alloc_new (w.alloc (.cells c1 e1)) (.cells c2 e2)
 have h3 := heap_alloc_new ((w.alloc (.cells c1 e1)).alloc (.cells c2 e2)) (.cells c3 e3)
 have h4 := heap_alloc_new (((w.alloc (.cells c1 e1)).alloc (.cells c2 e2)).alloc (.cells c3 e3)) (.cells c4 e4)
 simp only [zM] at h2 h3 h4
 exact ⟨zE h1 (zF (zF g2 g3) g4) (by simp), zE h2 (zF g3 g4) (by simp), zE h3 g4 (by simp), h4, zF (zF (zF g1 g2) g3) g4, by simp only [zM]⟩
theorem laid3 (w : World) (c1 c2 c3 : Array Value) (e1 e2 e3 : Nat) : ∀ W, W = ((w.alloc (.cells c1 e1)).alloc (.cells c2 e2)).alloc (.cells c3 e3) →
  W.heap[w.heap.size]? = some (.cells c1 e1 (0, 0)) ∧ W.heap[w.heap.size + 1]? = some (.cells c2 e2 (0, 0)) ∧ W.heap[w.heap.size + 2]? = some (.cells c3 e3 (0, 0)) ∧ w.grownBy W none ∧ W.heap.size = w.heap.size + 3 := by
 rintro W rfl
 have g1 := World.grownBy_alloc w (.cells c1 e1) none
 have g2 := World.grownBy_alloc (w.alloc (.cells c1 e1)) (.cells c2 e2) none
 have g3 := World.grownBy_alloc ((w.alloc (.cells c1 e1)).alloc (.cells c2 e2)) (.cells c3 e3) none
 have h1 := heap_alloc_new w (.cells c1 e1)
 have h2 := heap_alloc_new (w.alloc (.cells c1 e1)) (.cells c2 e2)
 have h3 := heap_alloc_new ((w.alloc (.cells c1 e1)).alloc (.cells c2 e2)) (.cells c3 e3)
 simp only [zM] at h2 h3
 exact ⟨zE h1 (zF g2 g3) (by simp), zE h2 g3 (by simp), h3, zF (zF g1 g2) g3, by simp only [zM]⟩
set_option maxHeartbeats 800000 in
theorem known40_any (w : World) (hT : TabOk w) : Calls Tryd.prog 17 #[] w fun e w' => e = .returned (.bool true) ∧ w.grownBy w' none := by
 have HT := Kh hT
 clear hT
 go_enter Tryd.func17, Tryd.ntmps17
 go_wp2_with fail
 obtain ⟨wA, hWA⟩ : ∃ wA, wA = (((w.alloc (.cells #[.int .i64 0, .int .i64 1] 3)).alloc (.cells #[.int .i64 1, .int .i64 0] 3)).alloc (.cells #[.slice (some ⟨w.heap.size, 0, none⟩) 2 2, .slice (some ⟨w.heap.size + 1, 0, none⟩) 2 2] 22)).alloc (.cells #[.int .i64 1] 3) := ⟨_, rfl⟩
 obtain ⟨h1, h2, h3, h4, hgA, hzA⟩ := laid4 w _ _ _ _ _ _ _ _ wA hWA
 rw [← hWA]
 have hcl := closure_any wA.heap.size wA _ _ [[0, 1], [1, 0]] [1] (Nat.le_refl _) (mat_two h1 h2 h3 (by omega) (by omega) (by omega)) (row_block' (n := 1) (zs := [1]) h4 rfl rfl (by unfold maxLen; omega) (by omega)) (HT.out.kept hgA (by simp))
 have HC := Kh hcl; have HGA := Kh hgA
 clear hcl hgA h1 h2 h3 h4 hWA
 refine HC.out.mono ?_
 rintro e w1 ⟨hg1, hc1⟩
 rcases hc1 with ⟨hne, _⟩ | ⟨_, v1, rfl, hr1⟩
 ·exact absurd checkE_one hne
 rw [closeL_one] at hr1
 have HG1 : Hid (w.grownBy w1 none) := Kh (zF HGA.out hg1)
 have HR1 : Hid (Row w1.heap.size w1 v1 (ints [3])) := Kh hr1
 have hz1 := hg1.size
 clear hr1 hg1 HC HGA
 go_wp2_with fail
 obtain ⟨wB, hWB⟩ : ∃ wB, wB = (((w1.alloc (.cells #[.int .i64 0, .int .i64 1] 3)).alloc (.cells #[.int .i64 1, .int .i64 1] 3)).alloc (.cells #[.slice (some ⟨w1.heap.size, 0, none⟩) 2 2, .slice (some ⟨w1.heap.size + 1, 0, none⟩) 2 2] 22)).alloc (.cells #[.int .i64 1] 3) := ⟨_, rfl⟩
 obtain ⟨h1, h2, h3, h4, hgB, hzB⟩ := laid4 w1 _ _ _ _ _ _ _ _ wB hWB
 rw [← hWB]
 have hcl := closure_any wB.heap.size wB _ _ [[0, 1], [1, 1]] [1] (Nat.le_refl _) (mat_two h1 h2 h3 (by omega) (by omega) (by omega)) (row_block' (n := 1) (zs := [1]) h4 rfl rfl (by unfold maxLen; omega) (by omega)) (HT.out.kept (zF HG1.out hgB) (by simp))
 have HC := Kh hcl; have HGB := Kh hgB
 clear hcl hgB h1 h2 h3 h4 hWB
 refine HC.out.mono ?_
 rintro e w2 ⟨hg2, hc2⟩
 rcases hc2 with ⟨hne, _⟩ | ⟨_, v2, rfl, hr2⟩
 ·exact absurd checkE_two hne
 rw [closeL_two] at hr2
 have HG12 : Hid (w1.grownBy w2 none) := Kh (zF HGB.out hg2)
 have HR2 : Hid (Row w2.heap.size w2 v2 (ints [1, 2])) := Kh hr2
 have hz2 := hg2.size
 clear hr2 hg2 HC HGB
 have HGA3 := Kh (World.grownBy_alloc w2 (.cells #[.int .i64 3] 3) none)
 have HS3 := Kh (same03_any w1.heap.size (w2.heap.size + 1) (w2.alloc (.cells #[.int .i64 3] 3)) v1 _ [3] [3] ((HR1.out.kept HG12.out (by simp)).kept HGA3.out (by simp)) (row_lit w2 [3] #[.int .i64 3] rfl 1 rfl (by unfold maxLen; omega)))
 go_wp2_with fail
 refine HS3.out.mono ?_
 rintro e w3 ⟨rfl, m3, rfl⟩
 have HG3 := Kh (zF HGA3.out (zR (w2.alloc (.cells #[.int .i64 3] 3)) m3 none))
 obtain ⟨w3, hw3⟩ : ∃ w3, w3 = (w2.alloc (.cells #[.int .i64 3] 3)).drewN m3 := ⟨_, rfl⟩
 rw [← hw3] at HG3 ⊢
 clear hw3 HS3 HGA3
 have HGA4 := Kh (World.grownBy_alloc w3 (.cells #[.int .i64 1, .int .i64 2] 3) none)
 have HS4 := Kh (same03_any w2.heap.size (w3.heap.size + 1) (w3.alloc (.cells #[.int .i64 1, .int .i64 2] 3)) v2 _ [1, 2] [1, 2] ((HR2.out.kept HG3.out (by simp)).kept HGA4.out (by simp)) (row_lit w3 [1, 2] #[.int .i64 1, .int .i64 2] rfl 2 rfl (by unfold maxLen; omega)))
 go_wp2_with fail
 refine HS4.out.mono ?_
 rintro e w4 ⟨rfl, m4, rfl⟩
 have HG4 := Kh (zF HGA4.out (zR (w3.alloc (.cells #[.int .i64 1, .int .i64 2] 3)) m4 none))
 obtain ⟨w4, hw4⟩ : ∃ w4, w4 = (w3.alloc (.cells #[.int .i64 1, .int .i64 2] 3)).drewN m4 := ⟨_, rfl⟩
 rw [← hw4] at HG4 ⊢
 clear hw4 HS4 HGA4
 have HGW : Hid (w.grownBy w4 none) := Kh (zF (zF (zF HG1.out HG12.out) HG3.out) HG4.out)
 go_wp2_with fail
 obtain ⟨wC, hWC⟩ : ∃ wC, wC = ((w4.alloc (.cells #[.int .i64 0, .int .i64 1] 3)).alloc (.cells #[.int .i64 1, .int .i64 0] 3)).alloc (.cells #[.slice (some ⟨w4.heap.size, 0, none⟩) 2 2, .slice (some ⟨w4.heap.size + 1, 0, none⟩) 2 2] 22) := ⟨_, rfl⟩
 obtain ⟨h1, h2, h3, hgC, hzC⟩ := laid3 w4 _ _ _ _ _ _ wC hWC
 rw [← hWC]
 have hom := pomega_any wC.heap.size wC _ [[0, 1], [1, 0]] 2 (Nat.le_refl _) (mat_two h1 h2 h3 (by omega) (by omega) (by omega)) (HT.out.kept (zF HGW.out hgC) (by simp))
 rw [omegaP_one] at hom
 have HOM := Kh hom; have HGC := Kh hgC
 clear hom hgC h1 h2 h3 hWC
 refine HOM.out.mono ?_
 rintro e w5 ⟨rfl, hg5⟩
 have HG5 := Kh hg5
 clear hg5
 go_wp2
 go_ret
 exact ⟨vH rfl, zF (zF HGW.out HGC.out) HG5.out⟩
end Go.Proofs.YtdjhoadoiknaoaaDoor
namespace Go.Proofs.YtdjhoadoiknaoaaDoor
section
variable {gs : List (List Nat)} {n : Nat} {el : List (List Nat)} {pr la : List Int} {ri : List (List Nat)}
theorem Enm.ent (h : Enm gs n el pr la ri el.length) (hg : ∀ g ∈ gs, IsT n g) {x y : Nat} (hx : x < el.length) (hy : y < el.length) : entN (tabI (tabE pr la ri el.length)) x y < el.length ∧ el.getD (entN (tabI (tabE pr la ri el.length)) x y) [] = compT (el.getD x []) (el.getD y []) := by
 rw [tabI_entN]; exact h.tab hg hx hy
theorem Enm.entI (h : Enm gs n el pr la ri el.length) (hg : ∀ g ∈ gs, IsT n g) {x y z : Nat} (hx : x < el.length) (hy : y < el.length) (hz : z < el.length) (e : el.getD z [] = compT (el.getD x []) (el.getD y [])) : entN (tabI (tabE pr la ri el.length)) x y = z :=
 nodup_getD h.en.nodup (h.ent hg hx hy).1 hz ((h.ent hg hx hy).2.trans e.symm)
theorem yK : (tabI (tabE pr la ri el.length)).length = el.length := by rw [yZ, xU]
theorem Enm.shape (h : Enm gs n el pr la ri el.length) (hg : ∀ g ∈ gs, IsT n g) (h4 : el.length ≤ 400) : uI (tabI (tabE pr la ri el.length)) = 0 := by
 have hp := h.en.pos
 unfold uI
 rw [yK, if_neg (by omega), if_neg (by omega), if_pos]
 rw [List.all_eq_true]
 intro r hr
 obtain ⟨x, hx, rfl⟩ := List.getElem_of_mem hr
 have hx' : x < el.length := by rw [yK] at hx; exact hx
 rw [← zN (d := []) hx]
 have hl : ((tabI (tabE pr la ri el.length)).getD x []).length = el.length := by
  rw [tabI_row, List.length_map, zN (by rw [xU]; exact hx')]
  simp [tabE, tS]
 refine sZ.2 ⟨hl, fun y hy => ?_⟩
 rw [hl] at hy
 have e := tabI_ent (tabE pr la ri el.length) x y
 have h1 := (h.tab hg hx' hy).1
 unfold Go.Proofs.YtdjhoadoiknaoaaDoor.ent at e
 rw [e]
 omega
theorem Enm.assoc (h : Enm gs n el pr la ri el.length) (hg : ∀ g ∈ gs, IsT n g) : Assoc (tabI (tabE pr la ri el.length)) := by
 intro g hg' x y hx hy
 rw [yK] at hg' hx hy
 obtain ⟨a1, a2⟩ := h.ent hg hx hg'
 obtain ⟨b1, b2⟩ := h.ent hg hg' hy
 obtain ⟨c1, c2⟩ := h.ent hg hx b1
 refine h.entI hg a1 hy c1 ?_
 rw [c2, b2, a2, compT_assoc (h.en.it _ (getDm hx)) (h.en.it _ (getDm hg'))]
theorem Enm.isId (h : Enm gs n el pr la ri el.length) (hg : ∀ g ∈ gs, IsT n g) : isId (tabI (tabE pr la ri el.length)) 0 = true := by
 have hp := h.en.pos
 refine List.all_eq_true.2 fun x hx => ?_
 rw [List.mem_range, yK] at hx
 have hit : IsT n (el.getD x []) := h.en.it _ (getDm hx)
 unfold idAt
 rw [h.entI hg hp hx hx (by rw [h.en.one, compT_id hit]), h.entI hg hx hp hx (by rw [h.en.one, compT_id' hit])]
 simp
theorem Enm.ident (h : Enm gs n el pr la ri el.length) (hg : ∀ g ∈ gs, IsT n g) : vJ (tabI (tabE pr la ri el.length)) = 0 := by
 have := identI_some (t := tabI (tabE pr la ri el.length)) (e := 0) (by rw [yK]; exact h.en.pos) (h.isId hg) (fun x hx => by omega)
 exact this
theorem Enm.good (h : Enm gs n el pr la ri el.length) (hg : ∀ g ∈ gs, IsT n g) (h12 : el.length ≤ 12) (h1 : 1 ≤ gs.length) (h6 : gs.length ≤ 6) : Good (tabI (tabE pr la ri el.length)) ((imgE gs el).map fun (x : Nat) => (x : Int)) where
 valid := sH (h.shape hg (by omega)) (h.assoc hg)
 ident := ⟨0, h.ident hg, by rw [yK]; exact h.en.pos, h.isId hg⟩
 le := by rw [yK]; exact h12
 im0 := by rw [List.length_map, tX]; exact h1
 im6 := by rw [List.length_map, tX]; exact h6
 inb := by
  rw [inB_iff, yK]
  intro y hy
  have hy' : y < gs.length := by rw [List.length_map, tX] at hy; exact hy
  rw [xO (x := 0) (by rw [tX]; exact hy')]
  have : (imgE gs el).getD y 0 < el.length := by
   unfold imgE
   rw [xO (x := []) hy']
   exact List.idxOf_lt_length_of_mem (h.image hg hy')
  omega
end
end Go.Proofs.YtdjhoadoiknaoaaDoor
namespace Go.Proofs.YtdjhoadoiknaoaaDoor
section
variable {n : Nat} {tb : Nat → Nat → Nat}
theorem prodSet_mono {a a' b b' : Nat} (ha : a &&& a' = a) (hb : b &&& b' = b) : zV n tb a b &&& zV n tb a' b' = zV n tb a b := by
 refine vS.2 fun z hz => ?_
 obtain ⟨x, y, hx, hy, h1, h2, e⟩ := (yO n tb a b z).1 hz
 exact (yO n tb a' b' z).2 ⟨x, y, hx, hy, vS.1 ha x h1, vS.1 hb y h2, e⟩
theorem powSet_mono {a a' : Nat} (ha : a &&& a' = a) (k : Nat) : yM n tb a k &&& yM n tb a' k = yM n tb a k := by
 induction k with
 | zero => exact ha
 | succ k ih => exact prodSet_mono ih ha
theorem powSet_mul (h : Tb n tb) {a m : Nat} (hi : zV n tb (yM n tb a m) (yM n tb a m) = yM n tb a m) (j : Nat) : yM n tb a ((m + 1) * j + m) = yM n tb a m := by
 induction j with
 | zero => simp
 | succ j ih =>
  have := powSet_add h a ((m + 1) * j + m) m
  rw [ih, hi] at this
  rw [show (m + 1) * (j + 1) + m = (m + 1) * j + m + m + 1 from by rw [Nat.mul_succ]; omega]
  exact this.symm
theorem or_mono {a a' b b' : Nat} (ha : a &&& a' = a) (hb : b &&& b' = b) : (a ||| b) &&& (a' ||| b') = a ||| b := by
 refine vS.2 fun z hz => ?_
 rw [Nat.testBit_or, Bool.or_eq_true] at hz ⊢
 rcases hz with hz | hz
 ·exact .inl (vS.1 ha z hz)
 ·exact .inr (vS.1 hb z hz)
theorem omegaGo_is {a : Nat} : ∀ (k x : Nat), Ends n tb a k x → ∃ m, zV n tb (yM n tb a m) (yM n tb a m) = yM n tb a m ∧ tW n tb a k x = yM n tb a m ||| zV n tb (yM n tb a m) a := by
 intro k
 induction k with
 | zero =>
  rintro x ⟨i, m, rfl, hm, e⟩
  obtain rfl : m = 0 := by omega
  exact ⟨i, e, rfl⟩
 | succ k ih =>
  intro x hx
  by_cases hi : zV n tb x x = x
  ·obtain ⟨i, m, rfl, _, _⟩ := hx
   exact ⟨i, hi, omegaGo_stop hi⟩
  ·obtain ⟨j, e, hj⟩ := ends_step hx hi
   obtain rfl : k = j := by omega
   rw [omegaGo_step hi]
   exact ih _ hj
theorem omegaSet_is (h : Tb n tb) {a : Nat} (ha : a < 2 ^ n) : ∃ m, zV n tb (yM n tb a m) (yM n tb a m) = yM n tb a m ∧ xG n tb a = yM n tb a m ||| zV n tb (yM n tb a m) a :=
 omegaGo_is _ _ (ends_start h ha)
theorem omegaSet_mono (h : Tb n tb) {a b : Nat} (ha : a < 2 ^ n) (hb : b < 2 ^ n) (hab : a &&& b = a) : xG n tb a &&& xG n tb b = xG n tb a := by
 obtain ⟨i, hi, ei⟩ := omegaSet_is h ha
 obtain ⟨j, hj, ej⟩ := omegaSet_is h hb
 have h1 := powSet_mul h hi j
 have h2 := powSet_mul h hj i
 have e : (i + 1) * j + i = (j + 1) * i + j := by rw [Nat.succ_mul, Nat.succ_mul, Nat.mul_comm i j]; omega
 have hp : yM n tb a i &&& yM n tb b j = yM n tb a i := by
  rw [← h1, ← h2, ← e]
  exact powSet_mono hab _
 rw [ei, ej]
 exact or_mono hp (prodSet_mono hp hab)
theorem closed_prod (ht : Tb n tb) {l : List Nat} (hl : ∀ b ∈ l, b < 2 ^ n) (hc : zY n tb l = l) {a b : Nat} (ha : under l a = true) (hb : under l b = true) : under l (zV n tb a b) = true := by
 obtain ⟨x, hx, hax⟩ := yI.1 ha
 obtain ⟨y, hy, hby⟩ := yI.1 hb
 have h1 : under (uO n tb l) (zV n tb a b) = true := yI.2 ⟨zV n tb x y, wU.2 (.inr ⟨x, hx, .inl ⟨y, hy, rfl⟩⟩), prodSet_mono hax hby⟩
 rw [← uV (vV ht hl)] at h1
 rw [← hc]; exact h1
theorem closed_omega (ht : Tb n tb) {l : List Nat} (hl : ∀ b ∈ l, b < 2 ^ n) (hc : zY n tb l = l) {a : Nat} (ha : under l a = true) : under l (xG n tb a) = true := by
 obtain ⟨x, hx, hax⟩ := yI.1 ha
 have hxl := hl x hx
 have h1 : under (uO n tb l) (xG n tb a) = true := yI.2 ⟨xG n tb x, wU.2 (.inr ⟨x, hx, .inr rfl⟩), omegaSet_mono ht (sub_lt hax hxl) hxl hax⟩
 rw [← uV (vV ht hl)] at h1
 rw [← hc]; exact h1
end
end Go.Proofs.YtdjhoadoiknaoaaDoor
namespace Go.Proofs.YtdjhoadoiknaoaaDoor
section
variable {n : Nat} {tb : Nat → Nat → Nat}
theorem roundsGo_inv (ht : Tb n tb) : ∀ (k : Nat) (l : List Nat) (d : Bool), FamOk n (l, d) → (d = true → zY n tb l = l) →
  ((yY n tb k (l, d)).2 = true → zY n tb (yY n tb k (l, d)).1 = (yY n tb k (l, d)).1) ∧ (∀ s, under l s = true → under (yY n tb k (l, d)).1 s = true) ∧ FamOk n (yY n tb k (l, d))
 | 0, l, d, hf, hd => ⟨hd, fun _ h => h, hf⟩
 | k + 1, l, true, hf, hd => by
  rw [wT]
  exact ⟨hd, fun _ h => h, hf⟩
 | k + 1, l, false, hf, _ => by
  rw [vY]
  have ih := roundsGo_inv ht k (zY n tb l) (decide (zY n tb l = l)) (famOk_round ht hf) (fun h => by
   have e := of_decide_eq_true h
   rw [e, e])
  exact ⟨ih.1, fun s hs => ih.2.1 s (under_round ht hf.1 hs), ih.2.2⟩
theorem closeFrom_inv (ht : Tb n tb) {l : List Nat} (hf : FamOk n (l, false)) :
  zY n tb (vC n tb l) = vC n tb l ∧ (∀ s, under l s = true → under (vC n tb l) s = true) ∧ (∀ b ∈ vC n tb l, b < 2 ^ n) ∧ maxOf n (vC n tb l) = vC n tb l := by
 have h := roundsGo_inv ht (2 ^ n + 1) l false hf (by simp)
 have h2 := roundsGo_end ht (2 ^ n + 1) l hf (by have := gap_le n l; omega)
 exact ⟨h.1 h2, h.2.1, h.2.2.1, h.2.2.2⟩
end
end Go.Proofs.YtdjhoadoiknaoaaDoor
namespace Go.Proofs.YtdjhoadoiknaoaaDoor
open Go.RowKit
structure StepV where
 op : Int
 a : Int
 b : Int
 word : ByteArray
 set : Int
instance : Inhabited StepV := ⟨⟨0, 0, 0, ByteArray.empty, 0⟩⟩
def oneN (t : List (List Int)) : Nat := (vJ t).toNat
theorem oneN_lt {t : List (List Int)} {im : List Int} (hg : Good t im) : oneN t < t.length ∧ vJ t = (oneN t : Nat) := by
 obtain ⟨e, h1, h2, _⟩ := hg.ident
 have : oneN t = e := by rw [oneN, h1]; rfl
 exact ⟨by omega, by rw [this, h1]⟩
theorem xD {x z : Nat} : (2 ^ x).testBit z = decide (x = z) := by rw [Nat.testBit_two_pow]
theorem tU {n : Nat} {tb : Nat → Nat → Nat} (ht : Tb n tb) {x y : Nat} (hx : x < n) (hy : y < n) : zV n tb (2 ^ x) (2 ^ y) = 2 ^ tb x y := by
 apply Nat.eq_of_testBit_eq
 intro z
 rw [xD, Bool.eq_iff_iff, yO, decide_eq_true_eq]
 constructor
 ·rintro ⟨a, b, _, _, h1, h2, e⟩
  rw [xD, decide_eq_true_eq] at h1 h2
  subst h1; subst h2; exact e
 ·intro e
  exact ⟨x, y, hx, hy, by rw [xD]; simp, by rw [xD]; simp, e⟩
section
variable {t : List (List Int)} {im : List Int}
def UC (t : List (List Int)) (im : List Int) (s : Nat) : Prop := under (uD t im) s = true
theorem close_all (hg : Good t im) : zY t.length (entN t) (uD t im) = uD t im ∧ (∀ s, under (tL t im) s = true → UC t im s) ∧ (∀ b ∈ uD t im, b < 2 ^ t.length) := by
 have h := closeFrom_inv (tb_of hg.valid) (start_ok hg)
 exact ⟨h.1, h.2.1, h.2.2.1⟩
theorem uc_gen (hg : Good t im) {s : Nat} (h : s ∈ genL t im) : UC t im s := by
 refine (close_all hg).2.1 s ?_
 rw [tL, uV (genL_lt hg)]
 exact yI.2 ⟨s, h, sub_refl s⟩
theorem uc_prod (hg : Good t im) {a b : Nat} (ha : UC t im a) (hb : UC t im b) : UC t im (zV t.length (entN t) a b) := closed_prod (tb_of hg.valid) (close_all hg).2.2 (close_all hg).1 ha hb
theorem uc_omega (hg : Good t im) {a : Nat} (ha : UC t im a) : UC t im (xG t.length (entN t) a) := closed_omega (tb_of hg.valid) (close_all hg).2.2 (close_all hg).1 ha
theorem uc_one (hg : Good t im) : UC t im (2 ^ oneN t) := uc_gen hg (by simp [genL, oneN])
end
end Go.Proofs.YtdjhoadoiknaoaaDoor
