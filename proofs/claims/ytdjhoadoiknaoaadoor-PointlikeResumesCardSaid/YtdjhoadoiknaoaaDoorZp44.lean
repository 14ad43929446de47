/- Part 44 of the proof: Known40, Law40S, Law40R, GoodT, Law40P, Laid40. -/
import Derived.Test.YtdjhoadoiknaoaaDoorZp43
import Derived.LaidMore
import Derived.Lib.LaidTab
import Derived.Stop.Joined
set_option linter.unusedVariables false
set_option linter.unusedSimpArgs false
namespace Go.Proofs.YtdjhoadoiknaoaaDoor
open Go.RowKit
theorem closeL_one : closeL [[0, 1], [1, 0]] [1] = [3] := by unfold closeL sB; decide +kernel
theorem closeL_two : closeL [[0, 1], [1, 1]] [1] = [1, 2] := by unfold closeL sB; decide +kernel
theorem valid_one : yZ [[0, 1], [1, 0]] = 0 := sJ (by decide +kernel) (assoc_of_all (by
 unfold assAt
 decide +kernel))
theorem valid_two : yZ [[0, 1], [1, 1]] = 0 := sJ (by decide +kernel) (assoc_of_all (by
 unfold assAt
 decide +kernel))
theorem checkE_one : xD [[0, 1], [1, 0]] [1] = 0 := by
 rw [xD, valid_one]; decide +kernel
theorem checkE_two : xD [[0, 1], [1, 1]] [1] = 0 := by
 rw [xD, valid_two]; decide +kernel
theorem omegaP_one : omegaP [[0, 1], [1, 0]] 2 = 3 := by
 rw [omegaP, mayB, valid_one]; decide +kernel
theorem rowAt_block {W : World} {a e : Nat} {zs : List Int} {cs : Array Value} (ha : W.heap[a]? = some (.cells cs e (0, 0))) (hcs : cs.toList = ints zs) : RowAt W a 0 (ints zs) := by
 refine ⟨zS ha, fun i hi => ?_⟩
 have hi' : i < cs.size := by rw [← Array.length_toList, hcs]; exact hi
 rw [Nat.zero_add, zI ha i hi']
 congr 1
 rw [← Array.getElem_toList]
 simp only [hcs]
theorem row_block' {B : Nat} {W : World} {a e n : Nat} {zs : List Int} {cs : Array Value} (ha : W.heap[a]? = some (.cells cs e (0, 0))) (hcs : cs.toList = ints zs) (hn : zs.length = n) (hm : n ≤ maxLen) (hB : a < B) : Row B W (.slice (some ⟨a, 0, none⟩) n n) (ints zs) :=
 .inr ⟨a, 0, n, by rw [zP, hn], hB, by rw [zP]; omega, hm, rowAt_block ha hcs⟩
theorem mat_two {B : Nat} {W : World} {a b c e e' : Nat} {p q r s : Int} (ha : W.heap[a]? = some (.cells #[.int .i64 p, .int .i64 q] e (0, 0))) (hb : W.heap[b]? = some (.cells #[.int .i64 r, .int .i64 s] e (0, 0)))
  (hc : W.heap[c]? = some (.cells #[.slice (some ⟨a, 0, none⟩) 2 2, .slice (some ⟨b, 0, none⟩) 2 2] e' (0, 0))) (h1 : a < B) (h2 : b < B) (h3 : c < B) : Mat B W (.slice (some ⟨c, 0, none⟩) 2 2) [[p, q], [r, s]] := by
 have hm : 2 ≤ maxLen := by unfold maxLen; omega
 refine .inr ⟨c, 0, 2, fun x => if x = 0 then some ⟨a, 0, none⟩ else some ⟨b, 0, none⟩, fun _ => 2, rfl, by simp, hm, ⟨h3, zS hc, fun x hx => ?_, fun x hx => ?_⟩⟩
 ·have hx2 : x < 2 := by simpa using hx
  match x, hx2 with
  | 0, _ => exact zI hc 0 (by simp)
  | 1, _ => exact zI hc 1 (by simp)
 ·have hx2 : x < 2 := by simpa using hx
  match x, hx2 with
  | 0, _ => exact row_block' (zs := [p, q]) ha rfl rfl hm h1
  | 1, _ => exact row_block' (zs := [r, s]) hb rfl rfl hm h2
theorem laid4 (w : World) (c1 c2 c3 c4 : Array Value) (e1 e2 e3 e4 : Nat) : ∀ W, W = (((w.alloc (.cells c1 e1)).alloc (.cells c2 e2)).alloc (.cells c3 e3)).alloc (.cells c4 e4) →
  W.heap[w.heap.size]? = some (.cells c1 e1 (0, 0)) ∧ W.heap[w.heap.size + 1]? = some (.cells c2 e2 (0, 0)) ∧ W.heap[w.heap.size + 2]? = some (.cells c3 e3 (0, 0)) ∧ W.heap[w.heap.size + 3]? = some (.cells c4 e4 (0, 0)) ∧ w.grownBy W none ∧ W.heap.size = w.heap.size + 4 := by
 rintro W rfl
 have g1 := World.grownBy_alloc w (.cells c1 e1) none
 have g2 := World.grownBy_alloc (w.alloc (.cells c1 e1)) (.cells c2 e2) none
 have g3 := World.grownBy_alloc ((w.alloc (.cells c1 e1)).alloc (.cells c2 e2)) (.cells c3 e3) none
 have g4 := World.grownBy_alloc (((w.alloc (.cells c1 e1)).alloc (.cells c2 e2)).alloc (.cells c3 e3)) (.cells c4 e4) none
 have h1 := heap_alloc_new w (.cells c1 e1)
 have h2 := heap_alloc_new (w.alloc (.cells c1 e1)) (.cells c2 e2)
 have h3 := heap_alloc_new ((w.alloc (.cells c1 e1)).alloc (.cells c2 e2)) (.cells c3 e3)
 have h4 := heap_alloc_new (((w.alloc (.cells c1 e1)).alloc (.cells c2 e2)).alloc (.cells c3 e3)) (.cells c4 e4)
 simp only [zM] at h2 h3 h4
 exact ⟨zE h1 (zF (zF g2 g3) g4) (by simp), zE h2 (zF g3 g4) (by simp), zE h3 g4 (by simp), h4, zF (zF (zF g1 g2) g3) g4, by simp only [zM]⟩
theorem laid3 (w : World) (c1 c2 c3 : Array Value) (e1 e2 e3 : Nat) : ∀ W, W = ((w.alloc (.cells c1 e1)).alloc (.cells c2 e2)).alloc (.cells c3 e3) →
  W.heap[w.heap.size]? = some (.cells c1 e1 (0, 0)) ∧ W.heap[w.heap.size + 1]? = some (.cells c2 e2 (0, 0)) ∧ W.heap[w.heap.size + 2]? = some (.cells c3 e3 (0, 0)) ∧ w.grownBy W none ∧ W.heap.size = w.heap.size + 3 := by
 rintro W rfl
 have g1 := World.grownBy_alloc w (.cells c1 e1) none
 have g2 := World.grownBy_alloc (w.alloc (.cells c1 e1)) (.cells c2 e2) none
 have g3 := World.grownBy_alloc ((w.alloc (.cells c1 e1)).alloc (.cells c2 e2)) (.cells c3 e3) none
 have h1 := heap_alloc_new w (.cells c1 e1)
 have h2 := heap_alloc_new (w.alloc (.cells c1 e1)) (.cells c2 e2)
 have h3 := heap_alloc_new ((w.alloc (.cells c1 e1)).alloc (.cells c2 e2)) (.cells c3 e3)
 simp only [zM] at h2 h3
 exact ⟨zE h1 (zF g2 g3) (by simp), zE h2 g3 (by simp), h3, zF (zF g1 g2) g3, by simp only [zM]⟩
set_option maxHeartbeats 800000 in
theorem known40_any (w : World) (hT : TabOk w) : Calls Tryd.prog 17 #[] w fun e w' => e = .returned (.bool true) ∧ w.grownBy w' none := by
 have HT := Kh hT
 clear hT
 go_enter Tryd.func17, Tryd.ntmps17
 go_wp2_with fail
 obtain ⟨wA, hWA⟩ : ∃ wA, wA = (((w.alloc (.cells #[.int .i64 0, .int .i64 1] 3)).alloc (.cells #[.int .i64 1, .int .i64 0] 3)).alloc (.cells #[.slice (some ⟨w.heap.size, 0, none⟩) 2 2, .slice (some ⟨w.heap.size + 1, 0, none⟩) 2 2] 22)).alloc (.cells #[.int .i64 1] 3) := ⟨_, rfl⟩
 obtain ⟨h1, h2, h3, h4, hgA, hzA⟩ := laid4 w _ _ _ _ _ _ _ _ wA hWA
 rw [← hWA]
 have hcl := closure_any wA.heap.size wA _ _ [[0, 1], [1, 0]] [1] (Nat.le_refl _) (mat_two h1 h2 h3 (by omega) (by omega) (by omega)) (row_block' (n := 1) (zs := [1]) h4 rfl rfl (by unfold maxLen; omega) (by omega)) (HT.out.kept hgA (by simp))
 have HC := Kh hcl; have HGA := Kh hgA
 clear hcl hgA h1 h2 h3 h4 hWA
 refine HC.out.mono ?_
 rintro e w1 ⟨hg1, hc1⟩
 rcases hc1 with ⟨hne, _⟩ | ⟨_, v1, rfl, hr1⟩
 ·exact absurd checkE_one hne
 rw [closeL_one] at hr1
 have HG1 : Hid (w.grownBy w1 none) := Kh (zF HGA.out hg1)
 have HR1 : Hid (Row w1.heap.size w1 v1 (ints [3])) := Kh hr1
 have hz1 := hg1.size
 clear hr1 hg1 HC HGA
 go_wp2_with fail
 obtain ⟨wB, hWB⟩ : ∃ wB, wB = (((w1.alloc (.cells #[.int .i64 0, .int .i64 1] 3)).alloc (.cells #[.int .i64 1, .int .i64 1] 3)).alloc (.cells #[.slice (some ⟨w1.heap.size, 0, none⟩) 2 2, .slice (some ⟨w1.heap.size + 1, 0, none⟩) 2 2] 22)).alloc (.cells #[.int .i64 1] 3) := ⟨_, rfl⟩
 obtain ⟨h1, h2, h3, h4, hgB, hzB⟩ := laid4 w1 _ _ _ _ _ _ _ _ wB hWB
 rw [← hWB]
 have hcl := closure_any wB.heap.size wB _ _ [[0, 1], [1, 1]] [1] (Nat.le_refl _) (mat_two h1 h2 h3 (by omega) (by omega) (by omega)) (row_block' (n := 1) (zs := [1]) h4 rfl rfl (by unfold maxLen; omega) (by omega)) (HT.out.kept (zF HG1.out hgB) (by simp))
 have HC := Kh hcl; have HGB := Kh hgB
 clear hcl hgB h1 h2 h3 h4 hWB
 refine HC.out.mono ?_
 rintro e w2 ⟨hg2, hc2⟩
 rcases hc2 with ⟨hne, _⟩ | ⟨_, v2, rfl, hr2⟩
 ·exact absurd checkE_two hne
 rw [closeL_two] at hr2
 have HG12 : Hid (w1.grownBy w2 none) := Kh (zF HGB.out hg2)
 have HR2 : Hid (Row w2.heap.size w2 v2 (ints [1, 2])) := Kh hr2
 have hz2 := hg2.size
 clear hr2 hg2 HC HGB
 have HGA3 := Kh (World.grownBy_alloc w2 (.cells #[.int .i64 3] 3) none)
 have HS3 := Kh (rB w1.heap.size (w2.heap.size + 1) (w2.alloc (.cells #[.int .i64 3] 3)) v1 _ [3] [3] ((HR1.out.kept HG12.out (by simp)).kept HGA3.out (by simp)) (row_lit w2 [3] #[.int .i64 3] rfl 1 rfl (by unfold maxLen; omega)))
 go_wp2_with fail
 refine HS3.out.mono ?_
 rintro e w3 ⟨rfl, m3, rfl⟩
 have HG3 := Kh (zF HGA3.out (zO (w2.alloc (.cells #[.int .i64 3] 3)) m3 none))
 obtain ⟨w3, hw3⟩ : ∃ w3, w3 = (w2.alloc (.cells #[.int .i64 3] 3)).drewN m3 := ⟨_, rfl⟩
 rw [← hw3] at HG3 ⊢
 clear hw3 HS3 HGA3
 have HGA4 := Kh (World.grownBy_alloc w3 (.cells #[.int .i64 1, .int .i64 2] 3) none)
 have HS4 := Kh (rB w2.heap.size (w3.heap.size + 1) (w3.alloc (.cells #[.int .i64 1, .int .i64 2] 3)) v2 _ [1, 2] [1, 2] ((HR2.out.kept HG3.out (by simp)).kept HGA4.out (by simp)) (row_lit w3 [1, 2] #[.int .i64 1, .int .i64 2] rfl 2 rfl (by unfold maxLen; omega)))
 go_wp2_with fail
 refine HS4.out.mono ?_
 rintro e w4 ⟨rfl, m4, rfl⟩
 have HG4 := Kh (zF HGA4.out (zO (w3.alloc (.cells #[.int .i64 1, .int .i64 2] 3)) m4 none))
 obtain ⟨w4, hw4⟩ : ∃ w4, w4 = (w3.alloc (.cells #[.int .i64 1, .int .i64 2] 3)).drewN m4 := ⟨_, rfl⟩
 rw [← hw4] at HG4 ⊢
 clear hw4 HS4 HGA4
 have HGW : Hid (w.grownBy w4 none) := Kh (zF (zF (zF HG1.out HG12.out) HG3.out) HG4.out)
 go_wp2_with fail
 obtain ⟨wC, hWC⟩ : ∃ wC, wC = ((w4.alloc (.cells #[.int .i64 0, .int .i64 1] 3)).alloc (.cells #[.int .i64 1, .int .i64 0] 3)).alloc (.cells #[.slice (some ⟨w4.heap.size, 0, none⟩) 2 2, .slice (some ⟨w4.heap.size + 1, 0, none⟩) 2 2] 22) := ⟨_, rfl⟩
 obtain ⟨h1, h2, h3, hgC, hzC⟩ := laid3 w4 _ _ _ _ _ _ wC hWC
 rw [← hWC]
 have hom := pomega_any wC.heap.size wC _ [[0, 1], [1, 0]] 2 (Nat.le_refl _) (mat_two h1 h2 h3 (by omega) (by omega) (by omega)) (HT.out.kept (zF HGW.out hgC) (by simp))
 rw [omegaP_one] at hom
 have HOM := Kh hom; have HGC := Kh hgC
 clear hom hgC h1 h2 h3 hWC
 refine HOM.out.mono ?_
 rintro e w5 ⟨rfl, hg5⟩
 have HG5 := Kh hg5
 clear hg5
 go_wp2
 go_ret
 exact ⟨xK rfl, zF (zF HGW.out HGC.out) HG5.out⟩
theorem TableE.le {most : Nat} {T : List (List Nat)} {im : List Nat} (h : TableE most T im) : T.length ≤ 400 := by
 have key : ∀ (d : DfaV) (S : SynV), Of21E d (some S) → S.tab.length ≤ 400 := fun d S h => by
  obtain ⟨n, k, m, M, _, _, _, _, el, pr, la, ri, mm, _, h1, _, h2, _⟩ := h
  rw [h2, xO]; exact h1
 rcases h with ⟨d, n, k, S, _, _, h1, _, rfl, _⟩ | ⟨d, n, S, _, _, _, h1, rfl, _⟩
 ·exact key d S h1
 ·cases S with
  | none => simp [SynPart]
  | some S => exact key d S h1
theorem box2_cells {w : World} {p e : Nat} {x0 x1 : Value} (h : w.heap[p]? = some (.cells #[x0, x1] e (0, 0))) : w.cell? ⟨p, 0, none⟩ = some x0 ∧ w.cell? ⟨p, 1, none⟩ = some x1 := by
 have c0 := zI h 0 (by simp)
 have c1 := zI h 1 (by simp)
 exact ⟨by simpa using c0, by simpa using c1⟩
end Go.Proofs.YtdjhoadoiknaoaaDoor
namespace Go.Proofs.YtdjhoadoiknaoaaDoor
section
variable {gs : List (List Nat)} {n : Nat} {el : List (List Nat)} {pr la : List Int} {ri : List (List Nat)}
theorem Enm.ent (h : Enm gs n el pr la ri el.length) (hg : ∀ g ∈ gs, IsT n g) {x y : Nat} (hx : x < el.length) (hy : y < el.length) : entN (tabI (tabE pr la ri el.length)) x y < el.length ∧ el.getD (entN (tabI (tabE pr la ri el.length)) x y) [] = compT (el.getD x []) (el.getD y []) := by
 rw [tabI_entN]; exact h.tab hg hx hy
theorem Enm.entI (h : Enm gs n el pr la ri el.length) (hg : ∀ g ∈ gs, IsT n g) {x y z : Nat} (hx : x < el.length) (hy : y < el.length) (hz : z < el.length) (e : el.getD z [] = compT (el.getD x []) (el.getD y [])) : entN (tabI (tabE pr la ri el.length)) x y = z :=
 nodup_getD h.en.nodup (h.ent hg hx hy).1 hz ((h.ent hg hx hy).2.trans e.symm)
theorem wE : (tabI (tabE pr la ri el.length)).length = el.length := by rw [yO, xO]
theorem Enm.shape (h : Enm gs n el pr la ri el.length) (hg : ∀ g ∈ gs, IsT n g) (h4 : el.length ≤ 400) : uB (tabI (tabE pr la ri el.length)) = 0 := by
 have hp := h.en.pos
 unfold uB
 rw [wE, if_neg (by omega), if_neg (by omega), if_pos]
 rw [List.all_eq_true]
 intro r hr
 obtain ⟨x, hx, rfl⟩ := List.getElem_of_mem hr
 have hx' : x < el.length := by rw [wE] at hx; exact hx
 rw [← zT (d := []) hx]
 have hl : ((tabI (tabE pr la ri el.length)).getD x []).length = el.length := by
  rw [tabI_row, List.length_map, zT (by rw [xO]; exact hx')]
  simp [tabE, tQ]
 refine rowOk_iff.2 ⟨hl, fun y hy => ?_⟩
 rw [hl] at hy
 have e := tabI_ent (tabE pr la ri el.length) x y
 have h1 := (h.tab hg hx' hy).1
 unfold Go.Proofs.YtdjhoadoiknaoaaDoor.ent at e
 rw [e]
 omega
theorem Enm.assoc (h : Enm gs n el pr la ri el.length) (hg : ∀ g ∈ gs, IsT n g) : Assoc (tabI (tabE pr la ri el.length)) := by
 intro g hg' x y hx hy
 rw [wE] at hg' hx hy
 obtain ⟨a1, a2⟩ := h.ent hg hx hg'
 obtain ⟨b1, b2⟩ := h.ent hg hg' hy
 obtain ⟨c1, c2⟩ := h.ent hg hx b1
 refine h.entI hg a1 hy c1 ?_
 rw [c2, b2, a2, compT_assoc (h.en.it _ (getDm hx)) (h.en.it _ (getDm hg'))]
theorem Enm.isId (h : Enm gs n el pr la ri el.length) (hg : ∀ g ∈ gs, IsT n g) : isId (tabI (tabE pr la ri el.length)) 0 = true := by
 have hp := h.en.pos
 refine List.all_eq_true.2 fun x hx => ?_
 rw [List.mem_range, wE] at hx
 have hit : IsT n (el.getD x []) := h.en.it _ (getDm hx)
 unfold idAt
 rw [h.entI hg hp hx hx (by rw [h.en.one, compT_id hit]), h.entI hg hx hp hx (by rw [h.en.one, compT_id' hit])]
 simp
theorem Enm.ident (h : Enm gs n el pr la ri el.length) (hg : ∀ g ∈ gs, IsT n g) : wR (tabI (tabE pr la ri el.length)) = 0 := by
 have := identI_some (t := tabI (tabE pr la ri el.length)) (e := 0) (by rw [wE]; exact h.en.pos) (h.isId hg) (fun x hx => by omega)
 exact this
theorem Enm.good (h : Enm gs n el pr la ri el.length) (hg : ∀ g ∈ gs, IsT n g) (h12 : el.length ≤ 12) (h1 : 1 ≤ gs.length) (h6 : gs.length ≤ 6) : Good (tabI (tabE pr la ri el.length)) ((imgE gs el).map fun (x : Nat) => (x : Int)) where
 valid := sJ (h.shape hg (by omega)) (h.assoc hg)
 ident := ⟨0, h.ident hg, by rw [wE]; exact h.en.pos, h.isId hg⟩
 le := by rw [wE]; exact h12
 im0 := by rw [List.length_map, tV]; exact h1
 im6 := by rw [List.length_map, tV]; exact h6
 inb := by
  rw [inB_iff, wE]
  intro y hy
  have hy' : y < gs.length := by rw [List.length_map, tV] at hy; exact hy
  rw [wS (x := 0) (by rw [tV]; exact hy')]
  have : (imgE gs el).getD y 0 < el.length := by
   unfold imgE
   rw [wS (x := []) hy']
   exact List.idxOf_lt_length_of_mem (h.image hg hy')
  omega
end
def code4 : List Nat → Nat
 | [] => 0
 | x :: f => x + 4 * code4 f
theorem code4_lt : ∀ f : List Nat, (∀ x ∈ f, x < 4) → code4 f < 4 ^ f.length
 | [], _ => by simp [code4]
 | x :: f, h => by
  have ih := code4_lt f (fun y hy => h y (by simp [hy]))
  have hx := h x (by simp)
  rw [code4, List.length_cons, Nat.pow_succ]; omega
theorem code4_inj : ∀ f g : List Nat, f.length = g.length → (∀ x ∈ f, x < 4) → (∀ x ∈ g, x < 4) → code4 f = code4 g → f = g
 | [], [], _, _, _, _ => rfl
 | [], _ :: _, h, _, _, _ => by simp at h
 | _ :: _, [], h, _, _, _ => by simp at h
 | x :: f, y :: g, h, hf, hg, e => by
  have hx := hf x (by simp)
  have hy := hg y (by simp)
  rw [code4, code4] at e
  obtain rfl : x = y := by omega
  rw [code4_inj f g (by simpa using h) (fun z hz => hf z (by simp [hz])) (fun z hz => hg z (by simp [hz])) (by omega)]
theorem nodup_map {α β : Type} {f : α → β} : ∀ {l : List α}, l.Nodup → (∀ a ∈ l, ∀ b ∈ l, f a = f b → a = b) → (l.map f).Nodup
 | [], _, _ => by simp
 | a :: l, h, hi => by
  rw [List.nodup_cons] at h
  rw [List.map_cons, List.nodup_cons]
  refine ⟨fun hm => ?_, nodup_map h.2 (fun x hx y hy => hi x (by simp [hx]) y (by simp [hy]))⟩
  obtain ⟨b, hb, e⟩ := List.mem_map.1 hm
  rw [hi b (by simp [hb]) a (by simp) e] at hb
  exact h.1 hb
theorem few_of_four {m : Nat} (hm : m ≤ 4) {l : List (List Nat)} (hn : l.Nodup) (hl : ∀ f ∈ l, IsT m f) : l.length ≤ 256 := by
 have h4 : ∀ f ∈ l, ∀ x ∈ f, x < 4 := fun f hf x hx => by have := (hl f hf).2 x hx; omega
 have h := sK (l := l.map code4) (n := 256) (nodup_map hn fun a ha b hb e => code4_inj a b (by rw [(hl a ha).1, (hl b hb).1]) (h4 a ha) (h4 b hb) e) (fun q hq => by
  obtain ⟨f, hf, rfl⟩ := List.mem_map.1 hq
  have h1 := code4_lt f (h4 f hf)
  rw [(hl f hf).1] at h1
  have : 4 ^ m ≤ 4 ^ 4 := Nat.pow_le_pow_right (by omega) hm
  omega)
 simpa using h
theorem not_huge {d : DfaV} (h : d.final.length ≤ 4) : ¬ Huge d := by
 rintro ⟨m, hm, h1 | ⟨el, hn, h4, hit⟩⟩
 ·omega
 ·have := few_of_four (by omega) hn hit; omega
def powT (n : Nat) (g : List Nat) : Nat → List Nat
 | 0 => List.range n
 | k + 1 => compT (powT n g k) g
theorem pow_four {n : Nat} (hn : n ≤ 4) {g : List Nat} (hg : IsT n g) : powT n g 4 ∈ [powT n g 0, powT n g 1, powT n g 2, powT n g 3] := by
 obtain ⟨hl, hx⟩ := hg
 have k4 : ∀ a b c d : Fin 4, powT 4 [a.1, b.1, c.1, d.1] 4 ∈ [powT 4 [a.1, b.1, c.1, d.1] 0, powT 4 [a.1, b.1, c.1, d.1] 1, powT 4 [a.1, b.1, c.1, d.1] 2, powT 4 [a.1, b.1, c.1, d.1] 3] := by decide +kernel
 have k3 : ∀ a b c : Fin 3, powT 3 [a.1, b.1, c.1] 4 ∈ [powT 3 [a.1, b.1, c.1] 0, powT 3 [a.1, b.1, c.1] 1, powT 3 [a.1, b.1, c.1] 2, powT 3 [a.1, b.1, c.1] 3] := by decide +kernel
 have k2 : ∀ a b : Fin 2, powT 2 [a.1, b.1] 4 ∈ [powT 2 [a.1, b.1] 0, powT 2 [a.1, b.1] 1, powT 2 [a.1, b.1] 2, powT 2 [a.1, b.1] 3] := by decide +kernel
 have k1 : ∀ a : Fin 1, powT 1 [a.1] 4 ∈ [powT 1 [a.1] 0, powT 1 [a.1] 1, powT 1 [a.1] 2, powT 1 [a.1] 3] := by decide +kernel
 match n, g, hl, hx with
 | 0, [], _, _ => decide
 | 1, [a], _, h => exact k1 ⟨a, h a (by simp)⟩
 | 2, [a, b], _, h => exact k2 ⟨a, h a (by simp)⟩ ⟨b, h b (by simp)⟩
 | 3, [a, b, c], _, h => exact k3 ⟨a, h a (by simp)⟩ ⟨b, h b (by simp)⟩ ⟨c, h c (by simp)⟩
 | 4, [a, b, c, d], _, h => exact k4 ⟨a, h a (by simp)⟩ ⟨b, h b (by simp)⟩ ⟨c, h c (by simp)⟩ ⟨d, h d (by simp)⟩
theorem valW_pow {gs : List (List Nat)} {n : Nat} (h1 : gs.length = 1) (w : List Nat) (hw : ∀ a ∈ w, a < gs.length) : valW gs n w = powT n (gs.getD 0 []) w.length := by
 suffices hs : ∀ (m : Nat) (w : List Nat), w.length = m → (∀ a ∈ w, a < gs.length) → valW gs n w = powT n (gs.getD 0 []) m from hs _ w rfl hw
 intro m
 induction m with
 | zero =>
  intro w hl _
  have : w = [] := List.eq_nil_of_length_eq_zero hl
  subst this
  rfl
 | succ m ih =>
  intro w hl hw
  obtain ⟨v, a, rfl⟩ : ∃ v a, w = v ++ [a] := ⟨w.dropLast, w.getLast (by intro e; rw [e] at hl; simp at hl), (List.dropLast_concat_getLast _).symm⟩
  have ha : a = 0 := by have := hw a (by simp); omega
  subst ha
  rw [valW_snoc, ih v (by simpa using hl) (fun b hb => hw b (by simp [hb]))]
  rfl
theorem pow_in {n : Nat} (hn : n ≤ 4) {g : List Nat} (hg : IsT n g) : ∀ k, powT n g k ∈ [powT n g 0, powT n g 1, powT n g 2, powT n g 3]
 | 0 => by simp
 | k + 1 => by
  have ih := pow_in hn hg k
  have h4 := pow_four hn hg
  simp only [List.mem_cons, List.not_mem_nil, or_false] at ih
  show compT (powT n g k) g ∈ _
  rcases ih with e | e | e | e
  ·rw [e]; exact List.mem_cons_of_mem _ (by simp [powT])
  ·rw [e]; exact List.mem_cons_of_mem _ (List.mem_cons_of_mem _ (by simp [powT]))
  ·rw [e]; exact List.mem_cons_of_mem _ (List.mem_cons_of_mem _ (List.mem_cons_of_mem _ (by simp [powT])))
  ·rw [e]; exact h4
theorem EnI.four {gs : List (List Nat)} {n : Nat} {el : List (List Nat)} {pr la : List Int} (h : EnI gs n el pr la) (hg : ∀ g ∈ gs, IsT n g) (h1 : gs.length = 1) (hn : n ≤ 4) : el.length ≤ 4 := by
 have hg0 : IsT n (gs.getD 0 []) := hg _ (getDm (by omega))
 have hin : ∀ f ∈ el, f ∈ [powT n (gs.getD 0 []) 0, powT n (gs.getD 0 []) 1, powT n (gs.getD 0 []) 2, powT n (gs.getD 0 []) 3] := by
  intro f hf
  obtain ⟨i, hi, rfl⟩ := List.getElem_of_mem hf
  have e := h.word i hi
  rw [zT hi] at e
  rw [e, valW_pow h1 _ (wordI_ok h.words i hi).1]
  exact pow_in hn hg0 _
 obtain ⟨L, hL⟩ : ∃ L, L = [powT n (gs.getD 0 []) 0, powT n (gs.getD 0 []) 1, powT n (gs.getD 0 []) 2, powT n (gs.getD 0 []) 3] := ⟨_, rfl⟩
 have hL4 : L.length = 4 := by rw [hL]; rfl
 rw [← hL] at hin
 have h := sK (l := el.map fun f => L.idxOf f) (n := 4) (nodup_map h.nodup fun a ha b hb e => by
  have h1 := getD_idxOf (d := []) (hin a ha)
  have h2 := getD_idxOf (d := []) (hin b hb)
  rw [← h1, ← h2, e]) (fun q hq => by
  obtain ⟨f, hf, rfl⟩ := List.mem_map.1 hq
  rw [← hL4]; exact List.idxOf_lt_length_of_mem (hin f hf))
 simpa using h
theorem TableE.good {most : Nat} {T : List (List Nat)} {im : List Nat} (h : TableE most T im) (h4 : 4 ≤ most) (h12 : most ≤ 12) : Good (tabI T) (im.map fun (x : Nat) => (x : Int)) ∧ T.length ≤ most ∧ (tabI T).length = T.length ∧ wR (tabI T) = 0 := by
 rcases h with ⟨d, n, k, S, hvd, hk, hof, hl, rfl, rfl⟩ | ⟨d, n, S, hvd, hn, _, hof, rfl, rfl⟩
 ·obtain ⟨n', k', m, M, hvd', hM, hVM, hm, el, pr, la, ri, mm, hen, _, _, hT, _, hI, _⟩ := hof
  have hgl := uF M m k'
  have hgT := gensD_isT hVM
  rw [hT, hI]
  rw [hT, xO] at hl
  exact ⟨hen.good hgT (by omega) (by rw [hgl]; exact hVM.k1) (by rw [hgl]; exact hVM.k6), by rw [xO]; exact hl, yO _, hen.ident hgT⟩
 ·cases S with
  | none => exact absurd hof (not_huge (by rw [hvd.hn]; exact hn))
  | some S =>
   obtain ⟨n', k', m, M, hvd', hM, hVM, hm, el, pr, la, ri, mm, hen, _, _, hT, _, hI, _⟩ := hof
   have hgl := uF M m k'
   have hgT := gensD_isT hVM
   have hk1 : k' = 1 := by have := hvd.hk; have := hvd'.hk; omega
   have hnn : n' = n := by rw [← hvd'.hn, hvd.hn]
   have hmn : m ≤ 4 := by
    have e1 : M.final.length = m := hVM.hn
    have e2 := (min_vd hvd').hn
    rw [← hM, e1] at e2
    have := minN_le hvd'
    omega
   have hl := hen.en.four hgT (by rw [hgl]; exact hk1) hmn
   show Good (tabI S.tab) (S.images.map _) ∧ S.tab.length ≤ most ∧ (tabI S.tab).length = S.tab.length ∧ wR (tabI S.tab) = 0
   rw [hT, hI]
   exact ⟨hen.good hgT (by omega) (by rw [hgl]; exact hVM.k1) (by rw [hgl]; exact hVM.k6), by rw [xO]; omega, yO _, hen.ident hgT⟩
end Go.Proofs.YtdjhoadoiknaoaaDoor
namespace Go.Proofs.YtdjhoadoiknaoaaDoor
open Go.RowKit
theorem roundsGo_keep {n : Nat} {tb : Nat → Nat → Nat} (ht : Tb n tb) : ∀ (k : Nat) (l : List Nat) (d : Bool), FamOk n (l, d) → Pos l → FamOk n (yN n tb k (l, d)) ∧ Pos (yN n tb k (l, d)).1
 | 0, l, d, hf, hp => ⟨hf, hp⟩
 | k + 1, l, true, hf, hp => by rw [wH]; exact ⟨hf, hp⟩
 | k + 1, l, false, hf, hp => by
  rw [vJ]
  exact roundsGo_keep ht k _ _ (famOk_round ht hf) (hp.round ht hf.1)
def Res (n : Nat) (tb : Nat → Nat → Nat) (l0 : List Nat) (k : Nat) (l : List Nat) (d : Bool) : Prop := FamOk n (l, d) ∧ Pos l ∧ ∃ K, k ≤ K ∧ yN n tb K (l0, false) = (l, d)
theorem Res.step {n : Nat} {tb : Nat → Nat → Nat} {l0 l : List Nat} {k b : Nat} {d : Bool} (ht : Tb n tb) (h : Res n tb l0 k l d) (hb : 1 ≤ b) : Res n tb l0 (k + 1) (yN n tb b (l, d)).1 (yN n tb b (l, d)).2 := by
 obtain ⟨hf, hp, K, hK, e⟩ := h
 obtain ⟨h1, h2⟩ := roundsGo_keep ht b l d hf hp
 exact ⟨h1, h2, K + b, by omega, by rw [uY, e]⟩
theorem Res.lt {n : Nat} {tb : Nat → Nat → Nat} {l0 l : List Nat} {k : Nat} (ht : Tb n tb) (h0 : FamOk n (l0, false)) (h : Res n tb l0 k l false) : k ≤ 2 ^ n := by
 obtain ⟨_, _, K, hK, e⟩ := h
 rcases Nat.lt_or_ge (2 ^ n) k with hk | hk
 ·exfalso
  have h1 := roundsGo_end ht (2 ^ n + 1) l0 h0 (by have := gap_le n l0; omega)
  have h2 := roundsGo_true h1 (K - (2 ^ n + 1))
  rw [show 2 ^ n + 1 + (K - (2 ^ n + 1)) = K by omega, e] at h2
  rw [← h2] at h1
  simp at h1
 ·exact hk
theorem Res.stop {n : Nat} {tb : Nat → Nat → Nat} {l0 l : List Nat} {k : Nat} (ht : Tb n tb) (h0 : FamOk n (l0, false)) (h : Res n tb l0 k l true) : l = sB n tb l0 := by
 obtain ⟨_, _, K, hK, e⟩ := h
 have := roundsGo_stop ht h0 (k := K) (by rw [e])
 rw [e] at this
 exact this
set_option maxRecDepth 100000 in
set_option maxHeartbeats 2000000 in
theorem resumes_walk (w : World) (sl sp : Value) (zs ps : List Int) (h : Row w.heap.size w sl (zs.map (Value.int .i64))) (h' : Row w.heap.size w sp (ps.map (Value.int .i64))) (hT : TabOk w) :
  Calls Tryd.prog 6 #[sl, sp] w fun e w' => e = .returned (.bool true) ∧ w.grownBy w' none := by
 obtain ⟨sA, sC, rfl⟩ := h.shape
 obtain ⟨sl, hsl⟩ : ∃ sl, sl = (zs.map (Value.int .i64)).length := ⟨_, rfl⟩
 rw [← hsl] at h ⊢
 have hpl := h'.len_le
 obtain ⟨pA, pC, rfl⟩ := h'.shape
 rw [List.length_map] at h' hpl ⊢
 unfold maxLen at hpl
 have HNW := Kh (new_any w.heap.size w (.slice sA sl sC) zs h (Nat.le_refl _))
 have HT := Kh hT; have HP := Kh h'
 clear h hT hsl h'
 go_enter Tryd.func6, Tryd.ntmps6
 go_wp2_with fail
 refine HNW.out.mono ?_
 rintro e w1 ⟨rfl, hT1, hg1⟩
 have HTA := Kh (table40_any w.heap.size w.heap.size 8 w1 (by omega) hT1)
 have HG1 := Kh hg1
 clear hT1 hg1
 go_wp2_with fail
 refine HTA.out.mono ?_
 rintro e w2 ⟨T, im0, vT, vI, rfl, hTm, hIm, hTE, hTp, hg2⟩
 have hg02 := zG HG1.out hg2 (fun j e => by have e : w.heap.size = j := Option.some.inj e; omega)
 have HG2 := Kh hg02
 have HT2 := Kh (HT.out.kept hg02 (by simp))
 have hgood := hTE.good (by omega) (by omega)
 have hmat := (TMatT.tmat hTm).mat
 have him := hIm.row
 rw [nats_ints] at him
 obtain ⟨tA, tC, rfl⟩ := (TMatT.tmat hTm).shape
 obtain ⟨iA, iC, rfl⟩ := hIm.shape
 obtain ⟨t, ht⟩ : ∃ t, t = tabI T := ⟨_, rfl⟩
 obtain ⟨im, him2⟩ : ∃ im, im = im0.map fun (x : Nat) => (x : Int) := ⟨_, rfl⟩
 obtain ⟨tl, htl⟩ : ∃ tl, tl = T.length := ⟨_, rfl⟩
 obtain ⟨il, hil⟩ : ∃ il, il = (nats im0).length := ⟨_, rfl⟩
 rw [← ht, ← him2, ← htl] at hgood
 obtain ⟨hgd, hl8, hlt, _⟩ := hgood
 rw [← ht, ← htl] at hmat
 rw [← him2, ← hil] at him
 rw [← htl, ← hil]
 have HM2 := Kh hmat; have HI2 := Kh him; have HGA2 := Kh (zU w2 none)
 have HZ : Hid (xD t im = 0) := Kh (checkE_good.2 hgd)
 have HGD := Kh hgd; have HTB := Kh (tb_of hgd.valid)
 have HL8 : Hid (t.length ≤ 8) := Kh (by rw [hlt]; exact hl8)
 clear hTm hIm hTE hTp hg2 hg02 hmat ht htl him him2 hil hgd hl8 hlt
 go_wp2_with fail
 refine (begin_any w2.heap.size w2 _ _ t im (Nat.le_refl _) HM2.out HI2.out HT2.out).mono ?_
 rintro e w3 ⟨hg3, ⟨hne, _⟩ | ⟨_, sa, sc, rfl, hown⟩⟩
 ·exact absurd HZ.out hne
 have hpos := start_pos HGD.out
 obtain ⟨k0, rfl, hsc1, hsc2, harr⟩ := yK hown hpos
 have hkl := hown.lt k0 rfl
 obtain ⟨l0, hl0⟩ : ∃ l0, l0 = tI t im := ⟨_, rfl⟩
 have HPS : Hid (Pos l0) := Kh (by rw [hl0]; exact start_pos' HGD.out)
 have HF0 : Hid (FamOk t.length (l0, false)) := Kh (by rw [hl0]; exact start_ok HGD.out)
 rw [← hl0] at hpos hown hsc1 harr ⊢
 have HRA := Kh harr.row
 have HL0 := Kh hl0
 have HRS : Hid (Res t.length (entN t) l0 0 l0 false) := Kh ⟨HF0.out, HPS.out, 0, Nat.le_refl _, rfl⟩
 obtain ⟨w4, hw4⟩ : ∃ W, W = w3.alloc (.cells #[.slice (some ⟨k0, 0, none⟩) l0.length sc, .bool false] 49) := ⟨_, rfl⟩
 have hg4 : w3.grownBy w4 none := by rw [hw4]; exact World.grownBy_alloc w3 _ none
 have hb4 := heap_alloc_new w3 (.cells #[.slice (some ⟨k0, 0, none⟩) l0.length sc, .bool false] 49)
 rw [← hw4] at hb4
 obtain ⟨o, ho⟩ : ∃ o, o = w3.heap.size := ⟨_, rfl⟩
 rw [← ho] at hb4
 have hk0 : k0 ≠ o := by omega
 have HW4 := Kh hw4; have HOE := Kh ho; have HB4 := Kh hb4
 have HG4 := Kh (zG (zG HG2.out hg3 (by simp)) hg4 (by simp)); have HGA4 := Kh (zG (zG HGA2.out hg3 (by simp)) hg4 (by simp))
 have HRW := Kh (HRA.out.kept hg4 (by simp))
 have HO : Hid (w2.heap.size ≤ o) := Kh (by rw [ho]; exact hg3.size)
 have HOW : Hid (w.heap.size ≤ o) := Kh (by rw [ho]; exact Nat.le_trans HG2.out.size hg3.size)
 clear hg3 hown harr hl0 hw4 hg4 hb4 ho hkl hpos
 go_upto_region 3 with fail
 rw [← HW4.out, ← HOE.out]
 go_wp2
 go_loopg [8, 9, 10] 2000 (fun gh v8 v9 v10 wr => v8 = .int .i64 0 ∧ ∃ (j k off sc : Nat) (l : List Nat) (d : Bool), gh + j = 2000 ∧ v9 = .int .i64 (j : Int) ∧ Res t.length (entN t) l0 j l d ∧ RowAt wr k off (nats l) ∧ l.length ≤ sc ∧ sc ≤ maxLen ∧ k ≠ o ∧ w.grownBy wr none ∧ w2.grownBy wr none ∧ wr.heap[o]? = some (.cells #[.slice (some ⟨k, off, none⟩) l.length sc, .bool d] 49 (0, 0)))
 case atStart => exact ⟨rfl, 0, k0, 0, sc, l0, false, rfl, rfl, HRS.out, HRW.out, hsc1, hsc2, hk0, HG4.out, HGA4.out, HB4.out⟩
 case round =>
  clear HRS HRW hsc1 hsc2 hk0 HG4 HGA4 HB4
  obtain ⟨rfl, j, k, off, sc, l, d, hg, rfl, hres, hrw, hs1, hs2, hkb, hgr, hga, hrb⟩ := hrel
  have HG := Kh hg; have HRES := Kh hres; have HRW := Kh hrw; have HGR := Kh hgr; have HGA := Kh hga; have HRB := Kh hrb
  obtain ⟨cr0, cr1⟩ := box2_cells hrb
  have fr0 := zD hrb 0
  have fr1 := zD hrb 1
  have hjj : j ≤ 2000 := by omega
  have HROW : Hid (Row wr.heap.size wr (.slice (some ⟨k, off, none⟩) l.length sc) (nats l)) := Kh (.inr ⟨k, off, sc, by rw [zL], hrw.1, by rw [zL]; exact hs1, hs2, hrw⟩)
  clear hg hres hrw hgr hga hrb
  have HME := Kh ((HM2.out.kept HGA.out (by simp)).mono HGA.out.size); have HIE := Kh ((HI2.out.kept HGA.out (by simp)).mono HGA.out.size); have HTE := Kh (HT2.out.kept HGA.out (by simp))
  cases d with
  | true =>
   have HST := Kh (HRES.out.stop HTB.out HF0.out)
   go_wp2_with fail
   refine (closure_any wr.heap.size wr _ _ t im (Nat.le_refl _) HME.out HIE.out HTE.out).mono ?_
   rintro e w5 ⟨hg5, ⟨hne, _⟩ | ⟨_, v5, rfl, hrow5⟩⟩
   ·exact absurd HZ.out hne
   unfold closeL at hrow5
   rw [← HL0.out, ← HST.out] at hrow5
   obtain ⟨a5, c5, rfl⟩ := hrow5.shape
   rw [zL] at hrow5 ⊢
   obtain ⟨cs0, cs1⟩ := box2_cells (zE HRB.out hg5 (by simp))
   have hr5 := (HROW.out.kept hg5 (by simp)).mono hg5.size
   rw [natsI] at hr5 hrow5
   have HSM := Kh (rB _ _ w5 _ _ _ _ hr5 hrow5)
   have HT5 := Kh (HTE.out.kept hg5 (by simp)); have HG5 := Kh (zG HGR.out hg5 (by simp))
   clear cr0 cr1 fr0 fr1 hg5 hrow5 hr5
   go_wp2_with fail
   refine HSM.out.mono ?_
   rintro e w6 ⟨rfl, m6, rfl⟩
   have HG6 := Kh (zG HG5.out (zO w5 m6 none) (by simp))
   have HT6 := Kh (HT5.out.kept (zO w5 m6 none) (by simp))
   simp only [decide_true]
   go_wp2_with fail
   refine (known40_any _ HT6.out).mono ?_
   rintro e w20 ⟨rfl, hg20⟩
   have HG20 := Kh (zG HG6.out hg20 (by simp))
   clear hg20
   go_wp2
   go_ret
   exact ⟨rfl, HG20.out⟩
  | false =>
   have hj8 : j ≤ 256 := by
    have h1 := HRES.out.lt HTB.out HF0.out
    have h2 : 2 ^ t.length ≤ 2 ^ 8 := Nat.pow_le_pow_right (by omega) HL8.out
    omega
   have hadv := fun bud => advance_any wr.heap.size wr _ _ (.slice (some ⟨k, off, none⟩) l.length sc) t im (intL l) false bud (Nat.le_refl _) HME.out HIE.out (by have := HROW.out; rw [natsI] at this; exact this) HTE.out
   have hE : ∀ bud : Int, 1 ≤ bud → bud ≤ 5 → advE t im (intL l) bud = 0 := fun bud h1 h5 => advE_ok HZ.out (by omega) (famB_int HRES.out.1 HRES.out.2.1)
   have HADV := Kh hadv; have HE := Kh hE
   clear hadv hE
   rcases Nat.lt_or_ge j ps.length with hjp | hjp
   ·have hjp' : (j : Int) < ps.length := by omega
    obtain ⟨pb, po, pcap, pe, hpB, hp1, hp2, hpr⟩ := HP.out.some_ (by rw [List.length_map]; omega)
    rw [List.length_map] at pe hp1
    simp only [Value.slice.injEq] at pe
    obtain ⟨rfl, _, rfl⟩ := pe
    have hpm : pC ≤ 9223372036854775807 := by unfold maxLen at hp2; omega
    have hpc := (hpr.kept HGR.out (by simp)).map j hjp
    obtain ⟨pj, hpj⟩ : ∃ pj, pj = ps[j] := ⟨_, rfl⟩
    rw [← hpj] at hpc
    clear hpr hpj hp2
    go_wp2_with fail
    refine (mod_any _ _ _ (by omega)).mono ?_
    rintro e wq ⟨rfl, rfl⟩
    have hr0 := modI_nonneg pj 5
    have hr5 := modI_lt pj 5 (by omega)
    obtain ⟨r, hr⟩ : ∃ r, r = modI pj 5 := ⟨_, rfl⟩
    rw [← hr] at hr0 hr5 ⊢
    have hwr : wrap64 (1 + r) = 1 + r := IntWalk.wrap64_in _ (by omega)
    clear hpc hr
    go_wp2_with fail
    refine (HADV.out _).mono ?_
    rintro e w3 ⟨hg3, hc3⟩
    rcases hc3 with ⟨hne, _⟩ | ⟨_, v3, rfl, hrow3⟩
    ·exact absurd (HE.out _ (by omega) (by omega)) hne
    unfold advL at hrow3 ⊢
    rw [natL_intL] at hrow3 ⊢
    have HN := Kh (HRES.out.step (b := Int.toNat (1 + r)) HTB.out (by omega))
    obtain ⟨F, hF⟩ : ∃ F, F = yN t.length (entN t) (Int.toNat (1 + r)) (l, false) := ⟨_, rfl⟩
    rw [← hF] at HN hrow3 ⊢
    clear hF
    obtain ⟨R, D⟩ := F
    dsimp only at HN hrow3 ⊢
    obtain ⟨a3, c3, rfl⟩ := hrow3.shape
    rw [zL] at hrow3 ⊢
    have hr3 := zE HRB.out hg3 (by simp)
    obtain ⟨k3, o3, rfl, _, h31, h32, h33, h34⟩ := row_not_box hrow3 HN.out.2.1.1 hr3 (by intro z; simp) (by intro z; simp)
    have HR3 := Kh hr3; have HRW3 := Kh h33
    obtain ⟨cs0, cs1⟩ := box2_cells hr3
    have fs0 := zD hr3 0
    have fs1 := zD hr3 1
    have HG3 := Kh (zG HGR.out hg3 (by simp)); have HGA3 := Kh (zG HGA.out hg3 (by simp))
    clear hrow3 hr3 h33 hg3 cr0 cr1 fr0 fr1
    go_wp2
    have hs5 : w3.grownBy ((w3.setCell ⟨o, 0, none⟩ (.slice (some ⟨k3, o3, none⟩) R.length c3)).setCell ⟨o, 1, none⟩ (.bool D)) (some o) :=
     zF (zH w3 ⟨o, 0, none⟩ _) (zH (w3.setCell ⟨o, 0, none⟩ (.slice (some ⟨k3, o3, none⟩) R.length c3)) ⟨o, 1, none⟩ _)
    have HR5 := Kh (fam_set HR3.out (.slice (some ⟨k3, o3, none⟩) R.length c3) (.bool D))
    have HG5 := Kh hs5
    clear hs5
    go_roundg (2000 - (j + 1))
    case measure => have := HG.out; omega
    case rel => exact ⟨rfl, j + 1, k3, o3, c3, R, D, by omega, by go_num, HN.out, HRW3.out.kept HG5.out (fun e => h34 (Option.some.inj e).symm), h31, h32, h34, zG HG3.out HG5.out (fun x e => by have e : o = x := Option.some.inj e; have := HOW.out; omega), zG HGA3.out HG5.out (fun x e => by have e : o = x := Option.some.inj e; have := HO.out; omega), HR5.out⟩
   ·have hjp' : ¬ (j : Int) < ps.length := by omega
    go_wp2_with fail
    refine (HADV.out _).mono ?_
    rintro e w3 ⟨hg3, hc3⟩
    rcases hc3 with ⟨hne, _⟩ | ⟨_, v3, rfl, hrow3⟩
    ·exact absurd (HE.out _ (by omega) (by omega)) hne
    unfold advL at hrow3 ⊢
    rw [natL_intL] at hrow3 ⊢
    have HN := Kh (HRES.out.step (b := Int.toNat (1 : Int)) HTB.out (by omega))
    obtain ⟨F, hF⟩ : ∃ F, F = yN t.length (entN t) (Int.toNat (1 : Int)) (l, false) := ⟨_, rfl⟩
    rw [← hF] at HN hrow3 ⊢
    clear hF
    obtain ⟨R, D⟩ := F
    dsimp only at HN hrow3 ⊢
    obtain ⟨a3, c3, rfl⟩ := hrow3.shape
    rw [zL] at hrow3 ⊢
    have hr3 := zE HRB.out hg3 (by simp)
    obtain ⟨k3, o3, rfl, _, h31, h32, h33, h34⟩ := row_not_box hrow3 HN.out.2.1.1 hr3 (by intro z; simp) (by intro z; simp)
    have HR3 := Kh hr3; have HRW3 := Kh h33
    obtain ⟨cs0, cs1⟩ := box2_cells hr3
    have fs0 := zD hr3 0
    have fs1 := zD hr3 1
    have HG3 := Kh (zG HGR.out hg3 (by simp)); have HGA3 := Kh (zG HGA.out hg3 (by simp))
    clear hrow3 hr3 h33 hg3 cr0 cr1 fr0 fr1
    go_wp2
    have hs5 : w3.grownBy ((w3.setCell ⟨o, 0, none⟩ (.slice (some ⟨k3, o3, none⟩) R.length c3)).setCell ⟨o, 1, none⟩ (.bool D)) (some o) :=
     zF (zH w3 ⟨o, 0, none⟩ _) (zH (w3.setCell ⟨o, 0, none⟩ (.slice (some ⟨k3, o3, none⟩) R.length c3)) ⟨o, 1, none⟩ _)
    have HR5 := Kh (fam_set HR3.out (.slice (some ⟨k3, o3, none⟩) R.length c3) (.bool D))
    have HG5 := Kh hs5
    clear hs5
    go_roundg (2000 - (j + 1))
    case measure => have := HG.out; omega
    case rel => exact ⟨rfl, j + 1, k3, o3, c3, R, D, by omega, by go_num, HN.out, HRW3.out.kept HG5.out (fun e => h34 (Option.some.inj e).symm), h31, h32, h34, zG HG3.out HG5.out (fun x e => by have e : o = x := Option.some.inj e; have := HOW.out; omega), zG HGA3.out HG5.out (fun x e => by have e : o = x := Option.some.inj e; have := HO.out; omega), HR5.out⟩
def laidTabs : List (String × DataW Unit) := [("math/bits.deBruijn32tab", Rows.laid_math_bits_deBruijn32tab), ("math/bits.deBruijn64tab", Rows.laid_math_bits_deBruijn64tab)]
theorem tabOk_of_laid {W : World} (h : laidMetH Tryd.prog laidTabs W) : TabOk W := by
 rw [MakeChecks.laidMetH_plain _ _ _ (by kernel_rfl)] at h
 obtain ⟨ps, ⟨g0, t0, cs0, f0, p0, q0, hg0, ht0, hv0, hd0, ⟨g1, t1, cs1, f1, p1, q1, hg1, ht1, hv1, hd1, _, _⟩, _⟩, _, _⟩ := h
 have e1 : Tryd.prog.globalNamed "math/bits.deBruijn64tab" = some 1 := by kernel_rfl
 obtain rfl := Option.some.inj (e1.symm.trans hg1)
 have e2 : (Tryd.prog.globals[1]?).map (·.type) = some 143 := by kernel_rfl
 obtain rfl := Option.some.inj (e2.symm.trans ht1)
 have hc := Lib.cells_of_tab (k := .u8) (zs := Lib.deBruijn64tab.map fun (x : Nat) => (x : Int)) (n := 64) (e := 5) (by kernel_rfl) (by kernel_rfl) (by kernel_rfl) (by kernel_rfl) hd1
 have hti : Lib.TabIs Tryd.prog W "math/bits.deBruijn64tab" .u8 (Lib.deBruijn64tab.map fun (x : Nat) => (x : Int)) := by
  unfold Lib.TabIs
  rw [hv1, ← hc]
 have hcell : ∀ i, i < Lib.deBruijn64tab.length → W.cell? ⟨1, i, none⟩ = some (.int .u8 (Lib.deBruijn64tab.getD i 0)) := fun i hi => by
  have := hti.cell e1 i (by rw [List.length_map]; exact hi)
  rw [this]
  simp [List.getD, List.getElem?_eq_getElem hi]
 exact ⟨World.block_lt_of_cell? W _ (hcell 0 (by decide)), hcell⟩
end Go.Proofs.YtdjhoadoiknaoaaDoor
