/- Part 18 of the proof: MinUniq. -/
import Derived.Test.YtgbfaggnnfoamaaZg17
set_option linter.unusedVariables false
set_option linter.unusedSimpArgs false
namespace Go.Proofs.Ytgbfaggnnfoamaa
def acc (d : DfaV) (q : Nat) (w : List Nat) : Bool := d.final.getD (run d q w) false
theorem finB_inj {a b : Bool} (h : finB a = finB b) : a = b := by cases a <;> cases b <;> simp [finB] at h <;> rfl
section
variable {d : DfaV} {n k : Nat}
theorem qF (hd : VD d n k) {q q' : Nat} (hq : q < n) (hq' : q' < n) : (rP d).getD q 0 = (rP d).getD q' 0 ↔ d.final.getD q false = d.final.getD q' false := by
 have hn := hd.hn
 rw [rP, uE (by rw [List.length_map]; omega) (by rw [List.length_map]; omega), List.getElem_map, List.getElem_map, ← zG (d := false), ← zG (d := false)]
 exact ⟨finB_inj, fun h => by rw [h]⟩
theorem qU (hd : VD d n k) : ∀ m {q q' : Nat}, q < n → q' < n → (zS d k m).getD q 0 = (zS d k m).getD q' 0 → d.final.getD q false = d.final.getD q' false
 | 0, q, q', hq, hq', h => (qF hd hq hq').1 h
 | m + 1, q, q', hq, hq', h => qU hd m hq hq' ((vD hd (by rw [zX, hd.hn]) (by rw [← hd.hn]; exact mQ d k m) hq hq' k (Nat.le_refl _)).1 h).1
theorem qT (hd : VD d n k) : ∀ m {q q' : Nat}, q < n → q' < n → (zS d k m).getD q 0 ≠ (zS d k m).getD q' 0 → ∃ w, xC k w ∧ acc d q w ≠ acc d q' w
 | 0, q, q', hq, hq', h => ⟨[], fun a ha => by simp at ha, fun e => h ((qF hd hq hq').2 e)⟩
 | m + 1, q, q', hq, hq', h => by
  by_cases h1 : (zS d k m).getD q 0 = (zS d k m).getD q' 0
  ·have hx : ¬ ∀ a, a < k → (zS d k m).getD (nx d q a) 0 = (zS d k m).getD (nx d q' a) 0 := fun ha => h ((vD hd (by rw [zX, hd.hn]) (by rw [← hd.hn]; exact mQ d k m) hq hq' k (Nat.le_refl _)).2 ⟨h1, ha⟩)
   obtain ⟨a, ha⟩ := Classical.not_forall.1 hx
   obtain ⟨ha, hne⟩ := Classical.not_imp.1 ha
   obtain ⟨w, hw, e⟩ := qT hd m (qN hd hq ha) (qN hd hq' ha) hne
   exact ⟨a :: w, fun b hb => by
    rcases List.mem_cons.1 hb with rfl | hb
    ·exact ha
    ·exact hw b hb, e⟩
  ·exact qT hd m hq hq' h1
theorem pX (d : DfaV) (p : List Nat) : st0 (xU d p) = p.getD (st0 d) 0 := by simp [st0, xU]
theorem sK (hd : VD d n k) {q : Nat} (hq : q < n) {w : List Nat} (hw : xC k w) : acc (xU d (zU d k)) ((zU d k).getD q 0) w = acc d q w := by
 have hl : (zU d k).length = n := by rw [yZ, hd.hn]
 have hN := wW d k
 have hr := oR hd w hq hw
 unfold acc
 rw [mE hd hl hN (classesD_fix hd) w hq hw]
 have hc := vF hN (show run d q w < (zU d k).length by omega)
 have hg := uB hN hc
 show ((reps (zU d k)).map fun q => d.final.getD q false).getD _ false = _
 rw [wL (x := 0) (by rw [vC hN]; exact hc)]
 exact qU hd _ (by omega) hr hg.1
theorem mF (hd : VD d n k) {c c' : Nat} (hc : c < cls (zU d k)) (hc' : c' < cls (zU d k)) (h : ∀ w, xC k w → acc (xU d (zU d k)) c w = acc (xU d (zU d k)) c' w) : c = c' := by
 have hl : (zU d k).length = n := by rw [yZ, hd.hn]
 have hN := wW d k
 obtain ⟨h1, h2⟩ := uB hN hc
 obtain ⟨h3, h4⟩ := uB hN hc'
 rw [hl] at h2 h4
 rcases Decidable.em (c = c') with e | e
 ·exact e
 exfalso
 obtain ⟨w, hw, hne⟩ := qT hd d.final.length h2 h4 (by rw [show zS d k d.final.length = zU d k from rfl, h1, h3]; exact e)
 have a1 := sK hd h2 hw
 have a2 := sK hd h4 hw
 rw [h1] at a1
 rw [h3] at a2
 exact hne (a1.symm.trans ((h w hw).trans a2))
theorem nT (hd : VD d n k) {w : List Nat} (hw : xC k w) : acc (yK d k) 0 w = acc d (st0 d) w := by
 have hA := (yF hd).1
 have hr := oR (tX hd) w (tX hd).n1 hw
 unfold acc
 rw [sS hd hr, nS hd w hA.hd.1 hw, hA.hd.2]
theorem min_acc (hd : VD d n k) {w : List Nat} (hw : xC k w) : acc (minD d k) 0 w = acc d (st0 d) w := by
 rw [show acc (minD d k) 0 w = acc (xU d (zU d k)) (st0 (xU d (zU d k))) w from nT (sL hd) hw, pX]
 exact sK hd (sJ hd) hw
end
inductive Side (R : Nat → Nat → Prop) : List Nat → List Nat → Prop
 | nil : Side R [] []
 | snoc {l l' : List Nat} {q q' : Nat} : Side R l l' → R q q' → Side R (l ++ [q]) (l' ++ [q'])
theorem Side.len {R : Nat → Nat → Prop} {l l' : List Nat} (h : Side R l l') : l.length = l'.length := by
 induction h with
 | nil => rfl
 | snoc _ _ ih => simp [ih]
theorem Side.get {R : Nat → Nat → Prop} {l l' : List Nat} (h : Side R l l') : ∀ i, i < l.length → R (l.getD i 0) (l'.getD i 0) := by
 induction h with
 | nil => intro i hi; simp at hi
 | @snoc l l' q q' hs hr ih =>
  intro i hi
  have hl := hs.len
  simp at hi
  by_cases e : i < l.length
  ·rw [uJ (List.prefix_append _ _) e, uJ (List.prefix_append _ _) (by omega)]; exact ih i e
  ·have e1 : i = l.length := by omega
   subst e1
   have a1 : (l ++ [q]).getD l.length 0 = q := by simp [List.getD]
   have a2 : (l' ++ [q']).getD l.length 0 = q' := by rw [hl]; simp [List.getD]
   rw [a1, a2]; exact hr
structure One (R : Nat → Nat → Prop) : Prop where
 l : ∀ {q q' r'}, R q q' → R q r' → q' = r'
 r : ∀ {q r q'}, R q q' → R r q' → q = r
theorem Side.mem {R : Nat → Nat → Prop} (hR : One R) {l l' : List Nat} (h : Side R l l') {q q' : Nat} (hq : R q q') : q ∈ l ↔ q' ∈ l' := by
 have hl := h.len
 constructor
 ·intro hm
  obtain ⟨i, hi, rfl⟩ := List.getElem_of_mem hm
  have := h.get i hi
  rw [zG hi] at this
  rw [hR.l hq this, zG (by omega)]
  exact List.getElem_mem _
 ·intro hm
  obtain ⟨i, hi, rfl⟩ := List.getElem_of_mem hm
  have := h.get i (by omega)
  rw [zG hi, zG (show i < l.length by omega)] at this
  rw [hR.r hq this]
  exact List.getElem_mem _
theorem Side.add {R : Nat → Nat → Prop} (hR : One R) {l l' : List Nat} (h : Side R l l') {q q' : Nat} (hq : R q q') : Side R (yE l q) (yE l' q') := by
 unfold yE
 by_cases e : q ∈ l
 ·rw [if_pos e, if_pos ((h.mem hR hq).1 e)]; exact h
 ·rw [if_neg e, if_neg (fun e' => e ((h.mem hR hq).2 e'))]; exact .snoc h hq
theorem Side.idx {R : Nat → Nat → Prop} (hR : One R) {l l' : List Nat} (h : Side R l l') (hn : l.Nodup) (hn' : l'.Nodup) {q q' : Nat} (hq : R q q') (hm : q ∈ l) : l.idxOf q = l'.idxOf q' := by
 have hi := List.idxOf_lt_length_of_mem hm
 have hl := h.len
 have := h.get _ hi
 rw [zG hi, List.getElem_idxOf, zG (show l.idxOf q < l'.length by omega)] at this
 have e := hR.l hq this
 have hm' := (h.mem hR hq).1 hm
 have hi' := List.idxOf_lt_length_of_mem hm'
 have e2 : l'[l'.idxOf q'] = l'[l.idxOf q]'(by omega) := by rw [List.getElem_idxOf]; exact e
 exact ((List.getElem_inj hn').1 e2).symm
section
variable {x x' : DfaV} {n n' k : Nat} {R : Nat → Nat → Prop}
theorem mA (hR : One R) (hs : ∀ {q q' a}, R q q' → a < k → R (nx x q a) (nx x' q' a)) {l l' : List Nat} (h : Side R l l') {i : Nat} (hi : i < l.length) : ∀ a, a ≤ k → Side R (xG x l i a) (xG x' l' i a)
 | 0, _ => h
 | a + 1, ha => (mA hR hs h hi a (by omega)).add hR (hs (h.get i hi) (by omega))
theorem lA (hR : One R) (hs : ∀ {q q' a}, R q q' → a < k → R (nx x q a) (nx x' q' a)) : ∀ f i {l l' : List Nat}, Side R l l' → Side R (vS x k f i l) (vS x' k f i l')
 | 0, _, _, _, h => h
 | f + 1, i, l, l', h => by
  rw [vS, vS, h.len]
  by_cases e : i < l'.length
  ·rw [if_pos e, if_pos e]
   exact lA hR hs f (i + 1) (mA hR hs h (by rw [h.len]; exact e) k (Nat.le_refl _))
  ·rw [if_neg e, if_neg e]; exact h
end
theorem pL {d : DfaV} {n k : Nat} (hd : VD d n k) : ∀ f i l m, AccI d n k i l → n ≤ i + f → vS d k (f + m) i l = vS d k f i l
 | 0, i, l, m, h, hf => by
  have hl := rU h.nd h.lt
  rw [nK (f := 0 + m) (by omega), vS]
 | f + 1, i, l, m, h, hf => by
  rw [show f + 1 + m = (f + m) + 1 by omega, vS, vS]
  by_cases e : i < l.length
  ·rw [if_pos e, if_pos e]
   exact pL hd f (i + 1) _ m (h.row hd e) (by omega)
  ·rw [if_neg e, if_neg e]
theorem qW {d : DfaV} {n k : Nat} (hd : VD d n k) (m : Nat) : vS d k (n + m) 0 [st0 d] = zL d k := by
 rw [zL, hd.hn]
 exact pL hd n 0 _ m (AccI.start hd) (by omega)
theorem trim_congr {x x' : DfaV} {n n' k : Nat} (hx : VD x n k) (hx' : VD x' n' k) (hr : ∀ {c c'}, c < n → c' < n → (∀ w, xC k w → acc x c w = acc x c' w) → c = c') (hr' : ∀ {c c'}, c < n' → c' < n' → (∀ w, xC k w → acc x' c w = acc x' c' w) → c = c')
  (hl : ∀ w, xC k w → acc x (st0 x) w = acc x' (st0 x') w) : yK x k = yK x' k := by
 obtain ⟨R, hRd⟩ : ∃ R : Nat → Nat → Prop, ∀ q q', R q q' ↔ q < n ∧ q' < n' ∧ ∀ w, xC k w → acc x q w = acc x' q' w := ⟨fun q q' => q < n ∧ q' < n' ∧ ∀ w, xC k w → acc x q w = acc x' q' w, fun _ _ => Iff.rfl⟩
 have hR : One R := by
  refine ⟨fun {q q' r'} h1 h2 => ?_, fun {q r q'} h1 h2 => ?_⟩
  ·obtain ⟨_, h3, h4⟩ := (hRd _ _).1 h1
   obtain ⟨_, h5, h6⟩ := (hRd _ _).1 h2
   exact hr' h3 h5 (fun w hw => (h4 w hw).symm.trans (h6 w hw))
  ·obtain ⟨h3, _, h4⟩ := (hRd _ _).1 h1
   obtain ⟨h5, _, h6⟩ := (hRd _ _).1 h2
   exact hr h3 h5 (fun w hw => (h4 w hw).trans (h6 w hw).symm)
 have hs : ∀ {q q' a}, R q q' → a < k → R (nx x q a) (nx x' q' a) := fun {q q' a} h ha => by
  obtain ⟨h1, h2, h3⟩ := (hRd _ _).1 h
  exact (hRd _ _).2 ⟨qN hx h1 ha, qN hx' h2 ha, fun w hw => h3 (a :: w) (fun b hb => by
   rcases List.mem_cons.1 hb with rfl | hb
   ·exact ha
   ·exact hw b hb)⟩
 have h0 : R (st0 x) (st0 x') := (hRd _ _).2 ⟨sJ hx, sJ hx', hl⟩
 have hside : Side R (zL x k) (zL x' k) := by
  have := lA (x := x) (x' := x') (k := k) hR hs (n + n') 0 (Side.snoc .nil h0)
  rw [List.nil_append, List.nil_append, qW hx n'] at this
  rw [Nat.add_comm n n', qW hx' n] at this
  exact this
 have hA := (yF hx).1
 have hA' := (yF hx').1
 have hlen := hside.len
 have hm : ∀ i, i < (zL x k).length → (zL x k).getD i 0 ∈ zL x k := fun i hi => by rw [zG hi]; exact List.getElem_mem _
 have key : ∀ i, i < (zL x k).length → (yK x k).final.getD i false = (yK x' k).final.getD i false := fun i hi => by
  rw [sS hx hi, sS hx' (by omega)]
  obtain ⟨_, _, h⟩ := (hRd _ _).1 (hside.get i hi)
  exact h [] (fun a ha => by simp at ha)
 have hv := tX hx
 have hv' := tX hx'
 have e1 : (yK x k).letters = (yK x' k).letters := hx.hk.trans hx'.hk.symm
 have e3 : (yK x k).final = (yK x' k).final := by
  refine List.ext_getElem (by rw [hv.hn, hv'.hn, hlen]) fun i h1 h2 => ?_
  have := key i (by rw [hv.hn] at h1; exact h1)
  rw [zG h1, zG h2] at this
  exact this
 have e4 : (yK x k).next = (yK x' k).next := by
  refine List.ext_getElem (by rw [hv.nl, hv'.nl, hlen]) fun i h1 h2 => ?_
  have hi : i < (zL x k).length := by rw [hv.nl] at h1; exact h1
  have r1 := hv.row i hi
  have r2 := hv'.row i (by omega)
  rw [zG h1] at r1
  rw [zG h2] at r2
  refine List.ext_getElem (by rw [r1, r2]) fun a h3 h4 => ?_
  have ha : a < k := by omega
  have t1 := sI hx hi ha
  have t2 := sI hx' (show i < (zL x' k).length by omega) ha
  have hq := hside.get i hi
  have hle := (yF hx).2
  have hcl := hA.cl i a (by omega) hi ha
  rw [hside.idx hR hA.nd hA'.nd (hs hq ha) hcl, ← t2] at t1
  unfold ent at t1
  rw [zG h1, zG h2, zG h3, zG h4] at t1
  exact t1
 show (⟨_, 0, (yK x k).final, (yK x k).next⟩ : DfaV) = ⟨_, 0, (yK x' k).final, (yK x' k).next⟩
 rw [e3, e4]
 exact congrArg (fun z => (⟨z, 0, (yK x' k).final, (yK x' k).next⟩ : DfaV)) e1
theorem min_congr {d d' : DfaV} {n n' k : Nat} (hd : VD d n k) (hd' : VD d' n' k) (h : ∀ w, xC k w → acc d (st0 d) w = acc d' (st0 d') w) : minD d k = minD d' k := by
 refine trim_congr (sL hd) (sL hd') (fun h1 h2 => mF hd h1 h2) (fun h1 h2 => mF hd' h1 h2) fun w hw => ?_
 rw [pX, pX, sK hd (sJ hd) hw, sK hd' (sJ hd') hw]
 exact h w hw
theorem min_trim {d : DfaV} {n k : Nat} (hd : VD d n k) : minD (yK d k) k = minD d k := min_congr (tX hd) hd (fun w hw => by rw [show st0 (yK d k) = 0 from rfl]; exact nT hd hw)
end Go.Proofs.Ytgbfaggnnfoamaa
