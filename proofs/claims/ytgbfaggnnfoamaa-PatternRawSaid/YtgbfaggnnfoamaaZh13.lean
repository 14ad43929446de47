/- Part 13 of the proof: MinUniq. -/
import Derived.Test.YtgbfaggnnfoamaaZh12
set_option linter.unusedVariables false
set_option linter.unusedSimpArgs false
namespace Go.Proofs.Ytgbfaggnnfoamaa
def acc (d : DfaV) (q : Nat) (w : List Nat) : Bool := d.final.getD (run d q w) false
theorem finB_inj {a b : Bool} (h : finB a = finB b) : a = b := by cases a <;> cases b <;> simp [finB] at h <;> rfl
section
variable {d : DfaV} {n k : Nat}
theorem mD (hd : VD d n k) {q q' : Nat} (hq : q < n) (hq' : q' < n) : (pJ d).getD q 0 = (pJ d).getD q' 0 ↔ d.final.getD q false = d.final.getD q' false := by
 have hn := hd.hn
 rw [pJ, sA (by rw [List.length_map]; omega) (by rw [List.length_map]; omega), List.getElem_map, List.getElem_map, ← zI (d := false), ← zI (d := false)]
 exact ⟨finB_inj, fun h => by rw [h]⟩
theorem mN (hd : VD d n k) : ∀ m {q q' : Nat}, q < n → q' < n → (yG d k m).getD q 0 = (yG d k m).getD q' 0 → d.final.getD q false = d.final.getD q' false
 | 0, q, q', hq, hq', h => (mD hd hq hq').1 h
 | m + 1, q, q', hq, hq', h => mN hd m hq hq' ((uS hd (by rw [yI, hd.hn]) (by rw [← hd.hn]; exact clsIt_lt d k m) hq hq' k (Nat.le_refl _)).1 h).1
theorem mM (hd : VD d n k) : ∀ m {q q' : Nat}, q < n → q' < n → (yG d k m).getD q 0 ≠ (yG d k m).getD q' 0 → ∃ w, xQ k w ∧ acc d q w ≠ acc d q' w
 | 0, q, q', hq, hq', h => ⟨[], fun a ha => by simp at ha, fun e => h ((mD hd hq hq').2 e)⟩
 | m + 1, q, q', hq, hq', h => by
  by_cases h1 : (yG d k m).getD q 0 = (yG d k m).getD q' 0
  ·have hx : ¬ ∀ a, a < k → (yG d k m).getD (nx d q a) 0 = (yG d k m).getD (nx d q' a) 0 := fun ha => h ((uS hd (by rw [yI, hd.hn]) (by rw [← hd.hn]; exact clsIt_lt d k m) hq hq' k (Nat.le_refl _)).2 ⟨h1, ha⟩)
   obtain ⟨a, ha⟩ := Classical.not_forall.1 hx
   obtain ⟨ha, hne⟩ := Classical.not_imp.1 ha
   obtain ⟨w, hw, e⟩ := mM hd m (qA hd hq ha) (qA hd hq' ha) hne
   exact ⟨a :: w, fun b hb => by
    rcases List.mem_cons.1 hb with rfl | hb
    ·exact ha
    ·exact hw b hb, e⟩
  ·exact mM hd m hq hq' h1
theorem quot_st0 (d : DfaV) (p : List Nat) : st0 (vD d p) = p.getD (st0 d) 0 := by simp [st0, vD]
theorem nK (hd : VD d n k) {q : Nat} (hq : q < n) {w : List Nat} (hw : xQ k w) : acc (vD d (yK d k)) ((yK d k).getD q 0) w = acc d q w := by
 have hl : (yK d k).length = n := by rw [xK, hd.hn]
 have hN := vP d k
 have hr := run_lt hd w hq hw
 unfold acc
 rw [quot_run hd hl hN (classesD_fix hd) w hq hw]
 have hc := uU hN (show run d q w < (yK d k).length by omega)
 have hg := tY hN hc
 show ((reps (yK d k)).map fun q => d.final.getD q false).getD _ false = _
 rw [wY (x := 0) (by rw [uR hN]; exact hc)]
 exact mN hd _ (by omega) hr hg.1
theorem quot_red (hd : VD d n k) {c c' : Nat} (hc : c < cls (yK d k)) (hc' : c' < cls (yK d k)) (h : ∀ w, xQ k w → acc (vD d (yK d k)) c w = acc (vD d (yK d k)) c' w) : c = c' := by
 have hl : (yK d k).length = n := by rw [xK, hd.hn]
 have hN := vP d k
 obtain ⟨h1, h2⟩ := tY hN hc
 obtain ⟨h3, h4⟩ := tY hN hc'
 rw [hl] at h2 h4
 rcases Decidable.em (c = c') with e | e
 ·exact e
 exfalso
 obtain ⟨w, hw, hne⟩ := mM hd d.final.length h2 h4 (by rw [show yG d k d.final.length = yK d k from rfl, h1, h3]; exact e)
 have a1 := nK hd h2 hw
 have a2 := nK hd h4 hw
 rw [h1] at a1
 rw [h3] at a2
 exact hne (a1.symm.trans ((h w hw).trans a2))
theorem trim_acc (hd : VD d n k) {w : List Nat} (hw : xQ k w) : acc (yU d k) 0 w = acc d (st0 d) w := by
 have hA := (yS hd).1
 have hr := run_lt (qI hd) w (qI hd).n1 hw
 unfold acc
 rw [oB hd hr, trim_run hd w hA.hd.1 hw, hA.hd.2]
end
inductive Side (R : Nat → Nat → Prop) : List Nat → List Nat → Prop
 | nil : Side R [] []
 | snoc {l l' : List Nat} {q q' : Nat} : Side R l l' → R q q' → Side R (l ++ [q]) (l' ++ [q'])
theorem Side.len {R : Nat → Nat → Prop} {l l' : List Nat} (h : Side R l l') : l.length = l'.length := by
 induction h with
 | nil => rfl
 | snoc _ _ ih => simp [ih]
theorem Side.get {R : Nat → Nat → Prop} {l l' : List Nat} (h : Side R l l') : ∀ i, i < l.length → R (l.getD i 0) (l'.getD i 0) := by
 induction h with
 | nil => intro i hi; simp at hi
 | @snoc l l' q q' hs hr ih =>
  intro i hi
  have hl := hs.len
  simp at hi
  by_cases e : i < l.length
  ·rw [uX (List.prefix_append _ _) e, uX (List.prefix_append _ _) (by omega)]; exact ih i e
  ·have e1 : i = l.length := by omega
   subst e1
   have a1 : (l ++ [q]).getD l.length 0 = q := by simp [List.getD]
   have a2 : (l' ++ [q']).getD l.length 0 = q' := by rw [hl]; simp [List.getD]
   rw [a1, a2]; exact hr
structure One (R : Nat → Nat → Prop) : Prop where
 l : ∀ {q q' r'}, R q q' → R q r' → q' = r'
 r : ∀ {q r q'}, R q q' → R r q' → q = r
theorem Side.mem {R : Nat → Nat → Prop} (hR : One R) {l l' : List Nat} (h : Side R l l') {q q' : Nat} (hq : R q q') : q ∈ l ↔ q' ∈ l' := by
 have hl := h.len
 constructor
 ·intro hm
  obtain ⟨i, hi, rfl⟩ := List.getElem_of_mem hm
  have := h.get i hi
  rw [zI hi] at this
  rw [hR.l hq this, zI (by omega)]
  exact List.getElem_mem _
 ·intro hm
  obtain ⟨i, hi, rfl⟩ := List.getElem_of_mem hm
  have := h.get i (by omega)
  rw [zI hi, zI (show i < l.length by omega)] at this
  rw [hR.r hq this]
  exact List.getElem_mem _
theorem Side.add {R : Nat → Nat → Prop} (hR : One R) {l l' : List Nat} (h : Side R l l') {q q' : Nat} (hq : R q q') : Side R (yR l q) (yR l' q') := by
 unfold yR
 by_cases e : q ∈ l
 ·rw [if_pos e, if_pos ((h.mem hR hq).1 e)]; exact h
 ·rw [if_neg e, if_neg (fun e' => e ((h.mem hR hq).2 e'))]; exact .snoc h hq
theorem Side.idx {R : Nat → Nat → Prop} (hR : One R) {l l' : List Nat} (h : Side R l l') (hn : l.Nodup) (hn' : l'.Nodup) {q q' : Nat} (hq : R q q') (hm : q ∈ l) : l.idxOf q = l'.idxOf q' := by
 have hi := List.idxOf_lt_length_of_mem hm
 have hl := h.len
 have := h.get _ hi
 rw [zI hi, List.getElem_idxOf, zI (show l.idxOf q < l'.length by omega)] at this
 have e := hR.l hq this
 have hm' := (h.mem hR hq).1 hm
 have hi' := List.idxOf_lt_length_of_mem hm'
 have e2 : l'[l'.idxOf q'] = l'[l.idxOf q]'(by omega) := by rw [List.getElem_idxOf]; exact e
 exact ((List.getElem_inj hn').1 e2).symm
section
variable {x x' : DfaV} {n n' k : Nat} {R : Nat → Nat → Prop}
theorem side_row (hR : One R) (hs : ∀ {q q' a}, R q q' → a < k → R (nx x q a) (nx x' q' a)) {l l' : List Nat} (h : Side R l l') {i : Nat} (hi : i < l.length) : ∀ a, a ≤ k → Side R (xM x l i a) (xM x' l' i a)
 | 0, _ => h
 | a + 1, ha => (side_row hR hs h hi a (by omega)).add hR (hs (h.get i hi) (by omega))
theorem side_go (hR : One R) (hs : ∀ {q q' a}, R q q' → a < k → R (nx x q a) (nx x' q' a)) : ∀ f i {l l' : List Nat}, Side R l l' → Side R (uH x k f i l) (uH x' k f i l')
 | 0, _, _, _, h => h
 | f + 1, i, l, l', h => by
  rw [uH, uH, h.len]
  by_cases e : i < l'.length
  ·rw [if_pos e, if_pos e]
   exact side_go hR hs f (i + 1) (side_row hR hs h (by rw [h.len]; exact e) k (Nat.le_refl _))
  ·rw [if_neg e, if_neg e]; exact h
end
theorem lX {d : DfaV} {n k : Nat} (hd : VD d n k) : ∀ f i l m, AccI d n k i l → n ≤ i + f → uH d k (f + m) i l = uH d k f i l
 | 0, i, l, m, h, hf => by
  have hl := rQ h.nd h.lt
  rw [mS (f := 0 + m) (by omega), uH]
 | f + 1, i, l, m, h, hf => by
  rw [show f + 1 + m = (f + m) + 1 by omega, uH, uH]
  by_cases e : i < l.length
  ·rw [if_pos e, if_pos e]
   exact lX hd f (i + 1) _ m (h.row hd e) (by omega)
  ·rw [if_neg e, if_neg e]
theorem mR {d : DfaV} {n k : Nat} (hd : VD d n k) (m : Nat) : uH d k (n + m) 0 [st0 d] = zQ d k := by
 rw [zQ, hd.hn]
 exact lX hd n 0 _ m (AccI.start hd) (by omega)
theorem trim_congr {x x' : DfaV} {n n' k : Nat} (hx : VD x n k) (hx' : VD x' n' k) (hr : ∀ {c c'}, c < n → c' < n → (∀ w, xQ k w → acc x c w = acc x c' w) → c = c') (hr' : ∀ {c c'}, c < n' → c' < n' → (∀ w, xQ k w → acc x' c w = acc x' c' w) → c = c')
  (hl : ∀ w, xQ k w → acc x (st0 x) w = acc x' (st0 x') w) : yU x k = yU x' k := by
 obtain ⟨R, hRd⟩ : ∃ R : Nat → Nat → Prop, ∀ q q', R q q' ↔ q < n ∧ q' < n' ∧ ∀ w, xQ k w → acc x q w = acc x' q' w := ⟨fun q q' => q < n ∧ q' < n' ∧ ∀ w, xQ k w → acc x q w = acc x' q' w, fun _ _ => Iff.rfl⟩
 have hR : One R := by
  refine ⟨fun {q q' r'} h1 h2 => ?_, fun {q r q'} h1 h2 => ?_⟩
  ·obtain ⟨_, h3, h4⟩ := (hRd _ _).1 h1
   obtain ⟨_, h5, h6⟩ := (hRd _ _).1 h2
   exact hr' h3 h5 (fun w hw => (h4 w hw).symm.trans (h6 w hw))
  ·obtain ⟨h3, _, h4⟩ := (hRd _ _).1 h1
   obtain ⟨h5, _, h6⟩ := (hRd _ _).1 h2
   exact hr h3 h5 (fun w hw => (h4 w hw).trans (h6 w hw).symm)
 have hs : ∀ {q q' a}, R q q' → a < k → R (nx x q a) (nx x' q' a) := fun {q q' a} h ha => by
  obtain ⟨h1, h2, h3⟩ := (hRd _ _).1 h
  exact (hRd _ _).2 ⟨qA hx h1 ha, qA hx' h2 ha, fun w hw => h3 (a :: w) (fun b hb => by
   rcases List.mem_cons.1 hb with rfl | hb
   ·exact ha
   ·exact hw b hb)⟩
 have h0 : R (st0 x) (st0 x') := (hRd _ _).2 ⟨pB hx, pB hx', hl⟩
 have hside : Side R (zQ x k) (zQ x' k) := by
  have := side_go (x := x) (x' := x') (k := k) hR hs (n + n') 0 (Side.snoc .nil h0)
  rw [List.nil_append, List.nil_append, mR hx n'] at this
  rw [Nat.add_comm n n', mR hx' n] at this
  exact this
 have hA := (yS hx).1
 have hA' := (yS hx').1
 have hlen := hside.len
 have hm : ∀ i, i < (zQ x k).length → (zQ x k).getD i 0 ∈ zQ x k := fun i hi => by rw [zI hi]; exact List.getElem_mem _
 have key : ∀ i, i < (zQ x k).length → (yU x k).final.getD i false = (yU x' k).final.getD i false := fun i hi => by
  rw [oB hx hi, oB hx' (by omega)]
  obtain ⟨_, _, h⟩ := (hRd _ _).1 (hside.get i hi)
  exact h [] (fun a ha => by simp at ha)
 have hv := qI hx
 have hv' := qI hx'
 have e1 : (yU x k).letters = (yU x' k).letters := hx.hk.trans hx'.hk.symm
 have e3 : (yU x k).final = (yU x' k).final := by
  refine List.ext_getElem (by rw [hv.hn, hv'.hn, hlen]) fun i h1 h2 => ?_
  have := key i (by rw [hv.hn] at h1; exact h1)
  rw [zI h1, zI h2] at this
  exact this
 have e4 : (yU x k).next = (yU x' k).next := by
  refine List.ext_getElem (by rw [hv.nl, hv'.nl, hlen]) fun i h1 h2 => ?_
  have hi : i < (zQ x k).length := by rw [hv.nl] at h1; exact h1
  have r1 := hv.row i hi
  have r2 := hv'.row i (by omega)
  rw [zI h1] at r1
  rw [zI h2] at r2
  refine List.ext_getElem (by rw [r1, r2]) fun a h3 h4 => ?_
  have ha : a < k := by omega
  have t1 := qZ hx hi ha
  have t2 := qZ hx' (show i < (zQ x' k).length by omega) ha
  have hq := hside.get i hi
  have hle := (yS hx).2
  have hcl := hA.cl i a (by omega) hi ha
  rw [hside.idx hR hA.nd hA'.nd (hs hq ha) hcl, ← t2] at t1
  unfold ent at t1
  rw [zI h1, zI h2, zI h3, zI h4] at t1
  exact t1
 show (⟨_, 0, (yU x k).final, (yU x k).next⟩ : DfaV) = ⟨_, 0, (yU x' k).final, (yU x' k).next⟩
 rw [e3, e4]
 exact congrArg (fun z => (⟨z, 0, (yU x' k).final, (yU x' k).next⟩ : DfaV)) e1
theorem jI {d d' : DfaV} {n n' k : Nat} (hd : VD d n k) (hd' : VD d' n' k) (h : ∀ w, xQ k w → acc d (st0 d) w = acc d' (st0 d') w) : minD d k = minD d' k := by
 refine trim_congr (nL hd) (nL hd') (fun h1 h2 => quot_red hd h1 h2) (fun h1 h2 => quot_red hd' h1 h2) fun w hw => ?_
 rw [quot_st0, quot_st0, nK hd (pB hd) hw, nK hd' (pB hd') hw]
 exact h w hw
theorem min_trim {d : DfaV} {n k : Nat} (hd : VD d n k) : minD (yU d k) k = minD d k := jI (qI hd) hd (fun w hw => by rw [show st0 (yU d k) = 0 from rfl]; exact trim_acc hd hw)
end Go.Proofs.Ytgbfaggnnfoamaa
