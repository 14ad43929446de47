/- Part 13 of the proof: MinUniq. -/
import Derived.Test.YtgbfaggnnfoamaaZi12
set_option linter.unusedVariables false
set_option linter.unusedSimpArgs false
namespace Go.Proofs.Ytgbfaggnnfoamaa
def acc (d : DfaV) (q : Nat) (w : List Nat) : Bool := d.final.getD (run d q w) false
theorem finB_inj {a b : Bool} (h : finB a = finB b) : a = b := by cases a <;> cases b <;> simp [finB] at h <;> rfl
section
variable {d : DfaV} {n k : Nat}
theorem mL (hd : VD d n k) {q q' : Nat} (hq : q < n) (hq' : q' < n) : (pQ d).getD q 0 = (pQ d).getD q' 0 ↔ d.final.getD q false = d.final.getD q' false := by
 have hn := hd.hn
 rw [pQ, sD (by rw [List.length_map]; omega) (by rw [List.length_map]; omega), List.getElem_map, List.getElem_map, ← zI (d := false), ← zI (d := false)]
 exact ⟨finB_inj, fun h => by rw [h]⟩
theorem mV (hd : VD d n k) : ∀ m {q q' : Nat}, q < n → q' < n → (yG d k m).getD q 0 = (yG d k m).getD q' 0 → d.final.getD q false = d.final.getD q' false
 | 0, q, q', hq, hq', h => (mL hd hq hq').1 h
 | m + 1, q, q', hq, hq', h => mV hd m hq hq' ((uT hd (by rw [yI, hd.hn]) (by rw [← hd.hn]; exact clsIt_lt d k m) hq hq' k (Nat.le_refl _)).1 h).1
theorem mU (hd : VD d n k) : ∀ m {q q' : Nat}, q < n → q' < n → (yG d k m).getD q 0 ≠ (yG d k m).getD q' 0 → ∃ w, xS k w ∧ acc d q w ≠ acc d q' w
 | 0, q, q', hq, hq', h => ⟨[], fun a ha => by simp at ha, fun e => h ((mL hd hq hq').2 e)⟩
 | m + 1, q, q', hq, hq', h => by
  by_cases h1 : (yG d k m).getD q 0 = (yG d k m).getD q' 0
  ·have hx : ¬ ∀ a, a < k → (yG d k m).getD (nx d q a) 0 = (yG d k m).getD (nx d q' a) 0 := fun ha => h ((uT hd (by rw [yI, hd.hn]) (by rw [← hd.hn]; exact clsIt_lt d k m) hq hq' k (Nat.le_refl _)).2 ⟨h1, ha⟩)
   obtain ⟨a, ha⟩ := Classical.not_forall.1 hx
   obtain ⟨ha, hne⟩ := Classical.not_imp.1 ha
   obtain ⟨w, hw, e⟩ := mU hd m (qI hd hq ha) (qI hd hq' ha) hne
   exact ⟨a :: w, fun b hb => by
    rcases List.mem_cons.1 hb with rfl | hb
    ·exact ha
    ·exact hw b hb, e⟩
  ·exact mU hd m hq hq' h1
theorem quot_st0 (d : DfaV) (p : List Nat) : st0 (vG d p) = p.getD (st0 d) 0 := by simp [st0, vG]
theorem nP (hd : VD d n k) {q : Nat} (hq : q < n) {w : List Nat} (hw : xS k w) : acc (vG d (yK d k)) ((yK d k).getD q 0) w = acc d q w := by
 have hl : (yK d k).length = n := by rw [xN, hd.hn]
 have hN := vQ d k
 have hr := run_lt hd w hq hw
 unfold acc
 rw [quot_run hd hl hN (classesD_fix hd) w hq hw]
 have hc := uW hN (show run d q w < (yK d k).length by omega)
 have hg := sB hN hc
 show ((reps (yK d k)).map fun q => d.final.getD q false).getD _ false = _
 rw [vD (x := 0) (by rw [uS hN]; exact hc)]
 exact mV hd _ (by omega) hr hg.1
theorem quot_red (hd : VD d n k) {c c' : Nat} (hc : c < cls (yK d k)) (hc' : c' < cls (yK d k)) (h : ∀ w, xS k w → acc (vG d (yK d k)) c w = acc (vG d (yK d k)) c' w) : c = c' := by
 have hl : (yK d k).length = n := by rw [xN, hd.hn]
 have hN := vQ d k
 obtain ⟨h1, h2⟩ := sB hN hc
 obtain ⟨h3, h4⟩ := sB hN hc'
 rw [hl] at h2 h4
 rcases Decidable.em (c = c') with e | e
 ·exact e
 exfalso
 obtain ⟨w, hw, hne⟩ := mU hd d.final.length h2 h4 (by rw [show yG d k d.final.length = yK d k from rfl, h1, h3]; exact e)
 have a1 := nP hd h2 hw
 have a2 := nP hd h4 hw
 rw [h1] at a1
 rw [h3] at a2
 exact hne (a1.symm.trans ((h w hw).trans a2))
theorem trim_acc (hd : VD d n k) {w : List Nat} (hw : xS k w) : acc (yW d k) 0 w = acc d (st0 d) w := by
 have hA := (yT hd).1
 have hr := run_lt (qQ hd) w (qQ hd).n1 hw
 unfold acc
 rw [oH hd hr, trim_run hd w hA.hd.1 hw, hA.hd.2]
end
inductive Side (R : Nat → Nat → Prop) : List Nat → List Nat → Prop
 | nil : Side R [] []
 | snoc {l l' : List Nat} {q q' : Nat} : Side R l l' → R q q' → Side R (l ++ [q]) (l' ++ [q'])
theorem Side.len {R : Nat → Nat → Prop} {l l' : List Nat} (h : Side R l l') : l.length = l'.length := by
 induction h with
 | nil => rfl
 | snoc _ _ ih => simp [ih]
theorem Side.get {R : Nat → Nat → Prop} {l l' : List Nat} (h : Side R l l') : ∀ i, i < l.length → R (l.getD i 0) (l'.getD i 0) := by
 induction h with
 | nil => intro i hi; simp at hi
 | @snoc l l' q q' hs hr ih =>
  intro i hi
  have hl := hs.len
  simp at hi
  by_cases e : i < l.length
  ·rw [uZ (List.prefix_append _ _) e, uZ (List.prefix_append _ _) (by omega)]; exact ih i e
  ·have e1 : i = l.length := by omega
   subst e1
   have a1 : (l ++ [q]).getD l.length 0 = q := by simp [List.getD]
   have a2 : (l' ++ [q']).getD l.length 0 = q' := by rw [hl]; simp [List.getD]
   rw [a1, a2]; exact hr
structure One (R : Nat → Nat → Prop) : Prop where
 l : ∀ {q q' r'}, R q q' → R q r' → q' = r'
 r : ∀ {q r q'}, R q q' → R r q' → q = r
theorem Side.mem {R : Nat → Nat → Prop} (hR : One R) {l l' : List Nat} (h : Side R l l') {q q' : Nat} (hq : R q q') : q ∈ l ↔ q' ∈ l' := by
 have hl := h.len
 constructor
 ·intro hm
  obtain ⟨i, hi, rfl⟩ := List.getElem_of_mem hm
  have := h.get i hi
  rw [zI hi] at this
  rw [hR.l hq this, zI (by omega)]
  exact List.getElem_mem _
 ·intro hm
  obtain ⟨i, hi, rfl⟩ := List.getElem_of_mem hm
  have := h.get i (by omega)
  rw [zI hi, zI (show i < l.length by omega)] at this
  rw [hR.r hq this]
  exact List.getElem_mem _
theorem Side.add {R : Nat → Nat → Prop} (hR : One R) {l l' : List Nat} (h : Side R l l') {q q' : Nat} (hq : R q q') : Side R (yS l q) (yS l' q') := by
 unfold yS
 by_cases e : q ∈ l
 ·rw [if_pos e, if_pos ((h.mem hR hq).1 e)]; exact h
 ·rw [if_neg e, if_neg (fun e' => e ((h.mem hR hq).2 e'))]; exact .snoc h hq
theorem Side.idx {R : Nat → Nat → Prop} (hR : One R) {l l' : List Nat} (h : Side R l l') (hn : l.Nodup) (hn' : l'.Nodup) {q q' : Nat} (hq : R q q') (hm : q ∈ l) : l.idxOf q = l'.idxOf q' := by
 have hi := List.idxOf_lt_length_of_mem hm
 have hl := h.len
 have := h.get _ hi
 rw [zI hi, List.getElem_idxOf, zI (show l.idxOf q < l'.length by omega)] at this
 have e := hR.l hq this
 have hm' := (h.mem hR hq).1 hm
 have hi' := List.idxOf_lt_length_of_mem hm'
 have e2 : l'[l'.idxOf q'] = l'[l.idxOf q]'(by omega) := by rw [List.getElem_idxOf]; exact e
 exact ((List.getElem_inj hn').1 e2).symm
section
variable {x x' : DfaV} {n n' k : Nat} {R : Nat → Nat → Prop}
theorem side_row (hR : One R) (hs : ∀ {q q' a}, R q q' → a < k → R (nx x q a) (nx x' q' a)) {l l' : List Nat} (h : Side R l l') {i : Nat} (hi : i < l.length) : ∀ a, a ≤ k → Side R (xO x l i a) (xO x' l' i a)
 | 0, _ => h
 | a + 1, ha => (side_row hR hs h hi a (by omega)).add hR (hs (h.get i hi) (by omega))
theorem side_go (hR : One R) (hs : ∀ {q q' a}, R q q' → a < k → R (nx x q a) (nx x' q' a)) : ∀ f i {l l' : List Nat}, Side R l l' → Side R (uI x k f i l) (uI x' k f i l')
 | 0, _, _, _, h => h
 | f + 1, i, l, l', h => by
  rw [uI, uI, h.len]
  by_cases e : i < l'.length
  ·rw [if_pos e, if_pos e]
   exact side_go hR hs f (i + 1) (side_row hR hs h (by rw [h.len]; exact e) k (Nat.le_refl _))
  ·rw [if_neg e, if_neg e]; exact h
end
theorem kE {d : DfaV} {n k : Nat} (hd : VD d n k) : ∀ f i l m, AccI d n k i l → n ≤ i + f → uI d k (f + m) i l = uI d k f i l
 | 0, i, l, m, h, hf => by
  have hl := rV h.nd h.lt
  rw [lA (f := 0 + m) (by omega), uI]
 | f + 1, i, l, m, h, hf => by
  rw [show f + 1 + m = (f + m) + 1 by omega, uI, uI]
  by_cases e : i < l.length
  ·rw [if_pos e, if_pos e]
   exact kE hd f (i + 1) _ m (h.row hd e) (by omega)
  ·rw [if_neg e, if_neg e]
theorem mZ {d : DfaV} {n k : Nat} (hd : VD d n k) (m : Nat) : uI d k (n + m) 0 [st0 d] = zP d k := by
 rw [zP, hd.hn]
 exact kE hd n 0 _ m (AccI.start hd) (by omega)
theorem trim_congr {x x' : DfaV} {n n' k : Nat} (hx : VD x n k) (hx' : VD x' n' k) (hr : ∀ {c c'}, c < n → c' < n → (∀ w, xS k w → acc x c w = acc x c' w) → c = c') (hr' : ∀ {c c'}, c < n' → c' < n' → (∀ w, xS k w → acc x' c w = acc x' c' w) → c = c')
  (hl : ∀ w, xS k w → acc x (st0 x) w = acc x' (st0 x') w) : yW x k = yW x' k := by
 obtain ⟨R, hRd⟩ : ∃ R : Nat → Nat → Prop, ∀ q q', R q q' ↔ q < n ∧ q' < n' ∧ ∀ w, xS k w → acc x q w = acc x' q' w := ⟨fun q q' => q < n ∧ q' < n' ∧ ∀ w, xS k w → acc x q w = acc x' q' w, fun _ _ => Iff.rfl⟩
 have hR : One R := by
  refine ⟨fun {q q' r'} h1 h2 => ?_, fun {q r q'} h1 h2 => ?_⟩
  ·obtain ⟨_, h3, h4⟩ := (hRd _ _).1 h1
   obtain ⟨_, h5, h6⟩ := (hRd _ _).1 h2
   exact hr' h3 h5 (fun w hw => (h4 w hw).symm.trans (h6 w hw))
  ·obtain ⟨h3, _, h4⟩ := (hRd _ _).1 h1
   obtain ⟨h5, _, h6⟩ := (hRd _ _).1 h2
   exact hr h3 h5 (fun w hw => (h4 w hw).trans (h6 w hw).symm)
 have hs : ∀ {q q' a}, R q q' → a < k → R (nx x q a) (nx x' q' a) := fun {q q' a} h ha => by
  obtain ⟨h1, h2, h3⟩ := (hRd _ _).1 h
  exact (hRd _ _).2 ⟨qI hx h1 ha, qI hx' h2 ha, fun w hw => h3 (a :: w) (fun b hb => by
   rcases List.mem_cons.1 hb with rfl | hb
   ·exact ha
   ·exact hw b hb)⟩
 have h0 : R (st0 x) (st0 x') := (hRd _ _).2 ⟨pI hx, pI hx', hl⟩
 have hside : Side R (zP x k) (zP x' k) := by
  have := side_go (x := x) (x' := x') (k := k) hR hs (n + n') 0 (Side.snoc .nil h0)
  rw [List.nil_append, List.nil_append, mZ hx n'] at this
  rw [Nat.add_comm n n', mZ hx' n] at this
  exact this
 have hA := (yT hx).1
 have hA' := (yT hx').1
 have hlen := hside.len
 have hm : ∀ i, i < (zP x k).length → (zP x k).getD i 0 ∈ zP x k := fun i hi => by rw [zI hi]; exact List.getElem_mem _
 have key : ∀ i, i < (zP x k).length → (yW x k).final.getD i false = (yW x' k).final.getD i false := fun i hi => by
  rw [oH hx hi, oH hx' (by omega)]
  obtain ⟨_, _, h⟩ := (hRd _ _).1 (hside.get i hi)
  exact h [] (fun a ha => by simp at ha)
 have hv := qQ hx
 have hv' := qQ hx'
 have e1 : (yW x k).letters = (yW x' k).letters := hx.hk.trans hx'.hk.symm
 have e3 : (yW x k).final = (yW x' k).final := by
  refine List.ext_getElem (by rw [hv.hn, hv'.hn, hlen]) fun i h1 h2 => ?_
  have := key i (by rw [hv.hn] at h1; exact h1)
  rw [zI h1, zI h2] at this
  exact this
 have e4 : (yW x k).next = (yW x' k).next := by
  refine List.ext_getElem (by rw [hv.nl, hv'.nl, hlen]) fun i h1 h2 => ?_
  have hi : i < (zP x k).length := by rw [hv.nl] at h1; exact h1
  have r1 := hv.row i hi
  have r2 := hv'.row i (by omega)
  rw [zI h1] at r1
  rw [zI h2] at r2
  refine List.ext_getElem (by rw [r1, r2]) fun a h3 h4 => ?_
  have ha : a < k := by omega
  have t1 := pH hx hi ha
  have t2 := pH hx' (show i < (zP x' k).length by omega) ha
  have hq := hside.get i hi
  have hle := (yT hx).2
  have hcl := hA.cl i a (by omega) hi ha
  rw [hside.idx hR hA.nd hA'.nd (hs hq ha) hcl, ← t2] at t1
  unfold ent at t1
  rw [zI h1, zI h2, zI h3, zI h4] at t1
  exact t1
 show (⟨_, 0, (yW x k).final, (yW x k).next⟩ : DfaV) = ⟨_, 0, (yW x' k).final, (yW x' k).next⟩
 rw [e3, e4]
 exact congrArg (fun z => (⟨z, 0, (yW x' k).final, (yW x' k).next⟩ : DfaV)) e1
theorem min_congr {d d' : DfaV} {n n' k : Nat} (hd : VD d n k) (hd' : VD d' n' k) (h : ∀ w, xS k w → acc d (st0 d) w = acc d' (st0 d') w) : minD d k = minD d' k := by
 refine trim_congr (nQ hd) (nQ hd') (fun h1 h2 => quot_red hd h1 h2) (fun h1 h2 => quot_red hd' h1 h2) fun w hw => ?_
 rw [quot_st0, quot_st0, nP hd (pI hd) hw, nP hd' (pI hd') hw]
 exact h w hw
theorem min_trim {d : DfaV} {n k : Nat} (hd : VD d n k) : minD (yW d k) k = minD d k := min_congr (qQ hd) hd (fun w hw => by rw [show st0 (yW d k) = 0 from rfl]; exact trim_acc hd hw)
end Go.Proofs.Ytgbfaggnnfoamaa
