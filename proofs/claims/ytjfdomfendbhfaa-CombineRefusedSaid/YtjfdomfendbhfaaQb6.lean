/- Part 6 of the proof: MinUniq, Bfs, ProdP. -/
import Derived.Test.YtjfdomfendbhfaaQb5
set_option linter.unusedVariables false
set_option linter.unusedSimpArgs false
namespace Go.Proofs.Ytjfdomfendbhfaa
def acc (d : DfaV) (q : Nat) (w : List Nat) : Bool := d.final.getD (run d q w) false
theorem finB_inj {a b : Bool} (h : finB a = finB b) : a = b := by cases a <;> cases b <;> simp [finB] at h <;> rfl
section
variable {d : DfaV} {n k : Nat}
theorem jH (hd : VD d n k) {q q' : Nat} (hq : q < n) (hq' : q' < n) : (kE d).getD q 0 = (kE d).getD q' 0 ↔ d.final.getD q false = d.final.getD q' false := by
 have hn := hd.hn
 rw [kE, qO (by rw [List.length_map]; omega) (by rw [List.length_map]; omega), List.getElem_map, List.getElem_map, ← zI (d := false), ← zI (d := false)]
 exact ⟨finB_inj, fun h => by rw [h]⟩
theorem iH (hd : VD d n k) : ∀ m {q q' : Nat}, q < n → q' < n → (yO d k m).getD q 0 = (yO d k m).getD q' 0 → d.final.getD q false = d.final.getD q' false
 | 0, q, q', hq, hq', h => (jH hd hq hq').1 h
 | m + 1, q, q', hq, hq', h => iH hd m hq hq' ((sL hd (by rw [yX, hd.hn]) (by rw [← hd.hn]; exact clsIt_lt d k m) hq hq' k (Nat.le_refl _)).1 h).1
theorem iG (hd : VD d n k) : ∀ m {q q' : Nat}, q < n → q' < n → (yO d k m).getD q 0 ≠ (yO d k m).getD q' 0 → ∃ w, yD k w ∧ acc d q w ≠ acc d q' w
 | 0, q, q', hq, hq', h => ⟨[], fun a ha => by simp at ha, fun e => h ((jH hd hq hq').2 e)⟩
 | m + 1, q, q', hq, hq', h => by
  by_cases h1 : (yO d k m).getD q 0 = (yO d k m).getD q' 0
  ·have hx : ¬ ∀ a, a < k → (yO d k m).getD (nx d q a) 0 = (yO d k m).getD (nx d q' a) 0 := fun ha => h ((sL hd (by rw [yX, hd.hn]) (by rw [← hd.hn]; exact clsIt_lt d k m) hq hq' k (Nat.le_refl _)).2 ⟨h1, ha⟩)
   obtain ⟨a, ha⟩ := Classical.not_forall.1 hx
   obtain ⟨ha, hne⟩ := Classical.not_imp.1 ha
   obtain ⟨w, hw, e⟩ := iG hd m (kF hd hq ha) (kF hd hq' ha) hne
   exact ⟨a :: w, fun b hb => by
    rcases List.mem_cons.1 hb with rfl | hb
    ·exact ha
    ·exact hw b hb, e⟩
  ·exact iG hd m hq hq' h1
theorem quot_st0 (d : DfaV) (p : List Nat) : st0 (uM d p) = p.getD (st0 d) 0 := by simp [st0, uM]
theorem nW (hd : VD d n k) {q : Nat} (hq : q < n) {w : List Nat} (hw : yD k w) : acc (uM d (yR d k)) ((yR d k).getD q 0) w = acc d q w := by
 have hl : (yR d k).length = n := by rw [wP, hd.hn]
 have hN := sA d k
 have hr := run_lt hd w hq hw
 unfold acc
 rw [quot_run hd hl hN (classesD_fix hd) w hq hw]
 have hc := sM hN (show run d q w < (yR d k).length by omega)
 have hg := qK hN hc
 show ((reps (yR d k)).map fun q => d.final.getD q false).getD _ false = _
 rw [tN (x := 0) (by rw [sJ hN]; exact hc)]
 exact iH hd _ (by omega) hr hg.1
theorem quot_red (hd : VD d n k) {c c' : Nat} (hc : c < cls (yR d k)) (hc' : c' < cls (yR d k)) (h : ∀ w, yD k w → acc (uM d (yR d k)) c w = acc (uM d (yR d k)) c' w) : c = c' := by
 have hl : (yR d k).length = n := by rw [wP, hd.hn]
 have hN := sA d k
 obtain ⟨h1, h2⟩ := qK hN hc
 obtain ⟨h3, h4⟩ := qK hN hc'
 rw [hl] at h2 h4
 rcases Decidable.em (c = c') with e | e
 ·exact e
 exfalso
 obtain ⟨w, hw, hne⟩ := iG hd d.final.length h2 h4 (by rw [show yO d k d.final.length = yR d k from rfl, h1, h3]; exact e)
 have a1 := nW hd h2 hw
 have a2 := nW hd h4 hw
 rw [h1] at a1
 rw [h3] at a2
 exact hne (a1.symm.trans ((h w hw).trans a2))
theorem trim_acc (hd : VD d n k) {w : List Nat} (hw : yD k w) : acc (xV d k) 0 w = acc d (st0 d) w := by
 have hA := (xL hd).1
 have hr := run_lt (oV hd) w (oV hd).n1 hw
 unfold acc
 rw [mO hd hr, trim_run hd w hA.hd.1 hw, hA.hd.2]
theorem min_acc (hd : VD d n k) {w : List Nat} (hw : yD k w) : acc (minD d k) 0 w = acc d (st0 d) w := by
 rw [show acc (minD d k) 0 w = acc (uM d (yR d k)) (st0 (uM d (yR d k))) w from trim_acc (nX hd) hw, quot_st0]
 exact nW hd (pF hd) hw
end
inductive Side (R : Nat → Nat → Prop) : List Nat → List Nat → Prop
 | nil : Side R [] []
 | snoc {l l' : List Nat} {q q' : Nat} : Side R l l' → R q q' → Side R (l ++ [q]) (l' ++ [q'])
theorem Side.len {R : Nat → Nat → Prop} {l l' : List Nat} (h : Side R l l') : l.length = l'.length := by
 induction h with
 | nil => rfl
 | snoc _ _ ih => simp [ih]
theorem Side.get {R : Nat → Nat → Prop} {l l' : List Nat} (h : Side R l l') : ∀ i, i < l.length → R (l.getD i 0) (l'.getD i 0) := by
 induction h with
 | nil => intro i hi; simp at hi
 | @snoc l l' q q' hs hr ih =>
  intro i hi
  have hl := hs.len
  simp at hi
  by_cases e : i < l.length
  ·rw [qT (List.prefix_append _ _) e, qT (List.prefix_append _ _) (by omega)]; exact ih i e
  ·have e1 : i = l.length := by omega
   subst e1
   have a1 : (l ++ [q]).getD l.length 0 = q := by simp [List.getD]
   have a2 : (l' ++ [q']).getD l.length 0 = q' := by rw [hl]; simp [List.getD]
   rw [a1, a2]; exact hr
structure One (R : Nat → Nat → Prop) : Prop where
 l : ∀ {q q' r'}, R q q' → R q r' → q' = r'
 r : ∀ {q r q'}, R q q' → R r q' → q = r
theorem Side.mem {R : Nat → Nat → Prop} (hR : One R) {l l' : List Nat} (h : Side R l l') {q q' : Nat} (hq : R q q') : q ∈ l ↔ q' ∈ l' := by
 have hl := h.len
 constructor
 ·intro hm
  obtain ⟨i, hi, rfl⟩ := List.getElem_of_mem hm
  have := h.get i hi
  rw [zI hi] at this
  rw [hR.l hq this, zI (by omega)]
  exact List.getElem_mem _
 ·intro hm
  obtain ⟨i, hi, rfl⟩ := List.getElem_of_mem hm
  have := h.get i (by omega)
  rw [zI hi, zI (show i < l.length by omega)] at this
  rw [hR.r hq this]
  exact List.getElem_mem _
theorem Side.add {R : Nat → Nat → Prop} (hR : One R) {l l' : List Nat} (h : Side R l l') {q q' : Nat} (hq : R q q') : Side R (xK l q) (xK l' q') := by
 unfold xK
 by_cases e : q ∈ l
 ·rw [if_pos e, if_pos ((h.mem hR hq).1 e)]; exact h
 ·rw [if_neg e, if_neg (fun e' => e ((h.mem hR hq).2 e'))]; exact .snoc h hq
theorem Side.idx {R : Nat → Nat → Prop} (hR : One R) {l l' : List Nat} (h : Side R l l') (hn : l.Nodup) (hn' : l'.Nodup) {q q' : Nat} (hq : R q q') (hm : q ∈ l) : l.idxOf q = l'.idxOf q' := by
 have hi := List.idxOf_lt_length_of_mem hm
 have hl := h.len
 have := h.get _ hi
 rw [zI hi, List.getElem_idxOf, zI (show l.idxOf q < l'.length by omega)] at this
 have e := hR.l hq this
 have hm' := (h.mem hR hq).1 hm
 have hi' := List.idxOf_lt_length_of_mem hm'
 have e2 : l'[l'.idxOf q'] = l'[l.idxOf q]'(by omega) := by rw [List.getElem_idxOf]; exact e
 exact ((List.getElem_inj hn').1 e2).symm
section
variable {x x' : DfaV} {n n' k : Nat} {R : Nat → Nat → Prop}
theorem side_row (hR : One R) (hs : ∀ {q q' a}, R q q' → a < k → R (nx x q a) (nx x' q' a)) {l l' : List Nat} (h : Side R l l') {i : Nat} (hi : i < l.length) : ∀ a, a ≤ k → Side R (vI x l i a) (vI x' l' i a)
 | 0, _ => h
 | a + 1, ha => (side_row hR hs h hi a (by omega)).add hR (hs (h.get i hi) (by omega))
theorem side_go (hR : One R) (hs : ∀ {q q' a}, R q q' → a < k → R (nx x q a) (nx x' q' a)) : ∀ f i {l l' : List Nat}, Side R l l' → Side R (rV x k f i l) (rV x' k f i l')
 | 0, _, _, _, h => h
 | f + 1, i, l, l', h => by
  rw [rV, rV, h.len]
  by_cases e : i < l'.length
  ·rw [if_pos e, if_pos e]
   exact side_go hR hs f (i + 1) (side_row hR hs h (by rw [h.len]; exact e) k (Nat.le_refl _))
  ·rw [if_neg e, if_neg e]; exact h
end
theorem accGo_more {d : DfaV} {n k : Nat} (hd : VD d n k) : ∀ f i l m, AccI d n k i l → n ≤ i + f → rV d k (f + m) i l = rV d k f i l
 | 0, i, l, m, h, hf => by
  have hl := kL h.nd h.lt
  rw [accGo_end (f := 0 + m) (by omega), rV]
 | f + 1, i, l, m, h, hf => by
  rw [show f + 1 + m = (f + m) + 1 by omega, rV, rV]
  by_cases e : i < l.length
  ·rw [if_pos e, if_pos e]
   exact accGo_more hd f (i + 1) _ m (h.row hd e) (by omega)
  ·rw [if_neg e, if_neg e]
theorem access_more {d : DfaV} {n k : Nat} (hd : VD d n k) (m : Nat) : rV d k (n + m) 0 [st0 d] = zX d k := by
 rw [zX, hd.hn]
 exact accGo_more hd n 0 _ m (AccI.start hd) (by omega)
theorem trim_congr {x x' : DfaV} {n n' k : Nat} (hx : VD x n k) (hx' : VD x' n' k) (hr : ∀ {c c'}, c < n → c' < n → (∀ w, yD k w → acc x c w = acc x c' w) → c = c') (hr' : ∀ {c c'}, c < n' → c' < n' → (∀ w, yD k w → acc x' c w = acc x' c' w) → c = c')
  (hl : ∀ w, yD k w → acc x (st0 x) w = acc x' (st0 x') w) : xV x k = xV x' k := by
 obtain ⟨R, hRd⟩ : ∃ R : Nat → Nat → Prop, ∀ q q', R q q' ↔ q < n ∧ q' < n' ∧ ∀ w, yD k w → acc x q w = acc x' q' w := ⟨fun q q' => q < n ∧ q' < n' ∧ ∀ w, yD k w → acc x q w = acc x' q' w, fun _ _ => Iff.rfl⟩
 have hR : One R := by
  refine ⟨fun {q q' r'} h1 h2 => ?_, fun {q r q'} h1 h2 => ?_⟩
  ·obtain ⟨_, h3, h4⟩ := (hRd _ _).1 h1
   obtain ⟨_, h5, h6⟩ := (hRd _ _).1 h2
   exact hr' h3 h5 (fun w hw => (h4 w hw).symm.trans (h6 w hw))
  ·obtain ⟨h3, _, h4⟩ := (hRd _ _).1 h1
   obtain ⟨h5, _, h6⟩ := (hRd _ _).1 h2
   exact hr h3 h5 (fun w hw => (h4 w hw).trans (h6 w hw).symm)
 have hs : ∀ {q q' a}, R q q' → a < k → R (nx x q a) (nx x' q' a) := fun {q q' a} h ha => by
  obtain ⟨h1, h2, h3⟩ := (hRd _ _).1 h
  exact (hRd _ _).2 ⟨kF hx h1 ha, kF hx' h2 ha, fun w hw => h3 (a :: w) (fun b hb => by
   rcases List.mem_cons.1 hb with rfl | hb
   ·exact ha
   ·exact hw b hb)⟩
 have h0 : R (st0 x) (st0 x') := (hRd _ _).2 ⟨pF hx, pF hx', hl⟩
 have hside : Side R (zX x k) (zX x' k) := by
  have := side_go (x := x) (x' := x') (k := k) hR hs (n + n') 0 (Side.snoc .nil h0)
  rw [List.nil_append, List.nil_append, access_more hx n'] at this
  rw [Nat.add_comm n n', access_more hx' n] at this
  exact this
 have hA := (xL hx).1
 have hA' := (xL hx').1
 have hlen := hside.len
 have hm : ∀ i, i < (zX x k).length → (zX x k).getD i 0 ∈ zX x k := fun i hi => by rw [zI hi]; exact List.getElem_mem _
 have key : ∀ i, i < (zX x k).length → (xV x k).final.getD i false = (xV x' k).final.getD i false := fun i hi => by
  rw [mO hx hi, mO hx' (by omega)]
  obtain ⟨_, _, h⟩ := (hRd _ _).1 (hside.get i hi)
  exact h [] (fun a ha => by simp at ha)
 have hv := oV hx
 have hv' := oV hx'
 have e1 : (xV x k).letters = (xV x' k).letters := hx.hk.trans hx'.hk.symm
 have e3 : (xV x k).final = (xV x' k).final := by
  refine List.ext_getElem (by rw [hv.hn, hv'.hn, hlen]) fun i h1 h2 => ?_
  have := key i (by rw [hv.hn] at h1; exact h1)
  rw [zI h1, zI h2] at this
  exact this
 have e4 : (xV x k).next = (xV x' k).next := by
  refine List.ext_getElem (by rw [hv.nl, hv'.nl, hlen]) fun i h1 h2 => ?_
  have hi : i < (zX x k).length := by rw [hv.nl] at h1; exact h1
  have r1 := hv.row i hi
  have r2 := hv'.row i (by omega)
  rw [zI h1] at r1
  rw [zI h2] at r2
  refine List.ext_getElem (by rw [r1, r2]) fun a h3 h4 => ?_
  have ha : a < k := by omega
  have t1 := nT hx hi ha
  have t2 := nT hx' (show i < (zX x' k).length by omega) ha
  have hq := hside.get i hi
  have hle := (xL hx).2
  have hcl := hA.cl i a (by omega) hi ha
  rw [hside.idx hR hA.nd hA'.nd (hs hq ha) hcl, ← t2] at t1
  unfold ent at t1
  rw [zI h1, zI h2, zI h3, zI h4] at t1
  exact t1
 show (⟨_, 0, (xV x k).final, (xV x k).next⟩ : DfaV) = ⟨_, 0, (xV x' k).final, (xV x' k).next⟩
 rw [e3, e4]
 exact congrArg (fun z => (⟨z, 0, (xV x' k).final, (xV x' k).next⟩ : DfaV)) e1
theorem min_congr {d d' : DfaV} {n n' k : Nat} (hd : VD d n k) (hd' : VD d' n' k) (h : ∀ w, yD k w → acc d (st0 d) w = acc d' (st0 d') w) : minD d k = minD d' k := by
 refine trim_congr (nX hd) (nX hd') (fun h1 h2 => quot_red hd h1 h2) (fun h1 h2 => quot_red hd' h1 h2) fun w hw => ?_
 rw [quot_st0, quot_st0, nW hd (pF hd) hw, nW hd' (pF hd') hw]
 exact h w hw
theorem min_trim {d : DfaV} {n k : Nat} (hd : VD d n k) : minD (xV d k) k = minD d k := min_congr (oV hd) hd (fun w hw => by rw [show st0 (xV d k) = 0 from rfl]; exact trim_acc hd hw)
end Go.Proofs.Ytjfdomfendbhfaa
namespace Go.Proofs.Ytjfdomfendbhfaa
section
variable {α : Type} (nxt : α → Nat → α) (k : Nat) (s0 : α)
def rX (x : α) (w : List Nat) : α := w.foldl nxt x
structure BfsI (l : List α) (i a : Nat) : Prop where
 nd : l.Nodup
 hd : l[0]? = some s0
 le : i ≤ l.length
 cl : ∀ j x, j < i → l[j]? = some x → ∀ b, b < k → nxt x b ∈ l
 row : ∀ x, l[i]? = some x → ∀ b, b < a → b < k → nxt x b ∈ l
 re : ∀ x ∈ l, ∃ w, yD k w ∧ rX nxt s0 w = x
variable {nxt k s0}
theorem BfsI.start : BfsI nxt k s0 [s0] 0 0 :=
 ⟨by simp, rfl, by simp, fun j x h => by omega, fun x _ b hb => by omega, fun x hx => ⟨[], fun a ha => by simp at ha, by simp at hx; exact hx.symm⟩⟩
theorem BfsI.old {l : List α} {i a : Nat} (h : BfsI nxt k s0 l i a) {x : α} (hx : l[i]? = some x) (hm : nxt x a ∈ l) : BfsI nxt k s0 l i (a + 1) :=
 ⟨h.nd, h.hd, h.le, h.cl, fun y hy b hb hbk => by
  rcases Nat.lt_succ_iff_lt_or_eq.1 hb with hb | rfl
  ·exact h.row y hy b hb hbk
  ·rw [hx] at hy; rw [← Option.some.inj hy]; exact hm, h.re⟩
theorem BfsI.new {l : List α} {i a : Nat} (h : BfsI nxt k s0 l i a) (ha : a < k) {x : α} (hx : l[i]? = some x) (hm : nxt x a ∉ l) : BfsI nxt k s0 (l ++ [nxt x a]) i (a + 1) := by
 have hi : i < l.length := (List.getElem?_eq_some_iff.1 hx).1
 have hget : ∀ j, j < l.length → (l ++ [nxt x a])[j]? = l[j]? := fun j hj => List.getElem?_append_left hj
 refine ⟨?_, ?_, by simp; omega, fun j y hj hy b hb => ?_, fun y hy b hb hbk => ?_, fun y hy => ?_⟩
 ·rw [List.nodup_append]
  exact ⟨h.nd, by simp, fun y hy z hz e => by simp at hz; subst hz; subst e; exact hm hy⟩
 ·rw [hget 0 (by omega)]; exact h.hd
 ·rw [hget j (by omega)] at hy
  exact List.mem_append_left _ (h.cl j y hj hy b hb)
 ·rw [hget i hi] at hy
  rcases Nat.lt_succ_iff_lt_or_eq.1 hb with hb | rfl
  ·exact List.mem_append_left _ (h.row y hy b hb hbk)
  ·rw [hx] at hy; rw [← Option.some.inj hy]; simp
 ·rcases List.mem_append.1 hy with hy | hy
  ·exact h.re y hy
  ·simp at hy
   subst hy
   obtain ⟨w, hw, e⟩ := h.re x (List.mem_of_getElem? hx)
   refine ⟨w ++ [a], fun b hb => ?_, ?_⟩
   ·rcases List.mem_append.1 hb with hb | hb
    ·exact hw b hb
    ·simp at hb; omega
   ·simp [rX] at e ⊢; rw [e]
theorem BfsI.next {l : List α} {i : Nat} (h : BfsI nxt k s0 l i k) (hi : i < l.length) : BfsI nxt k s0 l (i + 1) 0 :=
 ⟨h.nd, h.hd, hi, fun j x hj hx b hb => by
  rcases Nat.lt_succ_iff_lt_or_eq.1 hj with hj | rfl
  ·exact h.cl j x hj hx b hb
  ·exact h.row x hx b hb hb, fun x _ b hb => by omega, h.re⟩
structure BfsD (nxt : α → Nat → α) (k : Nat) (s0 : α) (l : List α) : Prop where
 nd : l.Nodup
 hd : l[0]? = some s0
 cl : ∀ x ∈ l, ∀ b, b < k → nxt x b ∈ l
 re : ∀ x ∈ l, ∃ w, yD k w ∧ rX nxt s0 w = x
theorem BfsI.done {l : List α} {i : Nat} (h : BfsI nxt k s0 l i 0) (hi : ¬ i < l.length) : BfsD nxt k s0 l :=
 ⟨h.nd, h.hd, fun x hx b hb => by
  obtain ⟨j, hj, e⟩ := List.getElem_of_mem hx
  exact h.cl j x (by omega) (by rw [List.getElem?_eq_getElem hj, e]) b hb, h.re⟩
theorem BfsD.all {l : List α} (h : BfsD nxt k s0 l) : ∀ (w : List Nat) {x : α}, x ∈ l → yD k w → rX nxt x w ∈ l
 | [], x, hx, _ => hx
 | a :: w, x, hx, hw => BfsD.all h w (h.cl x hx a (hw a (by simp))) (fun b hb => hw b (List.mem_cons_of_mem _ hb))
theorem BfsD.mem0 {l : List α} (h : BfsD nxt k s0 l) : s0 ∈ l := List.mem_of_getElem? h.hd
theorem BfsD.sub {l : List α} (h : BfsD nxt k s0 l) {m : List α} (hm : m.Nodup) (hr : ∀ x ∈ m, ∃ w, yD k w ∧ rX nxt s0 w = x) : m.length ≤ l.length :=
 hm.length_le_of_subset fun x hx => by
  obtain ⟨w, hw, rfl⟩ := hr x hx
  exact h.all w h.mem0 hw
def bfsRow {α : Type} [BEq α] (nxt : α → Nat → α) (k : Nat) (l : List α) (x : α) : List Int := (List.range k).map fun a => ((l.idxOf (nxt x a) : Nat) : Int)
def bfsA {α : Type} [BEq α] (nxt : α → Nat → α) (k : Nat) (fin : α → Bool) (l : List α) : DfaV := ⟨k, 0, l.map fin, l.map (bfsRow nxt k l)⟩
variable {fin : α → Bool}
theorem mJ [BEq α] {l : List α} {i : Nat} (hi : i < l.length) : (bfsA nxt k fin l).next.getD i [] = bfsRow nxt k l l[i] := by
 show (l.map (bfsRow nxt k l)).getD i [] = _
 rw [zI (by simpa using hi)]; simp
theorem bfsA_nx [BEq α] {l : List α} {i a : Nat} (hi : i < l.length) (ha : a < k) : nx (bfsA nxt k fin l) i a = l.idxOf (nxt l[i] a) := by
 unfold nx entN ent
 rw [mJ hi, bfsRow, zI (by simpa using ha)]
 simp
theorem BfsD.vd [BEq α] [LawfulBEq α] {l : List α} (h : BfsD nxt k s0 l) (h1 : 1 ≤ k) (h6 : k ≤ 6) (hl : l.length ≤ 4194304) : VD (bfsA nxt k fin l) l.length k := by
 have h0 : 0 < l.length := (List.getElem?_eq_some_iff.1 h.hd).1
 have hr : ∀ q, q < l.length → ((bfsA nxt k fin l).next.getD q []).length = k := fun q hq => by rw [mJ hq]; simp [bfsRow]
 refine ⟨rfl, h1, h6, by simp [bfsA], h0, hl, by simp [bfsA], by show (0 : Int) ≤ 0; omega, by show (0 : Int) < _; omega, hr, fun q a hq ha => ?_, fun q a hq ha => ?_⟩
 ·unfold ent
  rw [mJ hq, bfsRow, zI (by simpa using ha)]
  simp
 ·unfold ent
  rw [mJ hq, bfsRow, zI (by simpa using ha)]
  simp only [List.getElem_map, List.getElem_range]
  have := List.idxOf_lt_length_of_mem (h.cl l[q] (List.getElem_mem hq) a ha)
  omega
theorem BfsD.run [BEq α] [LawfulBEq α] {l : List α} (h : BfsD nxt k s0 l) : ∀ (w : List Nat) {i : Nat} (hi : i < l.length), yD k w → Go.Proofs.Ytjfdomfendbhfaa.run (bfsA nxt k fin l) i w = l.idxOf (rX nxt l[i] w)
 | [], i, hi, _ => by
  show i = l.idxOf l[i]
  exact (h.nd.idxOf_getElem i hi).symm
 | a :: w, i, hi, hw => by
  have ha := hw a (by simp)
  have hm := h.cl l[i] (List.getElem_mem hi) a ha
  have hj := List.idxOf_lt_length_of_mem hm
  show Go.Proofs.Ytjfdomfendbhfaa.run (bfsA nxt k fin l) (nx (bfsA nxt k fin l) i a) w = _
  rw [bfsA_nx hi ha, BfsD.run h w hj (fun b hb => hw b (List.mem_cons_of_mem _ hb)), List.getElem_idxOf]
  rfl
theorem BfsD.acc [BEq α] [LawfulBEq α] {l : List α} (h : BfsD nxt k s0 l) {w : List Nat} (hw : yD k w) : Go.Proofs.Ytjfdomfendbhfaa.acc (bfsA nxt k fin l) (st0 (bfsA nxt k fin l)) w = fin (rX nxt s0 w) := by
 obtain ⟨h0, e⟩ := List.getElem?_eq_some_iff.1 h.hd
 show (l.map fin).getD (Go.Proofs.Ytjfdomfendbhfaa.run (bfsA nxt k fin l) 0 w) false = _
 rw [h.run w h0 hw, e]
 have hm := h.all w h.mem0 hw
 have hj := List.idxOf_lt_length_of_mem hm
 rw [zI (by simpa using hj)]
 simp [List.getElem_map]
end
end Go.Proofs.Ytjfdomfendbhfaa
namespace Go.Proofs.Ytjfdomfendbhfaa
def nxtT (ds : List DfaV) (x : List Nat) (a : Nat) : List Nat := (List.range ds.length).map fun i => nx (ds.getD i ⟨0, 0, [], []⟩) (x.getD i 0) a
def st0T (ds : List DfaV) : List Nat := ds.map st0
def dN : DfaV := ⟨0, 0, [], []⟩
theorem nC (ds : List DfaV) (x : List Nat) (a : Nat) : (nxtT ds x a).length = ds.length := by simp [nxtT]
theorem qI (ds : List DfaV) : (st0T ds).length = ds.length := by simp [st0T]
theorem nxtT_get {ds : List DfaV} {x : List Nat} {a i : Nat} (hi : i < ds.length) : (nxtT ds x a).getD i 0 = nx (ds.getD i dN) (x.getD i 0) a := by
 rw [zI (by rw [nC]; exact hi)]
 simp [nxtT, dN]
theorem st0T_get {ds : List DfaV} {i : Nat} (hi : i < ds.length) : (st0T ds).getD i 0 = st0 (ds.getD i dN) := by
 rw [zI (by rw [qI]; exact hi), zI hi]; simp [st0T]
theorem walkT_get {ds : List DfaV} {i : Nat} (hi : i < ds.length) : ∀ (w : List Nat) (x : List Nat), (rX (nxtT ds) x w).getD i 0 = run (ds.getD i dN) (x.getD i 0) w
 | [], x => rfl
 | a :: w, x => by
  show (rX (nxtT ds) (nxtT ds x a) w).getD i 0 = run (ds.getD i dN) (nx (ds.getD i dN) (x.getD i 0) a) w
  rw [walkT_get hi w, nxtT_get hi]
def accT (ds : List DfaV) (x : List Nat) (i : Nat) : Bool := (ds.getD i dN).final.getD (x.getD i 0) false
theorem wY {ds : List DfaV} {i : Nat} (hi : i < ds.length) (w : List Nat) : accT ds (rX (nxtT ds) (st0T ds) w) i = acc (ds.getD i dN) (st0 (ds.getD i dN)) w := by
 unfold accT acc
 rw [walkT_get hi, st0T_get hi]
def OkT (ds : List DfaV) (k : Nat) : Prop := ∀ i, i < ds.length → ∃ n, VD (ds.getD i dN) n k ∧ n ≤ 512
def InT (ds : List DfaV) (x : List Nat) : Prop := x.length = ds.length ∧ ∀ i, i < ds.length → x.getD i 0 < (ds.getD i dN).final.length
theorem OkT.in0 {ds : List DfaV} {k : Nat} (h : OkT ds k) : InT ds (st0T ds) := ⟨qI ds, fun i hi => by
 obtain ⟨n, hv, _⟩ := h i hi
 rw [st0T_get hi, hv.hn]; exact pF hv⟩
theorem OkT.next {ds : List DfaV} {k : Nat} (h : OkT ds k) {x : List Nat} (hx : InT ds x) {a : Nat} (ha : a < k) : InT ds (nxtT ds x a) := ⟨nC ds x a, fun i hi => by
 obtain ⟨n, hv, _⟩ := h i hi
 have h1 := hx.2 i hi
 rw [hv.hn] at h1 ⊢
 rw [nxtT_get hi]; exact kF hv h1 ha⟩
theorem OkT.small {ds : List DfaV} {k : Nat} (h : OkT ds k) {x : List Nat} (hx : InT ds x) : ∀ i, i < ds.length → x.getD i 0 < 512 := fun i hi => by
 obtain ⟨n, hv, h5⟩ := h i hi
 have h1 := hx.2 i hi
 rw [hv.hn] at h1; omega
theorem OkT.walk {ds : List DfaV} {k : Nat} (h : OkT ds k) : ∀ (w : List Nat) {x : List Nat}, InT ds x → yD k w → InT ds (rX (nxtT ds) x w)
 | [], x, hx, _ => hx
 | a :: w, x, hx, hw => OkT.walk h w (h.next hx (hw a (by simp))) (fun b hb => hw b (List.mem_cons_of_mem _ hb))
def Under (ds : List DfaV) (k : Nat) : Prop := ∃ l, BfsD (nxtT ds) k (st0T ds) l ∧ l.length ≤ 4000
def Over (ds : List DfaV) (k : Nat) : Prop := ∃ l : List (List Nat), l.Nodup ∧ (∀ x ∈ l, ∃ w, yD k w ∧ rX (nxtT ds) (st0T ds) w = x) ∧ 4000 < l.length
theorem under_over {ds : List DfaV} {k : Nat} (h : Under ds k) (h' : Over ds k) : False := by
 obtain ⟨l, hl, h1⟩ := h
 obtain ⟨m, hm, hr, h2⟩ := h'
 have := hl.sub hm hr
 omega
theorem BfsI.over {ds : List DfaV} {k i a : Nat} {l : List (List Nat)} (h : BfsI (nxtT ds) k (st0T ds) l i a) (hl : l.length = 4000) (ha : a < k) {x : List Nat} (hx : l[i]? = some x) (hm : nxtT ds x a ∉ l) : Over ds k := by
 have := h.new ha hx hm
 exact ⟨_, this.nd, this.re, by simp; omega⟩
def Conf (ds : List DfaV) (np k : Nat) : Prop := ∃ u v, yD k u ∧ yD k v ∧ (∀ i, i < np → acc (ds.getD i dN) (st0 (ds.getD i dN)) u = acc (ds.getD i dN) (st0 (ds.getD i dN)) v) ∧ acc (ds.getD np dN) (st0 (ds.getD np dN)) u = true ∧ acc (ds.getD np dN) (st0 (ds.getD np dN)) v = false
def mtsT (ds : List DfaV) (np : Nat) (x : List Nat) : List Bool := (List.range np).map fun i => accT ds x i
theorem nD (ds : List DfaV) (np : Nat) (x : List Nat) : (mtsT ds np x).length = np := by simp [mtsT]
theorem kM {ds : List DfaV} {np i : Nat} {x : List Nat} (hi : i < np) : (mtsT ds np x).getD i false = accT ds x i := by
 rw [zI (by rw [nD]; exact hi)]; simp [mtsT]
theorem mtsT_eq {ds : List DfaV} {np : Nat} {x y : List Nat} : mtsT ds np x = mtsT ds np y ↔ ∀ i, i < np → accT ds x i = accT ds y i := by
 constructor
 ·intro h i hi
  rw [← kM hi, h, kM hi]
 ·intro h
  exact List.map_congr_left fun i hi => h i (List.mem_range.1 hi)
theorem kP {ds : List DfaV} {np k : Nat} (hn : np < ds.length) {l : List (List Nat)} (h : BfsD (nxtT ds) k (st0T ds) l) :
  Conf ds np k ↔ ∃ x y, x ∈ l ∧ y ∈ l ∧ mtsT ds np x = mtsT ds np y ∧ accT ds x np = true ∧ accT ds y np = false := by
 constructor
 ·rintro ⟨u, v, hu, hv, h1, h2, h3⟩
  refine ⟨_, _, h.all u h.mem0 hu, h.all v h.mem0 hv, mtsT_eq.2 fun i hi => ?_, ?_, ?_⟩
  ·rw [wY (by omega), wY (by omega)]; exact h1 i hi
  ·rw [wY hn]; exact h2
  ·rw [wY hn]; exact h3
 ·rintro ⟨x, y, hx, hy, h1, h2, h3⟩
  obtain ⟨u, hu, rfl⟩ := h.re x hx
  obtain ⟨v, hv, rfl⟩ := h.re y hy
  refine ⟨u, v, hu, hv, fun i hi => ?_, ?_, ?_⟩
  ·have := mtsT_eq.1 h1 i hi
   rwa [wY (by omega), wY (by omega)] at this
  ·rwa [wY hn] at h2
  ·rwa [wY hn] at h3
end Go.Proofs.Ytjfdomfendbhfaa
