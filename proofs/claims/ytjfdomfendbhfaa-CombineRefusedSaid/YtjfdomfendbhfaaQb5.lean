/- Part 5 of the proof: MinPlain. -/
import Derived.Test.YtjfdomfendbhfaaQb4
set_option linter.unusedVariables false
set_option linter.unusedSimpArgs false
namespace Go.Proofs.Ytjfdomfendbhfaa
theorem cls_le (p : List Nat) : cls p ≤ p.length := tS p
theorem part0_norm (d : DfaV) : Norm (kE d) := jP _
def yO (d : DfaV) (k : Nat) : Nat → List Nat
 | 0 => kE d
 | m + 1 => rA d (yO d k m) k
theorem yX (d : DfaV) (k : Nat) : ∀ m, (yO d k m).length = d.final.length
 | 0 => lL d
 | m + 1 => by rw [yO, xI, yX d k m]
theorem uC (d : DfaV) (k : Nat) : ∀ m, Norm (yO d k m)
 | 0 => part0_norm d
 | m + 1 => mQ (uC d k m) k
theorem clsIt_lt (d : DfaV) (k m : Nat) : ∀ c ∈ yO d k m, c < d.final.length := by
 have := jQ (uC d k m)
 rwa [yX] at this
theorem cls_pos {p : List Nat} (h : 0 < p.length) : 0 < cls p := by
 have hm : p[0] ∈ yC p := xX.2 (List.getElem_mem h)
 exact List.length_pos_of_mem hm
theorem oY {d : DfaV} {n k : Nat} (hd : VD d n k) {p : List Nat} (hp : p.length = n) (hn : Norm p) (hne : rA d p k ≠ p) : cls p < cls (rA d p k) := by
 have hlt : ∀ c ∈ p, c < n := by have := jQ hn; rwa [hp] at this
 obtain ⟨h1, h2⟩ := cls_mono (p := p) (q := rA d p k) (xI d p k) (fun i j hi hj h => ((sL hd hp hlt (by omega) (by omega) k (Nat.le_refl _)).1 h).1)
 refine Nat.lt_of_le_of_ne h1 fun e => hne ?_
 refine norm_ext (mQ hn k) hn ⟨xI d p k, fun i j hi hj => ?_⟩
 rw [xI] at hi hj
 exact ⟨fun h => ((sL hd hp hlt (by omega) (by omega) k (Nat.le_refl _)).1 h).1, fun h => h2 e i j hi hj h⟩
def yR (d : DfaV) (k : Nat) : List Nat := yO d k d.final.length
theorem clsIt_fix {d : DfaV} {k m : Nat} (h : rA d (yO d k m) k = yO d k m) : ∀ j, m ≤ j → yO d k j = yO d k m
 | 0, hj => by rw [show m = 0 by omega]
 | j + 1, hj => by
  by_cases e : m = j + 1
  ·rw [e]
  ·rw [yO, clsIt_fix h j (by omega), h]
theorem oR {d : DfaV} {k m : Nat} (hm : m ≤ d.final.length) (h : rA d (yO d k m) k = yO d k m) : yR d k = yO d k m := clsIt_fix h _ hm
theorem clsIt_or {d : DfaV} {n k : Nat} (hd : VD d n k) : ∀ m, (∃ j, j ≤ m ∧ rA d (yO d k j) k = yO d k j) ∨ m < cls (yO d k m)
 | 0 => .inr (cls_pos (by rw [yX, hd.hn]; exact hd.n1))
 | m + 1 => by
  rcases clsIt_or hd m with ⟨j, hj, h⟩ | h
  ·exact .inl ⟨j, by omega, h⟩
  ·by_cases e : rA d (yO d k m) k = yO d k m
   ·exact .inl ⟨m, by omega, e⟩
   ·have := oY hd (by rw [yX, hd.hn]) (uC d k m) e
    exact .inr (by rw [yO]; omega)
theorem classesD_fix {d : DfaV} {n k : Nat} (hd : VD d n k) : rA d (yR d k) k = yR d k := by
 rcases clsIt_or hd d.final.length with ⟨j, hj, h⟩ | h
 ·rw [oR hj h, h]
 ·have := cls_le (yO d k d.final.length)
  rw [yX] at this
  omega
theorem wP (d : DfaV) (k : Nat) : (yR d k).length = d.final.length := yX _ _ _
theorem sA (d : DfaV) (k : Nat) : Norm (yR d k) := uC _ _ _
theorem firsts_norm {p : List Nat} (h : Norm p) : yC p = List.range (cls p) := by
 refine List.ext_getElem (by simp [cls]) fun i h1 h2 => ?_
 rw [List.getElem_range]
 have hm := List.getElem_mem h1
 obtain ⟨q, hq, e⟩ := List.getElem_of_mem (xX.1 hm)
 have hh : (numb p)[q]'(by rw [yS]; exact hq) = p[q] := by simp only [show numb p = p from h]
 rw [qN hq, e] at hh
 have h3 := List.idxOf_lt_length_of_mem hm
 have h4 := List.getElem_idxOf h3
 have := (List.getElem_inj (tO p)).1 h4
 omega
theorem pC {p : List Nat} (h : Norm p) (k : Nat) : yC (p.take k) = List.range (cls (p.take k)) := by
 have h1 := rO p k
 rw [firsts_norm h] at h1
 obtain ⟨r, hr⟩ := h1
 refine List.ext_getElem (by simp [cls]) fun i h1 h2 => ?_
 rw [List.getElem_range]
 have : (yC (p.take k) ++ r)[i]'(by rw [List.length_append]; omega) = i := by simp only [hr, List.getElem_range]
 rwa [List.getElem_append_left h1] at this
theorem kK {p : List Nat} (h : Norm p) {q : Nat} (hq : q < p.length) : p.getD q 0 ≤ cls (p.take q) ∧ (p.getD q 0 = cls (p.take q) → cls (p.take (q + 1)) = cls (p.take q) + 1) ∧ (p.getD q 0 ≠ cls (p.take q) → cls (p.take (q + 1)) = cls (p.take q)) := by
 have h1 := pC h (q + 1)
 have e : yC (p.take (q + 1)) = xK (yC (p.take q)) p[q] := by rw [List.take_succ_eq_append_getElem hq, sT]
 have h0 := pC h q
 rw [zI hq]
 by_cases hm : p[q] ∈ yC (p.take q)
 ·have hlt : p[q] < cls (p.take q) := by rw [h0] at hm; exact List.mem_range.1 hm
  rw [sH hm] at e
  have : cls (p.take (q + 1)) = cls (p.take q) := by unfold cls; rw [e]
  exact ⟨by omega, fun h => by omega, fun _ => this⟩
 ·rw [vQ hm] at e
  have hc : cls (p.take (q + 1)) = cls (p.take q) + 1 := by unfold cls; rw [e]; simp
  have hl : p[q] = cls (p.take q) := by
   rw [h1, h0, hc, List.range_succ] at e
   have := List.append_cancel_left e
   simpa using this.symm
  exact ⟨by omega, fun _ => hc, fun h => absurd hl h⟩
def uU (p : List Nat) (k : Nat) : List Nat := (List.range k).filter fun q => p.getD q 0 == cls (p.take q)
theorem uK {p : List Nat} {k : Nat} (h : p.getD k 0 = cls (p.take k)) : uU p (k + 1) = uU p k ++ [k] := by
 rw [uU, List.range_succ, List.filter_append, List.filter_cons, if_pos (beq_iff_eq.2 h)]; rfl
theorem uJ {p : List Nat} {k : Nat} (h : p.getD k 0 ≠ cls (p.take k)) : uU p (k + 1) = uU p k := by
 rw [uU, List.range_succ, List.filter_append, List.filter_cons, if_neg (fun e => h (beq_iff_eq.1 e)), List.filter_nil, List.append_nil]; rfl
theorem uL {p : List Nat} (h : Norm p) : ∀ k, k ≤ p.length → (uU p k).length = cls (p.take k)
 | 0, _ => by simp [uU, cls, yC]
 | k + 1, hk => by
  obtain ⟨h0, h1, h2⟩ := kK h (show k < p.length by omega)
  have ih := uL h k (by omega)
  by_cases e : p.getD k 0 = cls (p.take k)
  ·rw [uK e, List.length_append, ih, h1 e]; rfl
  ·rw [uJ e, ih, h2 e]
theorem mP {p : List Nat} (h : Norm p) : ∀ k, k ≤ p.length → ∀ c, c < cls (p.take k) → p.getD ((uU p k).getD c 0) 0 = c ∧ (uU p k).getD c 0 < k
 | 0, _, c, hc => by simp [cls, yC] at hc
 | k + 1, hk, c, hc => by
  obtain ⟨h0, h1, h2⟩ := kK h (show k < p.length by omega)
  have hl := uL h k (by omega)
  by_cases e : p.getD k 0 = cls (p.take k)
  ·rw [h1 e] at hc
   rw [uK e]
   by_cases hc' : c < cls (p.take k)
   ·have ih := mP h k (by omega) c hc'
    rw [show (uU p k ++ [k]).getD c 0 = (uU p k).getD c 0 from by simp [List.getD, List.getElem?_append_left (show c < (uU p k).length by omega)]]
    exact ⟨ih.1, by omega⟩
   ·have hc2 : c = (uU p k).length := by omega
    rw [show (uU p k ++ [k]).getD c 0 = k from by simp [List.getD, hc2]]
    exact ⟨by omega, by omega⟩
  ·rw [h2 e] at hc
   rw [uJ e]
   have ih := mP h k (by omega) c hc
   exact ⟨ih.1, by omega⟩
def reps (p : List Nat) : List Nat := uU p p.length
def rZ (p : List Nat) (r : List Int) : List Int := r.map fun s => ((p.getD s.toNat 0 : Nat) : Int)
def uM (d : DfaV) (p : List Nat) : DfaV :=
 ⟨d.letters, ((p.getD (st0 d) 0 : Nat) : Int), (reps p).map fun q => d.final.getD q false, (reps p).map fun q => rZ p (d.next.getD q [])⟩
theorem tN {α β : Type} {l : List α} {f : α → β} {i : Nat} {x : α} {y : β} (h : i < l.length) : (l.map f).getD i y = f (l.getD i x) := by
 rw [zI (by simpa using h), zI h]; simp
theorem mapRow_get {p : List Nat} {r : List Int} {a : Nat} (h : a < r.length) : (rZ p r).getD a 0 = ((p.getD (r.getD a 0).toNat 0 : Nat) : Int) := by
 rw [rZ, tN (x := 0) h]
theorem sJ {p : List Nat} (h : Norm p) : (reps p).length = cls p := by
 have := uL h p.length (Nat.le_refl _)
 rwa [List.take_length] at this
theorem qK {p : List Nat} (h : Norm p) {c : Nat} (hc : c < cls p) : p.getD ((reps p).getD c 0) 0 = c ∧ (reps p).getD c 0 < p.length :=
 mP h p.length (Nat.le_refl _) c (by rwa [List.take_length])
theorem sM {p : List Nat} (h : Norm p) {i : Nat} (hi : i < p.length) : p.getD i 0 < cls p := by
 have := numb_lt (l := p)
 rw [h] at this
 rw [zI hi]
 exact this _ (List.getElem_mem hi)
section
variable {d : DfaV} {n k : Nat} {p : List Nat}
theorem quot_ent (hd : VD d n k) (hp : p.length = n) (hn : Norm p) {c a : Nat} (hc : c < cls p) (ha : a < k) : ent (uM d p).next c a = ((p.getD (nx d ((reps p).getD c 0) a) 0 : Nat) : Int) := by
 have hr := qK hn hc
 unfold ent uM
 rw [tN (x := 0) (by rw [sJ hn]; exact hc), mapRow_get (by rw [hd.row _ (by omega)]; exact ha)]
 rfl
theorem quot_vd (hd : VD d n k) (hp : p.length = n) (hn : Norm p) : VD (uM d p) (cls p) k where
 hk := hd.hk
 k1 := hd.k1
 k6 := hd.k6
 hn := by simp [uM, sJ hn]
 n1 := cls_pos (by rw [hp]; exact hd.n1)
 nbig := Nat.le_trans (cls_le p) (by rw [hp]; exact hd.nbig)
 nl := by simp [uM, sJ hn]
 s0 := by simp [uM]
 sn := by
  have := sM hn (i := st0 d) (by rw [hp]; exact pF hd)
  simp only [uM]
  omega
 row := fun c hc => by
  simp only [uM]
  rw [tN (x := 0) (by rw [sJ hn]; exact hc)]
  have hr := qK hn hc
  rw [rZ, List.length_map, hd.row _ (by omega)]
 lo := fun c a hc ha => by rw [quot_ent hd hp hn hc ha]; omega
 hi := fun c a hc ha => by
  rw [quot_ent hd hp hn hc ha]
  have hr := qK hn hc
  have := sM hn (i := nx d ((reps p).getD c 0) a) (by rw [hp]; exact kF hd (by omega) ha)
  omega
theorem quot_nx (hd : VD d n k) (hp : p.length = n) (hn : Norm p) (hst : rA d p k = p) {q a : Nat} (hq : q < n) (ha : a < k) : nx (uM d p) (p.getD q 0) a = p.getD (nx d q a) 0 := by
 have hlt : ∀ c ∈ p, c < n := by have := jQ hn; rwa [hp] at this
 have hc := sM hn (i := q) (by omega)
 have hr := qK hn hc
 have h1 := sL hd hp hlt (i := (reps p).getD (p.getD q 0) 0) (j := q) (by omega) hq k (Nat.le_refl _)
 rw [hst] at h1
 have h2 := (h1.1 hr.1).2 a ha
 show (ent (uM d p).next (p.getD q 0) a).toNat = _
 rw [quot_ent hd hp hn hc ha, h2]
 simp
end
def run (d : DfaV) (q : Nat) (w : List Nat) : Nat := w.foldl (nx d) q
def yD (k : Nat) (w : List Nat) : Prop := ∀ a ∈ w, a < k
theorem run_lt {d : DfaV} {n k : Nat} (hd : VD d n k) : ∀ (w : List Nat) {q : Nat}, q < n → yD k w → run d q w < n
 | [], q, hq, _ => hq
 | a :: w, q, hq, hw => run_lt hd w (kF hd hq (hw a (by simp))) (fun b hb => hw b (by simp [hb]))
theorem run_snoc (d : DfaV) (q : Nat) (w : List Nat) (a : Nat) : run d q (w ++ [a]) = nx d (run d q w) a := by simp [run]
theorem run_append (d : DfaV) (q : Nat) (u v : List Nat) : run d q (u ++ v) = run d (run d q u) v := by simp [run]
theorem quot_run {d : DfaV} {n k : Nat} {p : List Nat} (hd : VD d n k) (hp : p.length = n) (hn : Norm p) (hst : rA d p k = p) : ∀ (w : List Nat) {q : Nat}, q < n → yD k w → run (uM d p) (p.getD q 0) w = p.getD (run d q w) 0
 | [], q, _, _ => rfl
 | a :: w, q, hq, hw => by
  have ha := hw a (by simp)
  show run (uM d p) (nx (uM d p) (p.getD q 0) a) w = p.getD (run d (nx d q a) w) 0
  rw [quot_nx hd hp hn hst hq ha]
  exact quot_run hd hp hn hst w (kF hd hq ha) (fun b hb => hw b (by simp [hb]))
def vI (d : DfaV) (l : List Nat) (i : Nat) : Nat → List Nat
 | 0 => l
 | a + 1 => xK (vI d l i a) (nx d (l.getD i 0) a)
def rV (d : DfaV) (k : Nat) : Nat → Nat → List Nat → List Nat
 | 0, _, l => l
 | f + 1, i, l => if i < l.length then rV d k f (i + 1) (vI d l i k) else l
def zX (d : DfaV) (k : Nat) : List Nat := rV d k d.final.length 0 [st0 d]
theorem uR (d : DfaV) (l : List Nat) (i : Nat) : ∀ a, l <+: vI d l i a
 | 0 => List.prefix_refl _
 | a + 1 => (uR d l i a).trans (pA _ _)
theorem lZ {d : DfaV} {l : List Nat} (h : l.Nodup) (i : Nat) : ∀ a, (vI d l i a).Nodup
 | 0 => h
 | a + 1 => lY (lZ h i a)
theorem uX {d : DfaV} {l : List Nat} {i : Nat} {y : Nat} : ∀ {a}, y ∈ vI d l i a ↔ y ∈ l ∨ ∃ b, b < a ∧ y = nx d (l.getD i 0) b
 | 0 => by simp [vI]
 | a + 1 => by
  rw [vI, oB, uX, or_assoc]
  refine or_congr_right ⟨?_, ?_⟩
  ·rintro (⟨b, hb, h⟩ | h)
   ·exact ⟨b, by omega, h⟩
   ·exact ⟨a, by omega, h⟩
  ·rintro ⟨b, hb, h⟩
   rcases Nat.lt_succ_iff_lt_or_eq.1 hb with hb | rfl
   ·exact .inl ⟨b, hb, h⟩
   ·exact .inr h
structure AccI (d : DfaV) (n k i : Nat) (l : List Nat) : Prop where
 nd : l.Nodup
 lt : ∀ q ∈ l, q < n
 hd : 0 < l.length ∧ l.getD 0 0 = st0 d
 cl : ∀ j a, j < i → j < l.length → a < k → nx d (l.getD j 0) a ∈ l
 re : ∀ q ∈ l, ∃ w, yD k w ∧ run d (st0 d) w = q
theorem qT {l m : List Nat} (h : l <+: m) {i : Nat} (hi : i < l.length) : m.getD i 0 = l.getD i 0 := by
 obtain ⟨r, rfl⟩ := h
 simp [List.getD, List.getElem?_append_left hi]
theorem AccI.row {d : DfaV} {n k i : Nat} {l : List Nat} (hd : VD d n k) (h : AccI d n k i l) (hi : i < l.length) : AccI d n k (i + 1) (vI d l i k) := by
 have hp := uR d l i k
 have hle := hp.length_le
 have hil : l.getD i 0 ∈ l := by rw [zI hi]; exact List.getElem_mem _
 have hin := h.lt _ hil
 refine ⟨lZ h.nd i k, fun q hq => ?_, ⟨by have := h.hd.1; omega, by rw [qT hp h.hd.1]; exact h.hd.2⟩, fun j a hj hjl ha => ?_, fun q hq => ?_⟩
 ·rcases uX.1 hq with hq | ⟨b, hb, rfl⟩
  ·exact h.lt q hq
  ·exact kF hd hin hb
 ·rw [qT hp (show j < l.length by omega)]
  rcases Nat.lt_succ_iff_lt_or_eq.1 hj with hj | rfl
  ·exact uX.2 (.inl (h.cl j a hj (by omega) ha))
  ·exact uX.2 (.inr ⟨a, ha, rfl⟩)
 ·rcases uX.1 hq with hq | ⟨b, hb, rfl⟩
  ·exact h.re q hq
  ·obtain ⟨w, hw, e⟩ := h.re _ hil
   refine ⟨w ++ [b], fun c hc => ?_, by rw [run_snoc, e]⟩
   rcases List.mem_append.1 hc with hc | hc
   ·exact hw c hc
   ·rw [List.mem_singleton] at hc; subst hc; exact hb
theorem kL {l : List Nat} {n : Nat} (h : l.Nodup) (hl : ∀ q ∈ l, q < n) : l.length ≤ n := by
 have := h.length_le_of_subset (fun q hq => List.mem_range.2 (hl q hq))
 simpa using this
theorem AccI.start {d : DfaV} {n k : Nat} (hd : VD d n k) : AccI d n k 0 [st0 d] :=
 ⟨by simp, fun q hq => by rw [List.mem_singleton] at hq; subst hq; exact pF hd, ⟨by simp, by simp⟩, fun j a hj => by omega, fun q hq => by
  rw [List.mem_singleton] at hq; subst hq; exact ⟨[], fun a ha => by simp at ha, rfl⟩⟩
theorem accGo_ok {d : DfaV} {n k : Nat} (hd : VD d n k) : ∀ f i l, AccI d n k i l → n ≤ i + f → AccI d n k n (rV d k f i l) ∧ (rV d k f i l).length ≤ n
 | 0, i, l, h, hf => by
  have hl := kL h.nd h.lt
  exact ⟨⟨h.nd, h.lt, h.hd, fun j a hj hjl ha => h.cl j a (by omega) hjl ha, h.re⟩, hl⟩
 | f + 1, i, l, h, hf => by
  rw [rV]
  split
  ·rename_i hi
   exact accGo_ok hd f (i + 1) _ (h.row hd hi) (by omega)
  ·rename_i hi
   have hl := kL h.nd h.lt
   exact ⟨⟨h.nd, h.lt, h.hd, fun j a hj hjl ha => h.cl j a (by omega) hjl ha, h.re⟩, hl⟩
theorem xL {d : DfaV} {n k : Nat} (hd : VD d n k) : AccI d n k n (zX d k) ∧ (zX d k).length ≤ n := accGo_ok hd _ _ _ (AccI.start hd) (by rw [hd.hn]; omega)
theorem accGo_end {d : DfaV} {k f i : Nat} {l : List Nat} (h : ¬ i < l.length) : rV d k f i l = l := by
 cases f with
 | zero => rfl
 | succ f => rw [rV, if_neg h]
def qL (l : List Nat) (q : Nat) : Int := if q ∈ l then (l.idxOf q : Int) else -1
def sI (l : List Nat) (r : List Int) : List Int := r.map fun s => qL l s.toNat
def xV (d : DfaV) (k : Nat) : DfaV := ⟨d.letters, 0, (zX d k).map fun q => d.final.getD q false, (zX d k).map fun q => sI (zX d k) (d.next.getD q [])⟩
section
variable {d : DfaV} {n k : Nat}
theorem nT (hd : VD d n k) {i a : Nat} (hi : i < (zX d k).length) (ha : a < k) : ent (xV d k).next i a = (((zX d k).idxOf (nx d ((zX d k).getD i 0) a) : Nat) : Int) := by
 have hA := (xL hd).1
 have hq := hA.lt _ (show (zX d k).getD i 0 ∈ zX d k by rw [zI hi]; exact List.getElem_mem _)
 have hn := (xL hd).2
 unfold ent xV
 rw [tN (x := 0) hi, sI, tN (x := 0) (by rw [hd.row _ hq]; exact ha), qL, if_pos]
 ·rfl
 ·exact hA.cl i a (by omega) hi ha
theorem oV (hd : VD d n k) : VD (xV d k) (zX d k).length k where
 hk := hd.hk
 k1 := hd.k1
 k6 := hd.k6
 hn := by simp [xV]
 n1 := (xL hd).1.hd.1
 nbig := Nat.le_trans (xL hd).2 hd.nbig
 nl := by simp [xV]
 s0 := by simp [xV]
 sn := by have := (xL hd).1.hd.1; simp only [xV]; omega
 row := fun i hi => by
  have hA := (xL hd).1
  have hq := hA.lt _ (show (zX d k).getD i 0 ∈ zX d k by rw [zI hi]; exact List.getElem_mem _)
  simp only [xV]
  rw [tN (x := 0) hi, sI, List.length_map, hd.row _ hq]
 lo := fun i a hi ha => by rw [nT hd hi ha]; omega
 hi := fun i a hi ha => by
  have hn := (xL hd).2
  rw [nT hd hi ha]
  have := List.idxOf_lt_length_of_mem ((xL hd).1.cl i a (by omega) hi ha)
  omega
theorem trim_nx (hd : VD d n k) {i a : Nat} (hi : i < (zX d k).length) (ha : a < k) : nx (xV d k) i a = (zX d k).idxOf (nx d ((zX d k).getD i 0) a) := by
 show (ent (xV d k).next i a).toNat = _
 rw [nT hd hi ha]; simp
theorem trim_run (hd : VD d n k) : ∀ (w : List Nat) {i : Nat}, i < (zX d k).length → yD k w → (zX d k).getD (run (xV d k) i w) 0 = run d ((zX d k).getD i 0) w
 | [], i, _, _ => rfl
 | a :: w, i, hi, hw => by
  have ha := hw a (by simp)
  have hn := (xL hd).2
  have hm := (xL hd).1.cl i a (by omega) hi ha
  have hlt := List.idxOf_lt_length_of_mem hm
  have h := trim_run hd w (i := nx (xV d k) i a) (by rw [trim_nx hd hi ha]; exact hlt) (fun b hb => hw b (by simp [hb]))
  show (zX d k).getD (run (xV d k) (nx (xV d k) i a) w) 0 = run d (nx d ((zX d k).getD i 0) a) w
  rw [h, trim_nx hd hi ha, zI hlt, List.getElem_idxOf]
theorem mO (hd : VD d n k) {i : Nat} (hi : i < (zX d k).length) : (xV d k).final.getD i false = d.final.getD ((zX d k).getD i 0) false := by
 simp only [xV]; rw [tN (x := 0) hi]
end
def minD (d : DfaV) (k : Nat) : DfaV := xV (uM d (yR d k)) k
def minN (d : DfaV) (k : Nat) : Nat := (zX (uM d (yR d k)) k).length
section
variable {d : DfaV} {n k : Nat}
theorem nX (hd : VD d n k) : VD (uM d (yR d k)) (cls (yR d k)) k := quot_vd hd (by rw [wP, hd.hn]) (sA d k)
theorem lQ (hd : VD d n k) : VD (minD d k) (minN d k) k := oV (nX hd)
theorem minN_le (hd : VD d n k) : minN d k ≤ n := Nat.le_trans (xL (nX hd)).2 (Nat.le_trans (cls_le _) (by rw [wP, hd.hn]; exact Nat.le_refl _))
end
end Go.Proofs.Ytjfdomfendbhfaa
