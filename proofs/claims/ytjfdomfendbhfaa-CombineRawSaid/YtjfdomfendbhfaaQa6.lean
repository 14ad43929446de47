/- Part 6 of the proof: MinPlain. -/
import Derived.Test.YtjfdomfendbhfaaQa5
set_option linter.unusedVariables false
set_option linter.unusedSimpArgs false
namespace Go.Proofs.Ytjfdomfendbhfaa
theorem jP (p : List Nat) : cls p ≤ p.length := uC p
theorem kZ (d : DfaV) : Norm (nN d) := lG _
def yG (d : DfaV) (k : Nat) : Nat → List Nat
 | 0 => nN d
 | m + 1 => tC d (yG d k m) k
theorem yM (d : DfaV) (k : Nat) : ∀ m, (yG d k m).length = d.final.length
 | 0 => oZ d
 | m + 1 => by rw [yG, yU, yM d k m]
theorem wS (d : DfaV) (k : Nat) : ∀ m, Norm (yG d k m)
 | 0 => kZ d
 | m + 1 => oH (wS d k m) k
theorem clsIt_lt (d : DfaV) (k m : Nat) : ∀ c ∈ yG d k m, c < d.final.length := by
 have := lH (wS d k m)
 rwa [yM] at this
theorem cls_pos {p : List Nat} (h : 0 < p.length) : 0 < cls p := by
 have hm : p[0] ∈ zY p := xD.2 (List.getElem_mem h)
 exact List.length_pos_of_mem hm
theorem qX {d : DfaV} {n k : Nat} (hd : VD d n k) {p : List Nat} (hp : p.length = n) (hn : Norm p) (hne : tC d p k ≠ p) : cls p < cls (tC d p k) := by
 have hlt : ∀ c ∈ p, c < n := by have := lH hn; rwa [hp] at this
 obtain ⟨h1, h2⟩ := cls_mono (p := p) (q := tC d p k) (yU d p k) (fun i j hi hj h => ((uS hd hp hlt (by omega) (by omega) k (Nat.le_refl _)).1 h).1)
 refine Nat.lt_of_le_of_ne h1 fun e => hne ?_
 refine norm_ext (oH hn k) hn ⟨yU d p k, fun i j hi hj => ?_⟩
 rw [yU] at hi hj
 exact ⟨fun h => ((uS hd hp hlt (by omega) (by omega) k (Nat.le_refl _)).1 h).1, fun h => h2 e i j hi hj h⟩
def yH (d : DfaV) (k : Nat) : List Nat := yG d k d.final.length
theorem clsIt_fix {d : DfaV} {k m : Nat} (h : tC d (yG d k m) k = yG d k m) : ∀ j, m ≤ j → yG d k j = yG d k m
 | 0, hj => by rw [show m = 0 by omega]
 | j + 1, hj => by
  by_cases e : m = j + 1
  ·rw [e]
  ·rw [yG, clsIt_fix h j (by omega), h]
theorem qO {d : DfaV} {k m : Nat} (hm : m ≤ d.final.length) (h : tC d (yG d k m) k = yG d k m) : yH d k = yG d k m := clsIt_fix h _ hm
theorem clsIt_or {d : DfaV} {n k : Nat} (hd : VD d n k) : ∀ m, (∃ j, j ≤ m ∧ tC d (yG d k j) k = yG d k j) ∨ m < cls (yG d k m)
 | 0 => .inr (cls_pos (by rw [yM, hd.hn]; exact hd.n1))
 | m + 1 => by
  rcases clsIt_or hd m with ⟨j, hj, h⟩ | h
  ·exact .inl ⟨j, by omega, h⟩
  ·by_cases e : tC d (yG d k m) k = yG d k m
   ·exact .inl ⟨m, by omega, e⟩
   ·have := qX hd (by rw [yM, hd.hn]) (wS d k m) e
    exact .inr (by rw [yG]; omega)
theorem classesD_fix {d : DfaV} {n k : Nat} (hd : VD d n k) : tC d (yH d k) k = yH d k := by
 rcases clsIt_or hd d.final.length with ⟨j, hj, h⟩ | h
 ·rw [qO hj h, h]
 ·have := jP (yG d k d.final.length)
  rw [yM] at this
  omega
theorem xQ (d : DfaV) (k : Nat) : (yH d k).length = d.final.length := yM _ _ _
theorem uL (d : DfaV) (k : Nat) : Norm (yH d k) := wS _ _ _
theorem firsts_norm {p : List Nat} (h : Norm p) : zY p = List.range (cls p) := by
 refine List.ext_getElem (by simp [cls]) fun i h1 h2 => ?_
 rw [List.getElem_range]
 have hm := List.getElem_mem h1
 obtain ⟨q, hq, e⟩ := List.getElem_of_mem (xD.1 hm)
 have hh : (numb p)[q]'(by rw [yI]; exact hq) = p[q] := by simp only [show numb p = p from h]
 rw [sP hq, e] at hh
 have h3 := List.idxOf_lt_length_of_mem hm
 have h4 := List.getElem_idxOf h3
 have := (List.getElem_inj (vY p)).1 h4
 omega
theorem rA {p : List Nat} (h : Norm p) (k : Nat) : zY (p.take k) = List.range (cls (p.take k)) := by
 have h1 := tN p k
 rw [firsts_norm h] at h1
 obtain ⟨r, hr⟩ := h1
 refine List.ext_getElem (by simp [cls]) fun i h1 h2 => ?_
 rw [List.getElem_range]
 have : (zY (p.take k) ++ r)[i]'(by rw [List.length_append]; omega) = i := by simp only [hr, List.getElem_range]
 rwa [List.getElem_append_left h1] at this
theorem nS {p : List Nat} (h : Norm p) {q : Nat} (hq : q < p.length) : p.getD q 0 ≤ cls (p.take q) ∧ (p.getD q 0 = cls (p.take q) → cls (p.take (q + 1)) = cls (p.take q) + 1) ∧ (p.getD q 0 ≠ cls (p.take q) → cls (p.take (q + 1)) = cls (p.take q)) := by
 have h1 := rA h (q + 1)
 have e : zY (p.take (q + 1)) = yV (zY (p.take q)) p[q] := by rw [List.take_succ_eq_append_getElem hq, uW]
 have h0 := rA h q
 rw [zF hq]
 by_cases hm : p[q] ∈ zY (p.take q)
 ·have hlt : p[q] < cls (p.take q) := by rw [h0] at hm; exact List.mem_range.1 hm
  rw [uP hm] at e
  have : cls (p.take (q + 1)) = cls (p.take q) := by unfold cls; rw [e]
  exact ⟨by omega, fun h => by omega, fun _ => this⟩
 ·rw [wI hm] at e
  have hc : cls (p.take (q + 1)) = cls (p.take q) + 1 := by unfold cls; rw [e]; simp
  have hl : p[q] = cls (p.take q) := by
   rw [h1, h0, hc, List.range_succ] at e
   have := List.append_cancel_left e
   simpa using this.symm
  exact ⟨by omega, fun _ => hc, fun h => absurd hl h⟩
def vI (p : List Nat) (k : Nat) : List Nat := (List.range k).filter fun q => p.getD q 0 == cls (p.take q)
theorem wY {p : List Nat} {k : Nat} (h : p.getD k 0 = cls (p.take k)) : vI p (k + 1) = vI p k ++ [k] := by
 rw [vI, List.range_succ, List.filter_append, List.filter_cons, if_pos (beq_iff_eq.2 h)]; rfl
theorem wX {p : List Nat} {k : Nat} (h : p.getD k 0 ≠ cls (p.take k)) : vI p (k + 1) = vI p k := by
 rw [vI, List.range_succ, List.filter_append, List.filter_cons, if_neg (fun e => h (beq_iff_eq.1 e)), List.filter_nil, List.append_nil]; rfl
theorem vA {p : List Nat} (h : Norm p) : ∀ k, k ≤ p.length → (vI p k).length = cls (p.take k)
 | 0, _ => by simp [vI, cls, zY]
 | k + 1, hk => by
  obtain ⟨h0, h1, h2⟩ := nS h (show k < p.length by omega)
  have ih := vA h k (by omega)
  by_cases e : p.getD k 0 = cls (p.take k)
  ·rw [wY e, List.length_append, ih, h1 e]; rfl
  ·rw [wX e, ih, h2 e]
theorem oG {p : List Nat} (h : Norm p) : ∀ k, k ≤ p.length → ∀ c, c < cls (p.take k) → p.getD ((vI p k).getD c 0) 0 = c ∧ (vI p k).getD c 0 < k
 | 0, _, c, hc => by simp [cls, zY] at hc
 | k + 1, hk, c, hc => by
  obtain ⟨h0, h1, h2⟩ := nS h (show k < p.length by omega)
  have hl := vA h k (by omega)
  by_cases e : p.getD k 0 = cls (p.take k)
  ·rw [h1 e] at hc
   rw [wY e]
   by_cases hc' : c < cls (p.take k)
   ·have ih := oG h k (by omega) c hc'
    rw [show (vI p k ++ [k]).getD c 0 = (vI p k).getD c 0 from by simp [List.getD, List.getElem?_append_left (show c < (vI p k).length by omega)]]
    exact ⟨ih.1, by omega⟩
   ·have hc2 : c = (vI p k).length := by omega
    rw [show (vI p k ++ [k]).getD c 0 = k from by simp [List.getD, hc2]]
    exact ⟨by omega, by omega⟩
  ·rw [h2 e] at hc
   rw [wX e]
   have ih := oG h k (by omega) c hc
   exact ⟨ih.1, by omega⟩
def reps (p : List Nat) : List Nat := vI p p.length
def sC (p : List Nat) (r : List Int) : List Int := r.map fun s => ((p.getD s.toNat 0 : Nat) : Int)
def vB (d : DfaV) (p : List Nat) : DfaV :=
 ⟨d.letters, ((p.getD (st0 d) 0 : Nat) : Int), (reps p).map fun q => d.final.getD q false, (reps p).map fun q => sC p (d.next.getD q [])⟩
theorem vX {α β : Type} {l : List α} {f : α → β} {i : Nat} {x : α} {y : β} (h : i < l.length) : (l.map f).getD i y = f (l.getD i x) := by
 rw [zF (by simpa using h), zF h]; simp
theorem jF {p : List Nat} {r : List Int} {a : Nat} (h : a < r.length) : (sC p r).getD a 0 = ((p.getD (r.getD a 0).toNat 0 : Nat) : Int) := by
 rw [sC, vX (x := 0) h]
theorem uR {p : List Nat} (h : Norm p) : (reps p).length = cls p := by
 have := vA h p.length (Nat.le_refl _)
 rwa [List.take_length] at this
theorem sM {p : List Nat} (h : Norm p) {c : Nat} (hc : c < cls p) : p.getD ((reps p).getD c 0) 0 = c ∧ (reps p).getD c 0 < p.length :=
 oG h p.length (Nat.le_refl _) c (by rwa [List.take_length])
theorem uT {p : List Nat} (h : Norm p) {i : Nat} (hi : i < p.length) : p.getD i 0 < cls p := by
 have := numb_lt (l := p)
 rw [h] at this
 rw [zF hi]
 exact this _ (List.getElem_mem hi)
section
variable {d : DfaV} {n k : Nat} {p : List Nat}
theorem quot_ent (hd : VD d n k) (hp : p.length = n) (hn : Norm p) {c a : Nat} (hc : c < cls p) (ha : a < k) : ent (vB d p).next c a = ((p.getD (nx d ((reps p).getD c 0) a) 0 : Nat) : Int) := by
 have hr := sM hn hc
 unfold ent vB
 rw [vX (x := 0) (by rw [uR hn]; exact hc), jF (by rw [hd.row _ (by omega)]; exact ha)]
 rfl
theorem quot_vd (hd : VD d n k) (hp : p.length = n) (hn : Norm p) : VD (vB d p) (cls p) k where
 hk := hd.hk
 k1 := hd.k1
 k6 := hd.k6
 hn := by simp [vB, uR hn]
 n1 := cls_pos (by rw [hp]; exact hd.n1)
 nbig := Nat.le_trans (jP p) (by rw [hp]; exact hd.nbig)
 nl := by simp [vB, uR hn]
 s0 := by simp [vB]
 sn := by
  have := uT hn (i := st0 d) (by rw [hp]; exact qI hd)
  simp only [vB]
  omega
 row := fun c hc => by
  simp only [vB]
  rw [vX (x := 0) (by rw [uR hn]; exact hc)]
  have hr := sM hn hc
  rw [sC, List.length_map, hd.row _ (by omega)]
 lo := fun c a hc ha => by rw [quot_ent hd hp hn hc ha]; omega
 hi := fun c a hc ha => by
  rw [quot_ent hd hp hn hc ha]
  have hr := sM hn hc
  have := uT hn (i := nx d ((reps p).getD c 0) a) (by rw [hp]; exact nO hd (by omega) ha)
  omega
theorem quot_nx (hd : VD d n k) (hp : p.length = n) (hn : Norm p) (hst : tC d p k = p) {q a : Nat} (hq : q < n) (ha : a < k) : nx (vB d p) (p.getD q 0) a = p.getD (nx d q a) 0 := by
 have hlt : ∀ c ∈ p, c < n := by have := lH hn; rwa [hp] at this
 have hc := uT hn (i := q) (by omega)
 have hr := sM hn hc
 have h1 := uS hd hp hlt (i := (reps p).getD (p.getD q 0) 0) (j := q) (by omega) hq k (Nat.le_refl _)
 rw [hst] at h1
 have h2 := (h1.1 hr.1).2 a ha
 show (ent (vB d p).next (p.getD q 0) a).toNat = _
 rw [quot_ent hd hp hn hc ha, h2]
 simp
end
def run (d : DfaV) (q : Nat) (w : List Nat) : Nat := w.foldl (nx d) q
def yA (k : Nat) (w : List Nat) : Prop := ∀ a ∈ w, a < k
theorem run_lt {d : DfaV} {n k : Nat} (hd : VD d n k) : ∀ (w : List Nat) {q : Nat}, q < n → yA k w → run d q w < n
 | [], q, hq, _ => hq
 | a :: w, q, hq, hw => run_lt hd w (nO hd hq (hw a (by simp))) (fun b hb => hw b (by simp [hb]))
theorem run_snoc (d : DfaV) (q : Nat) (w : List Nat) (a : Nat) : run d q (w ++ [a]) = nx d (run d q w) a := by simp [run]
theorem run_append (d : DfaV) (q : Nat) (u v : List Nat) : run d q (u ++ v) = run d (run d q u) v := by simp [run]
theorem quot_run {d : DfaV} {n k : Nat} {p : List Nat} (hd : VD d n k) (hp : p.length = n) (hn : Norm p) (hst : tC d p k = p) : ∀ (w : List Nat) {q : Nat}, q < n → yA k w → run (vB d p) (p.getD q 0) w = p.getD (run d q w) 0
 | [], q, _, _ => rfl
 | a :: w, q, hq, hw => by
  have ha := hw a (by simp)
  show run (vB d p) (nx (vB d p) (p.getD q 0) a) w = p.getD (run d (nx d q a) w) 0
  rw [quot_nx hd hp hn hst hq ha]
  exact quot_run hd hp hn hst w (nO hd hq ha) (fun b hb => hw b (by simp [hb]))
def wD (d : DfaV) (l : List Nat) (i : Nat) : Nat → List Nat
 | 0 => l
 | a + 1 => yV (wD d l i a) (nx d (l.getD i 0) a)
def tW (d : DfaV) (k : Nat) : Nat → Nat → List Nat → List Nat
 | 0, _, l => l
 | f + 1, i, l => if i < l.length then tW d k f (i + 1) (wD d l i k) else l
def zS (d : DfaV) (k : Nat) : List Nat := tW d k d.final.length 0 [st0 d]
theorem vH (d : DfaV) (l : List Nat) (i : Nat) : ∀ a, l <+: wD d l i a
 | 0 => List.prefix_refl _
 | a + 1 => (vH d l i a).trans (sY _ _)
theorem nK {d : DfaV} {l : List Nat} (h : l.Nodup) (i : Nat) : ∀ a, (wD d l i a).Nodup
 | 0 => h
 | a + 1 => nJ (nK h i a)
theorem vK {d : DfaV} {l : List Nat} {i : Nat} {y : Nat} : ∀ {a}, y ∈ wD d l i a ↔ y ∈ l ∨ ∃ b, b < a ∧ y = nx d (l.getD i 0) b
 | 0 => by simp [wD]
 | a + 1 => by
  rw [wD, qC, vK, or_assoc]
  refine or_congr_right ⟨?_, ?_⟩
  ·rintro (⟨b, hb, h⟩ | h)
   ·exact ⟨b, by omega, h⟩
   ·exact ⟨a, by omega, h⟩
  ·rintro ⟨b, hb, h⟩
   rcases Nat.lt_succ_iff_lt_or_eq.1 hb with hb | rfl
   ·exact .inl ⟨b, hb, h⟩
   ·exact .inr h
structure AccI (d : DfaV) (n k i : Nat) (l : List Nat) : Prop where
 nd : l.Nodup
 lt : ∀ q ∈ l, q < n
 hd : 0 < l.length ∧ l.getD 0 0 = st0 d
 cl : ∀ j a, j < i → j < l.length → a < k → nx d (l.getD j 0) a ∈ l
 re : ∀ q ∈ l, ∃ w, yA k w ∧ run d (st0 d) w = q
theorem sU {l m : List Nat} (h : l <+: m) {i : Nat} (hi : i < l.length) : m.getD i 0 = l.getD i 0 := by
 obtain ⟨r, rfl⟩ := h
 simp [List.getD, List.getElem?_append_left hi]
theorem AccI.row {d : DfaV} {n k i : Nat} {l : List Nat} (hd : VD d n k) (h : AccI d n k i l) (hi : i < l.length) : AccI d n k (i + 1) (wD d l i k) := by
 have hp := vH d l i k
 have hle := hp.length_le
 have hil : l.getD i 0 ∈ l := by rw [zF hi]; exact List.getElem_mem _
 have hin := h.lt _ hil
 refine ⟨nK h.nd i k, fun q hq => ?_, ⟨by have := h.hd.1; omega, by rw [sU hp h.hd.1]; exact h.hd.2⟩, fun j a hj hjl ha => ?_, fun q hq => ?_⟩
 ·rcases vK.1 hq with hq | ⟨b, hb, rfl⟩
  ·exact h.lt q hq
  ·exact nO hd hin hb
 ·rw [sU hp (show j < l.length by omega)]
  rcases Nat.lt_succ_iff_lt_or_eq.1 hj with hj | rfl
  ·exact vK.2 (.inl (h.cl j a hj (by omega) ha))
  ·exact vK.2 (.inr ⟨a, ha, rfl⟩)
 ·rcases vK.1 hq with hq | ⟨b, hb, rfl⟩
  ·exact h.re q hq
  ·obtain ⟨w, hw, e⟩ := h.re _ hil
   refine ⟨w ++ [b], fun c hc => ?_, by rw [run_snoc, e]⟩
   rcases List.mem_append.1 hc with hc | hc
   ·exact hw c hc
   ·rw [List.mem_singleton] at hc; subst hc; exact hb
theorem nT {l : List Nat} {n : Nat} (h : l.Nodup) (hl : ∀ q ∈ l, q < n) : l.length ≤ n := by
 have := h.length_le_of_subset (fun q hq => List.mem_range.2 (hl q hq))
 simpa using this
theorem AccI.start {d : DfaV} {n k : Nat} (hd : VD d n k) : AccI d n k 0 [st0 d] :=
 ⟨by simp, fun q hq => by rw [List.mem_singleton] at hq; subst hq; exact qI hd, ⟨by simp, by simp⟩, fun j a hj => by omega, fun q hq => by
  rw [List.mem_singleton] at hq; subst hq; exact ⟨[], fun a ha => by simp at ha, rfl⟩⟩
theorem accGo_ok {d : DfaV} {n k : Nat} (hd : VD d n k) : ∀ f i l, AccI d n k i l → n ≤ i + f → AccI d n k n (tW d k f i l) ∧ (tW d k f i l).length ≤ n
 | 0, i, l, h, hf => by
  have hl := nT h.nd h.lt
  exact ⟨⟨h.nd, h.lt, h.hd, fun j a hj hjl ha => h.cl j a (by omega) hjl ha, h.re⟩, hl⟩
 | f + 1, i, l, h, hf => by
  rw [tW]
  split
  ·rename_i hi
   exact accGo_ok hd f (i + 1) _ (h.row hd hi) (by omega)
  ·rename_i hi
   have hl := nT h.nd h.lt
   exact ⟨⟨h.nd, h.lt, h.hd, fun j a hj hjl ha => h.cl j a (by omega) hjl ha, h.re⟩, hl⟩
theorem yW {d : DfaV} {n k : Nat} (hd : VD d n k) : AccI d n k n (zS d k) ∧ (zS d k).length ≤ n := accGo_ok hd _ _ _ (AccI.start hd) (by rw [hd.hn]; omega)
theorem accGo_end {d : DfaV} {k f i : Nat} {l : List Nat} (h : ¬ i < l.length) : tW d k f i l = l := by
 cases f with
 | zero => rfl
 | succ f => rw [tW, if_neg h]
def sO (l : List Nat) (q : Nat) : Int := if q ∈ l then (l.idxOf q : Int) else -1
def uQ (l : List Nat) (r : List Int) : List Int := r.map fun s => sO l s.toNat
def xB (d : DfaV) (k : Nat) : DfaV := ⟨d.letters, 0, (zS d k).map fun q => d.final.getD q false, (zS d k).map fun q => uQ (zS d k) (d.next.getD q [])⟩
section
variable {d : DfaV} {n k : Nat}
theorem pM (hd : VD d n k) {i a : Nat} (hi : i < (zS d k).length) (ha : a < k) : ent (xB d k).next i a = (((zS d k).idxOf (nx d ((zS d k).getD i 0) a) : Nat) : Int) := by
 have hA := (yW hd).1
 have hq := hA.lt _ (show (zS d k).getD i 0 ∈ zS d k by rw [zF hi]; exact List.getElem_mem _)
 have hn := (yW hd).2
 unfold ent xB
 rw [vX (x := 0) hi, uQ, vX (x := 0) (by rw [hd.row _ hq]; exact ha), sO, if_pos]
 ·rfl
 ·exact hA.cl i a (by omega) hi ha
theorem qU (hd : VD d n k) : VD (xB d k) (zS d k).length k where
 hk := hd.hk
 k1 := hd.k1
 k6 := hd.k6
 hn := by simp [xB]
 n1 := (yW hd).1.hd.1
 nbig := Nat.le_trans (yW hd).2 hd.nbig
 nl := by simp [xB]
 s0 := by simp [xB]
 sn := by have := (yW hd).1.hd.1; simp only [xB]; omega
 row := fun i hi => by
  have hA := (yW hd).1
  have hq := hA.lt _ (show (zS d k).getD i 0 ∈ zS d k by rw [zF hi]; exact List.getElem_mem _)
  simp only [xB]
  rw [vX (x := 0) hi, uQ, List.length_map, hd.row _ hq]
 lo := fun i a hi ha => by rw [pM hd hi ha]; omega
 hi := fun i a hi ha => by
  have hn := (yW hd).2
  rw [pM hd hi ha]
  have := List.idxOf_lt_length_of_mem ((yW hd).1.cl i a (by omega) hi ha)
  omega
theorem trim_nx (hd : VD d n k) {i a : Nat} (hi : i < (zS d k).length) (ha : a < k) : nx (xB d k) i a = (zS d k).idxOf (nx d ((zS d k).getD i 0) a) := by
 show (ent (xB d k).next i a).toNat = _
 rw [pM hd hi ha]; simp
theorem trim_run (hd : VD d n k) : ∀ (w : List Nat) {i : Nat}, i < (zS d k).length → yA k w → (zS d k).getD (run (xB d k) i w) 0 = run d ((zS d k).getD i 0) w
 | [], i, _, _ => rfl
 | a :: w, i, hi, hw => by
  have ha := hw a (by simp)
  have hn := (yW hd).2
  have hm := (yW hd).1.cl i a (by omega) hi ha
  have hlt := List.idxOf_lt_length_of_mem hm
  have h := trim_run hd w (i := nx (xB d k) i a) (by rw [trim_nx hd hi ha]; exact hlt) (fun b hb => hw b (by simp [hb]))
  show (zS d k).getD (run (xB d k) (nx (xB d k) i a) w) 0 = run d (nx d ((zS d k).getD i 0) a) w
  rw [h, trim_nx hd hi ha, zF hlt, List.getElem_idxOf]
theorem oF (hd : VD d n k) {i : Nat} (hi : i < (zS d k).length) : (xB d k).final.getD i false = d.final.getD ((zS d k).getD i 0) false := by
 simp only [xB]; rw [vX (x := 0) hi]
end
def minD (d : DfaV) (k : Nat) : DfaV := xB (vB d (yH d k)) k
def minN (d : DfaV) (k : Nat) : Nat := (zS (vB d (yH d k)) k).length
section
variable {d : DfaV} {n k : Nat}
theorem pP (hd : VD d n k) : VD (vB d (yH d k)) (cls (yH d k)) k := quot_vd hd (by rw [xQ, hd.hn]) (uL d k)
theorem nC (hd : VD d n k) : VD (minD d k) (minN d k) k := qU (pP hd)
theorem minN_le (hd : VD d n k) : minN d k ≤ n := Nat.le_trans (yW (pP hd)).2 (Nat.le_trans (jP _) (by rw [xQ, hd.hn]; exact Nat.le_refl _))
end
end Go.Proofs.Ytjfdomfendbhfaa
