/- Part 7 of the proof: MinPlain. -/
import Derived.Test.YtgbfaggnnfoamaaZh6
set_option linter.unusedVariables false
set_option linter.unusedSimpArgs false
namespace Go.Proofs.Ytgbfaggnnfoamaa
theorem nD (p : List Nat) : cls p ≤ p.length := vC p
theorem lO (d : DfaV) : Norm (pJ d) := mH _
def yG (d : DfaV) (k : Nat) : Nat → List Nat
 | 0 => pJ d
 | m + 1 => wN d (yG d k m) k
theorem yI (d : DfaV) (k : Nat) : ∀ m, (yG d k m).length = d.final.length
 | 0 => sY d
 | m + 1 => by rw [yG, yM, yI d k m]
theorem wR (d : DfaV) (k : Nat) : ∀ m, Norm (yG d k m)
 | 0 => lO d
 | m + 1 => rP (wR d k m) k
theorem clsIt_lt (d : DfaV) (k m : Nat) : ∀ c ∈ yG d k m, c < d.final.length := by
 have := rA (wR d k m)
 rwa [yI] at this
theorem kO {p : List Nat} (h : 0 < p.length) : 0 < cls p := by
 have hm : p[0] ∈ zT p := xG.2 (List.getElem_mem h)
 exact List.length_pos_of_mem hm
theorem tZ {d : DfaV} {n k : Nat} (hd : VD d n k) {p : List Nat} (hp : p.length = n) (hn : Norm p) (hne : wN d p k ≠ p) : cls p < cls (wN d p k) := by
 have hlt : ∀ c ∈ p, c < n := by have := rA hn; rwa [hp] at this
 obtain ⟨h1, h2⟩ := cls_mono (p := p) (q := wN d p k) (yM d p k) (fun i j hi hj h => ((uS hd hp hlt (by omega) (by omega) k (Nat.le_refl _)).1 h).1)
 refine Nat.lt_of_le_of_ne h1 fun e => hne ?_
 refine kI (rP hn k) hn ⟨yM d p k, fun i j hi hj => ?_⟩
 rw [yM] at hi hj
 exact ⟨fun h => ((uS hd hp hlt (by omega) (by omega) k (Nat.le_refl _)).1 h).1, fun h => h2 e i j hi hj h⟩
def yK (d : DfaV) (k : Nat) : List Nat := yG d k d.final.length
theorem clsIt_fix {d : DfaV} {k m : Nat} (h : wN d (yG d k m) k = yG d k m) : ∀ j, m ≤ j → yG d k j = yG d k m
 | 0, hj => by rw [show m = 0 by omega]
 | j + 1, hj => by
  by_cases e : m = j + 1
  ·rw [e]
  ·rw [yG, clsIt_fix h j (by omega), h]
theorem tO {d : DfaV} {k m : Nat} (hm : m ≤ d.final.length) (h : wN d (yG d k m) k = yG d k m) : yK d k = yG d k m := clsIt_fix h _ hm
theorem clsIt_or {d : DfaV} {n k : Nat} (hd : VD d n k) : ∀ m, (∃ j, j ≤ m ∧ wN d (yG d k j) k = yG d k j) ∨ m < cls (yG d k m)
 | 0 => .inr (kO (by rw [yI, hd.hn]; exact hd.n1))
 | m + 1 => by
  rcases clsIt_or hd m with ⟨j, hj, h⟩ | h
  ·exact .inl ⟨j, by omega, h⟩
  ·by_cases e : wN d (yG d k m) k = yG d k m
   ·exact .inl ⟨m, by omega, e⟩
   ·have := tZ hd (by rw [yI, hd.hn]) (wR d k m) e
    exact .inr (by rw [yG]; omega)
theorem classesD_fix {d : DfaV} {n k : Nat} (hd : VD d n k) : wN d (yK d k) k = yK d k := by
 rcases clsIt_or hd d.final.length with ⟨j, hj, h⟩ | h
 ·rw [tO hj h, h]
 ·have := nD (yG d k d.final.length)
  rw [yI] at this
  omega
theorem xK (d : DfaV) (k : Nat) : (yK d k).length = d.final.length := yI _ _ _
theorem vP (d : DfaV) (k : Nat) : Norm (yK d k) := wR _ _ _
theorem firsts_norm {p : List Nat} (h : Norm p) : zT p = List.range (cls p) := by
 refine List.ext_getElem (by simp [cls]) fun i h1 h2 => ?_
 rw [List.getElem_range]
 have hm := List.getElem_mem h1
 obtain ⟨q, hq, e⟩ := List.getElem_of_mem (xG.1 hm)
 have hh : (numb p)[q]'(by rw [yF]; exact hq) = p[q] := by simp only [show numb p = p from h]
 rw [tC hq, e] at hh
 have h3 := List.idxOf_lt_length_of_mem hm
 have h4 := List.getElem_idxOf h3
 have := (List.getElem_inj (uC p)).1 h4
 omega
theorem sM {p : List Nat} (h : Norm p) (k : Nat) : zT (p.take k) = List.range (cls (p.take k)) := by
 have h1 := tF p k
 rw [firsts_norm h] at h1
 obtain ⟨r, hr⟩ := h1
 refine List.ext_getElem (by simp [cls]) fun i h1 h2 => ?_
 rw [List.getElem_range]
 have : (zT (p.take k) ++ r)[i]'(by rw [List.length_append]; omega) = i := by simp only [hr, List.getElem_range]
 rwa [List.getElem_append_left h1] at this
theorem pL {p : List Nat} (h : Norm p) {q : Nat} (hq : q < p.length) : p.getD q 0 ≤ cls (p.take q) ∧ (p.getD q 0 = cls (p.take q) → cls (p.take (q + 1)) = cls (p.take q) + 1) ∧ (p.getD q 0 ≠ cls (p.take q) → cls (p.take (q + 1)) = cls (p.take q)) := by
 have h1 := sM h (q + 1)
 have e : zT (p.take (q + 1)) = yR (zT (p.take q)) p[q] := by rw [List.take_succ_eq_append_getElem hq, vE]
 have h0 := sM h q
 rw [zI hq]
 by_cases hm : p[q] ∈ zT (p.take q)
 ·have hlt : p[q] < cls (p.take q) := by rw [h0] at hm; exact List.mem_range.1 hm
  rw [wS hm] at e
  have : cls (p.take (q + 1)) = cls (p.take q) := by unfold cls; rw [e]
  exact ⟨by omega, fun h => by omega, fun _ => this⟩
 ·rw [xP hm] at e
  have hc : cls (p.take (q + 1)) = cls (p.take q) + 1 := by unfold cls; rw [e]; simp
  have hl : p[q] = cls (p.take q) := by
   rw [h1, h0, hc, List.range_succ] at e
   have := List.append_cancel_left e
   simpa using this.symm
  exact ⟨by omega, fun _ => hc, fun h => absurd hl h⟩
def wU (p : List Nat) (k : Nat) : List Nat := (List.range k).filter fun q => p.getD q 0 == cls (p.take q)
theorem xZ {p : List Nat} {k : Nat} (h : p.getD k 0 = cls (p.take k)) : wU p (k + 1) = wU p k ++ [k] := by
 rw [wU, List.range_succ, List.filter_append, List.filter_cons, if_pos (beq_iff_eq.2 h)]; rfl
theorem xY {p : List Nat} {k : Nat} (h : p.getD k 0 ≠ cls (p.take k)) : wU p (k + 1) = wU p k := by
 rw [wU, List.range_succ, List.filter_append, List.filter_cons, if_neg (fun e => h (beq_iff_eq.1 e)), List.filter_nil, List.append_nil]; rfl
theorem wF {p : List Nat} (h : Norm p) : ∀ k, k ≤ p.length → (wU p k).length = cls (p.take k)
 | 0, _ => by simp [wU, cls, zT]
 | k + 1, hk => by
  obtain ⟨h0, h1, h2⟩ := pL h (show k < p.length by omega)
  have ih := wF h k (by omega)
  by_cases e : p.getD k 0 = cls (p.take k)
  ·rw [xZ e, List.length_append, ih, h1 e]; rfl
  ·rw [xY e, ih, h2 e]
theorem oF {p : List Nat} (h : Norm p) : ∀ k, k ≤ p.length → ∀ c, c < cls (p.take k) → p.getD ((wU p k).getD c 0) 0 = c ∧ (wU p k).getD c 0 < k
 | 0, _, c, hc => by simp [cls, zT] at hc
 | k + 1, hk, c, hc => by
  obtain ⟨h0, h1, h2⟩ := pL h (show k < p.length by omega)
  have hl := wF h k (by omega)
  by_cases e : p.getD k 0 = cls (p.take k)
  ·rw [h1 e] at hc
   rw [xZ e]
   by_cases hc' : c < cls (p.take k)
   ·have ih := oF h k (by omega) c hc'
    rw [show (wU p k ++ [k]).getD c 0 = (wU p k).getD c 0 from by simp [List.getD, List.getElem?_append_left (show c < (wU p k).length by omega)]]
    exact ⟨ih.1, by omega⟩
   ·have hc2 : c = (wU p k).length := by omega
    rw [show (wU p k ++ [k]).getD c 0 = k from by simp [List.getD, hc2]]
    exact ⟨by omega, by omega⟩
  ·rw [h2 e] at hc
   rw [xY e]
   have ih := oF h k (by omega) c hc
   exact ⟨ih.1, by omega⟩
def reps (p : List Nat) : List Nat := wU p p.length
def xX (p : List Nat) (r : List Int) : List Int := r.map fun s => ((p.getD s.toNat 0 : Nat) : Int)
def vD (d : DfaV) (p : List Nat) : DfaV :=
 ⟨d.letters, ((p.getD (st0 d) 0 : Nat) : Int), (reps p).map fun q => d.final.getD q false, (reps p).map fun q => xX p (d.next.getD q [])⟩
theorem wY {α β : Type} {l : List α} {f : α → β} {i : Nat} {x : α} {y : β} (h : i < l.length) : (l.map f).getD i y = f (l.getD i x) := by
 rw [zI (by simpa using h), zI h]; simp
theorem oJ {p : List Nat} {r : List Int} {a : Nat} (h : a < r.length) : (xX p r).getD a 0 = ((p.getD (r.getD a 0).toNat 0 : Nat) : Int) := by
 rw [xX, wY (x := 0) h]
theorem uR {p : List Nat} (h : Norm p) : (reps p).length = cls p := by
 have := wF h p.length (Nat.le_refl _)
 rwa [List.take_length] at this
theorem tY {p : List Nat} (h : Norm p) {c : Nat} (hc : c < cls p) : p.getD ((reps p).getD c 0) 0 = c ∧ (reps p).getD c 0 < p.length :=
 oF h p.length (Nat.le_refl _) c (by rwa [List.take_length])
theorem uU {p : List Nat} (h : Norm p) {i : Nat} (hi : i < p.length) : p.getD i 0 < cls p := by
 have := numb_lt (l := p)
 rw [h] at this
 rw [zI hi]
 exact this _ (List.getElem_mem hi)
section
variable {d : DfaV} {n k : Nat} {p : List Nat}
theorem kG (hd : VD d n k) (hp : p.length = n) (hn : Norm p) {c a : Nat} (hc : c < cls p) (ha : a < k) : ent (vD d p).next c a = ((p.getD (nx d ((reps p).getD c 0) a) 0 : Nat) : Int) := by
 have hr := tY hn hc
 unfold ent vD
 rw [wY (x := 0) (by rw [uR hn]; exact hc), oJ (by rw [hd.row _ (by omega)]; exact ha)]
 rfl
theorem quot_vd (hd : VD d n k) (hp : p.length = n) (hn : Norm p) : VD (vD d p) (cls p) k where
 hk := hd.hk
 k1 := hd.k1
 k6 := hd.k6
 hn := by simp [vD, uR hn]
 n1 := kO (by rw [hp]; exact hd.n1)
 nbig := Nat.le_trans (nD p) (by rw [hp]; exact hd.nbig)
 nl := by simp [vD, uR hn]
 s0 := by simp [vD]
 sn := by
  have := uU hn (i := st0 d) (by rw [hp]; exact pB hd)
  simp only [vD]
  omega
 row := fun c hc => by
  simp only [vD]
  rw [wY (x := 0) (by rw [uR hn]; exact hc)]
  have hr := tY hn hc
  rw [xX, List.length_map, hd.row _ (by omega)]
 lo := fun c a hc ha => by rw [kG hd hp hn hc ha]; omega
 hi := fun c a hc ha => by
  rw [kG hd hp hn hc ha]
  have hr := tY hn hc
  have := uU hn (i := nx d ((reps p).getD c 0) a) (by rw [hp]; exact qA hd (by omega) ha)
  omega
theorem quot_nx (hd : VD d n k) (hp : p.length = n) (hn : Norm p) (hst : wN d p k = p) {q a : Nat} (hq : q < n) (ha : a < k) : nx (vD d p) (p.getD q 0) a = p.getD (nx d q a) 0 := by
 have hlt : ∀ c ∈ p, c < n := by have := rA hn; rwa [hp] at this
 have hc := uU hn (i := q) (by omega)
 have hr := tY hn hc
 have h1 := uS hd hp hlt (i := (reps p).getD (p.getD q 0) 0) (j := q) (by omega) hq k (Nat.le_refl _)
 rw [hst] at h1
 have h2 := (h1.1 hr.1).2 a ha
 show (ent (vD d p).next (p.getD q 0) a).toNat = _
 rw [kG hd hp hn hc ha, h2]
 simp
end
def run (d : DfaV) (q : Nat) (w : List Nat) : Nat := w.foldl (nx d) q
def xQ (k : Nat) (w : List Nat) : Prop := ∀ a ∈ w, a < k
theorem run_lt {d : DfaV} {n k : Nat} (hd : VD d n k) : ∀ (w : List Nat) {q : Nat}, q < n → xQ k w → run d q w < n
 | [], q, hq, _ => hq
 | a :: w, q, hq, hw => run_lt hd w (qA hd hq (hw a (by simp))) (fun b hb => hw b (by simp [hb]))
theorem run_snoc (d : DfaV) (q : Nat) (w : List Nat) (a : Nat) : run d q (w ++ [a]) = nx d (run d q w) a := by simp [run]
theorem run_append (d : DfaV) (q : Nat) (u v : List Nat) : run d q (u ++ v) = run d (run d q u) v := by simp [run]
theorem quot_run {d : DfaV} {n k : Nat} {p : List Nat} (hd : VD d n k) (hp : p.length = n) (hn : Norm p) (hst : wN d p k = p) : ∀ (w : List Nat) {q : Nat}, q < n → xQ k w → run (vD d p) (p.getD q 0) w = p.getD (run d q w) 0
 | [], q, _, _ => rfl
 | a :: w, q, hq, hw => by
  have ha := hw a (by simp)
  show run (vD d p) (nx (vD d p) (p.getD q 0) a) w = p.getD (run d (nx d q a) w) 0
  rw [quot_nx hd hp hn hst hq ha]
  exact quot_run hd hp hn hst w (qA hd hq ha) (fun b hb => hw b (by simp [hb]))
def xM (d : DfaV) (l : List Nat) (i : Nat) : Nat → List Nat
 | 0 => l
 | a + 1 => yR (xM d l i a) (nx d (l.getD i 0) a)
def uH (d : DfaV) (k : Nat) : Nat → Nat → List Nat → List Nat
 | 0, _, l => l
 | f + 1, i, l => if i < l.length then uH d k f (i + 1) (xM d l i k) else l
def zQ (d : DfaV) (k : Nat) : List Nat := uH d k d.final.length 0 [st0 d]
theorem wT (d : DfaV) (l : List Nat) (i : Nat) : ∀ a, l <+: xM d l i a
 | 0 => List.prefix_refl _
 | a + 1 => (wT d l i a).trans (sG _ _)
theorem rL {d : DfaV} {l : List Nat} (h : l.Nodup) (i : Nat) : ∀ a, (xM d l i a).Nodup
 | 0 => h
 | a + 1 => nE (rL h i a)
theorem vH {d : DfaV} {l : List Nat} {i : Nat} {y : Nat} : ∀ {a}, y ∈ xM d l i a ↔ y ∈ l ∨ ∃ b, b < a ∧ y = nx d (l.getD i 0) b
 | 0 => by simp [xM]
 | a + 1 => by
  rw [xM, rT, vH, or_assoc]
  refine or_congr_right ⟨?_, ?_⟩
  ·rintro (⟨b, hb, h⟩ | h)
   ·exact ⟨b, by omega, h⟩
   ·exact ⟨a, by omega, h⟩
  ·rintro ⟨b, hb, h⟩
   rcases Nat.lt_succ_iff_lt_or_eq.1 hb with hb | rfl
   ·exact .inl ⟨b, hb, h⟩
   ·exact .inr h
structure AccI (d : DfaV) (n k i : Nat) (l : List Nat) : Prop where
 nd : l.Nodup
 lt : ∀ q ∈ l, q < n
 hd : 0 < l.length ∧ l.getD 0 0 = st0 d
 cl : ∀ j a, j < i → j < l.length → a < k → nx d (l.getD j 0) a ∈ l
 re : ∀ q ∈ l, ∃ w, xQ k w ∧ run d (st0 d) w = q
theorem uX {l m : List Nat} (h : l <+: m) {i : Nat} (hi : i < l.length) : m.getD i 0 = l.getD i 0 := by
 obtain ⟨r, rfl⟩ := h
 simp [List.getD, List.getElem?_append_left hi]
theorem AccI.row {d : DfaV} {n k i : Nat} {l : List Nat} (hd : VD d n k) (h : AccI d n k i l) (hi : i < l.length) : AccI d n k (i + 1) (xM d l i k) := by
 have hp := wT d l i k
 have hle := hp.length_le
 have hil : l.getD i 0 ∈ l := by rw [zI hi]; exact List.getElem_mem _
 have hin := h.lt _ hil
 refine ⟨rL h.nd i k, fun q hq => ?_, ⟨by have := h.hd.1; omega, by rw [uX hp h.hd.1]; exact h.hd.2⟩, fun j a hj hjl ha => ?_, fun q hq => ?_⟩
 ·rcases vH.1 hq with hq | ⟨b, hb, rfl⟩
  ·exact h.lt q hq
  ·exact qA hd hin hb
 ·rw [uX hp (show j < l.length by omega)]
  rcases Nat.lt_succ_iff_lt_or_eq.1 hj with hj | rfl
  ·exact vH.2 (.inl (h.cl j a hj (by omega) ha))
  ·exact vH.2 (.inr ⟨a, ha, rfl⟩)
 ·rcases vH.1 hq with hq | ⟨b, hb, rfl⟩
  ·exact h.re q hq
  ·obtain ⟨w, hw, e⟩ := h.re _ hil
   refine ⟨w ++ [b], fun c hc => ?_, by rw [run_snoc, e]⟩
   rcases List.mem_append.1 hc with hc | hc
   ·exact hw c hc
   ·rw [List.mem_singleton] at hc; subst hc; exact hb
theorem rQ {l : List Nat} {n : Nat} (h : l.Nodup) (hl : ∀ q ∈ l, q < n) : l.length ≤ n := by
 have := h.length_le_of_subset (fun q hq => List.mem_range.2 (hl q hq))
 simpa using this
theorem AccI.start {d : DfaV} {n k : Nat} (hd : VD d n k) : AccI d n k 0 [st0 d] :=
 ⟨by simp, fun q hq => by rw [List.mem_singleton] at hq; subst hq; exact pB hd, ⟨by simp, by simp⟩, fun j a hj => by omega, fun q hq => by
  rw [List.mem_singleton] at hq; subst hq; exact ⟨[], fun a ha => by simp at ha, rfl⟩⟩
theorem accGo_ok {d : DfaV} {n k : Nat} (hd : VD d n k) : ∀ f i l, AccI d n k i l → n ≤ i + f → AccI d n k n (uH d k f i l) ∧ (uH d k f i l).length ≤ n
 | 0, i, l, h, hf => by
  have hl := rQ h.nd h.lt
  exact ⟨⟨h.nd, h.lt, h.hd, fun j a hj hjl ha => h.cl j a (by omega) hjl ha, h.re⟩, hl⟩
 | f + 1, i, l, h, hf => by
  rw [uH]
  split
  ·rename_i hi
   exact accGo_ok hd f (i + 1) _ (h.row hd hi) (by omega)
  ·rename_i hi
   have hl := rQ h.nd h.lt
   exact ⟨⟨h.nd, h.lt, h.hd, fun j a hj hjl ha => h.cl j a (by omega) hjl ha, h.re⟩, hl⟩
theorem yS {d : DfaV} {n k : Nat} (hd : VD d n k) : AccI d n k n (zQ d k) ∧ (zQ d k).length ≤ n := accGo_ok hd _ _ _ (AccI.start hd) (by rw [hd.hn]; omega)
theorem mS {d : DfaV} {k f i : Nat} {l : List Nat} (h : ¬ i < l.length) : uH d k f i l = l := by
 cases f with
 | zero => rfl
 | succ f => rw [uH, if_neg h]
def uF (l : List Nat) (q : Nat) : Int := if q ∈ l then (l.idxOf q : Int) else -1
def yT (l : List Nat) (r : List Int) : List Int := r.map fun s => uF l s.toNat
def yU (d : DfaV) (k : Nat) : DfaV := ⟨d.letters, 0, (zQ d k).map fun q => d.final.getD q false, (zQ d k).map fun q => yT (zQ d k) (d.next.getD q [])⟩
section
variable {d : DfaV} {n k : Nat}
theorem qZ (hd : VD d n k) {i a : Nat} (hi : i < (zQ d k).length) (ha : a < k) : ent (yU d k).next i a = (((zQ d k).idxOf (nx d ((zQ d k).getD i 0) a) : Nat) : Int) := by
 have hA := (yS hd).1
 have hq := hA.lt _ (show (zQ d k).getD i 0 ∈ zQ d k by rw [zI hi]; exact List.getElem_mem _)
 have hn := (yS hd).2
 unfold ent yU
 rw [wY (x := 0) hi, yT, wY (x := 0) (by rw [hd.row _ hq]; exact ha), uF, if_pos]
 ·rfl
 ·exact hA.cl i a (by omega) hi ha
theorem qI (hd : VD d n k) : VD (yU d k) (zQ d k).length k where
 hk := hd.hk
 k1 := hd.k1
 k6 := hd.k6
 hn := by simp [yU]
 n1 := (yS hd).1.hd.1
 nbig := Nat.le_trans (yS hd).2 hd.nbig
 nl := by simp [yU]
 s0 := by simp [yU]
 sn := by have := (yS hd).1.hd.1; simp only [yU]; omega
 row := fun i hi => by
  have hA := (yS hd).1
  have hq := hA.lt _ (show (zQ d k).getD i 0 ∈ zQ d k by rw [zI hi]; exact List.getElem_mem _)
  simp only [yU]
  rw [wY (x := 0) hi, yT, List.length_map, hd.row _ hq]
 lo := fun i a hi ha => by rw [qZ hd hi ha]; omega
 hi := fun i a hi ha => by
  have hn := (yS hd).2
  rw [qZ hd hi ha]
  have := List.idxOf_lt_length_of_mem ((yS hd).1.cl i a (by omega) hi ha)
  omega
theorem trim_nx (hd : VD d n k) {i a : Nat} (hi : i < (zQ d k).length) (ha : a < k) : nx (yU d k) i a = (zQ d k).idxOf (nx d ((zQ d k).getD i 0) a) := by
 show (ent (yU d k).next i a).toNat = _
 rw [qZ hd hi ha]; simp
theorem trim_run (hd : VD d n k) : ∀ (w : List Nat) {i : Nat}, i < (zQ d k).length → xQ k w → (zQ d k).getD (run (yU d k) i w) 0 = run d ((zQ d k).getD i 0) w
 | [], i, _, _ => rfl
 | a :: w, i, hi, hw => by
  have ha := hw a (by simp)
  have hn := (yS hd).2
  have hm := (yS hd).1.cl i a (by omega) hi ha
  have hlt := List.idxOf_lt_length_of_mem hm
  have h := trim_run hd w (i := nx (yU d k) i a) (by rw [trim_nx hd hi ha]; exact hlt) (fun b hb => hw b (by simp [hb]))
  show (zQ d k).getD (run (yU d k) (nx (yU d k) i a) w) 0 = run d (nx d ((zQ d k).getD i 0) a) w
  rw [h, trim_nx hd hi ha, zI hlt, List.getElem_idxOf]
theorem oB (hd : VD d n k) {i : Nat} (hi : i < (zQ d k).length) : (yU d k).final.getD i false = d.final.getD ((zQ d k).getD i 0) false := by
 simp only [yU]; rw [wY (x := 0) hi]
end
def minD (d : DfaV) (k : Nat) : DfaV := yU (vD d (yK d k)) k
def minN (d : DfaV) (k : Nat) : Nat := (zQ (vD d (yK d k)) k).length
section
variable {d : DfaV} {n k : Nat}
theorem nL (hd : VD d n k) : VD (vD d (yK d k)) (cls (yK d k)) k := quot_vd hd (by rw [xK, hd.hn]) (vP d k)
theorem mI (hd : VD d n k) : VD (minD d k) (minN d k) k := qI (nL hd)
theorem minN_le (hd : VD d n k) : minN d k ≤ n := Nat.le_trans (yS (nL hd)).2 (Nat.le_trans (nD _) (by rw [xK, hd.hn]; exact Nat.le_refl _))
end
end Go.Proofs.Ytgbfaggnnfoamaa
