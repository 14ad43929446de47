/- Part 7 of the proof: MinPlain, Dfa0. -/
import Derived.Test.YtgbfaggnnfoamaaZi6
set_option linter.unusedVariables false
set_option linter.unusedSimpArgs false
namespace Go.Proofs.Ytgbfaggnnfoamaa
theorem nI (p : List Nat) : cls p ≤ p.length := vE p
theorem lV (d : DfaV) : Norm (pQ d) := mP _
def yG (d : DfaV) (k : Nat) : Nat → List Nat
 | 0 => pQ d
 | m + 1 => wO d (yG d k m) k
theorem yI (d : DfaV) (k : Nat) : ∀ m, (yG d k m).length = d.final.length
 | 0 => rC d
 | m + 1 => by rw [yG, yN, yI d k m]
theorem wT (d : DfaV) (k : Nat) : ∀ m, Norm (yG d k m)
 | 0 => lV d
 | m + 1 => rT (wT d k m) k
theorem clsIt_lt (d : DfaV) (k m : Nat) : ∀ c ∈ yG d k m, c < d.final.length := by
 have := rD (wT d k m)
 rwa [yI] at this
theorem kX {p : List Nat} (h : 0 < p.length) : 0 < cls p := by
 have hm : p[0] ∈ zV p := xK.2 (List.getElem_mem h)
 exact List.length_pos_of_mem hm
theorem sC {d : DfaV} {n k : Nat} (hd : VD d n k) {p : List Nat} (hp : p.length = n) (hn : Norm p) (hne : wO d p k ≠ p) : cls p < cls (wO d p k) := by
 have hlt : ∀ c ∈ p, c < n := by have := rD hn; rwa [hp] at this
 obtain ⟨h1, h2⟩ := cls_mono (p := p) (q := wO d p k) (yN d p k) (fun i j hi hj h => ((uT hd hp hlt (by omega) (by omega) k (Nat.le_refl _)).1 h).1)
 refine Nat.lt_of_le_of_ne h1 fun e => hne ?_
 refine kR (rT hn k) hn ⟨yN d p k, fun i j hi hj => ?_⟩
 rw [yN] at hi hj
 exact ⟨fun h => ((uT hd hp hlt (by omega) (by omega) k (Nat.le_refl _)).1 h).1, fun h => h2 e i j hi hj h⟩
def yK (d : DfaV) (k : Nat) : List Nat := yG d k d.final.length
theorem clsIt_fix {d : DfaV} {k m : Nat} (h : wO d (yG d k m) k = yG d k m) : ∀ j, m ≤ j → yG d k j = yG d k m
 | 0, hj => by rw [show m = 0 by omega]
 | j + 1, hj => by
  by_cases e : m = j + 1
  ·rw [e]
  ·rw [yG, clsIt_fix h j (by omega), h]
theorem tQ {d : DfaV} {k m : Nat} (hm : m ≤ d.final.length) (h : wO d (yG d k m) k = yG d k m) : yK d k = yG d k m := clsIt_fix h _ hm
theorem clsIt_or {d : DfaV} {n k : Nat} (hd : VD d n k) : ∀ m, (∃ j, j ≤ m ∧ wO d (yG d k j) k = yG d k j) ∨ m < cls (yG d k m)
 | 0 => .inr (kX (by rw [yI, hd.hn]; exact hd.n1))
 | m + 1 => by
  rcases clsIt_or hd m with ⟨j, hj, h⟩ | h
  ·exact .inl ⟨j, by omega, h⟩
  ·by_cases e : wO d (yG d k m) k = yG d k m
   ·exact .inl ⟨m, by omega, e⟩
   ·have := sC hd (by rw [yI, hd.hn]) (wT d k m) e
    exact .inr (by rw [yG]; omega)
theorem classesD_fix {d : DfaV} {n k : Nat} (hd : VD d n k) : wO d (yK d k) k = yK d k := by
 rcases clsIt_or hd d.final.length with ⟨j, hj, h⟩ | h
 ·rw [tQ hj h, h]
 ·have := nI (yG d k d.final.length)
  rw [yI] at this
  omega
theorem xN (d : DfaV) (k : Nat) : (yK d k).length = d.final.length := yI _ _ _
theorem vQ (d : DfaV) (k : Nat) : Norm (yK d k) := wT _ _ _
theorem firsts_norm {p : List Nat} (h : Norm p) : zV p = List.range (cls p) := by
 refine List.ext_getElem (by simp [cls]) fun i h1 h2 => ?_
 rw [List.getElem_range]
 have hm := List.getElem_mem h1
 obtain ⟨q, hq, e⟩ := List.getElem_of_mem (xK.1 hm)
 have hh : (numb p)[q]'(by rw [yF]; exact hq) = p[q] := by simp only [show numb p = p from h]
 rw [tE hq, e] at hh
 have h3 := List.idxOf_lt_length_of_mem hm
 have h4 := List.getElem_idxOf h3
 have := (List.getElem_inj (uD p)).1 h4
 omega
theorem sQ {p : List Nat} (h : Norm p) (k : Nat) : zV (p.take k) = List.range (cls (p.take k)) := by
 have h1 := tH p k
 rw [firsts_norm h] at h1
 obtain ⟨r, hr⟩ := h1
 refine List.ext_getElem (by simp [cls]) fun i h1 h2 => ?_
 rw [List.getElem_range]
 have : (zV (p.take k) ++ r)[i]'(by rw [List.length_append]; omega) = i := by simp only [hr, List.getElem_range]
 rwa [List.getElem_append_left h1] at this
theorem pS {p : List Nat} (h : Norm p) {q : Nat} (hq : q < p.length) : p.getD q 0 ≤ cls (p.take q) ∧ (p.getD q 0 = cls (p.take q) → cls (p.take (q + 1)) = cls (p.take q) + 1) ∧ (p.getD q 0 ≠ cls (p.take q) → cls (p.take (q + 1)) = cls (p.take q)) := by
 have h1 := sQ h (q + 1)
 have e : zV (p.take (q + 1)) = yS (zV (p.take q)) p[q] := by rw [List.take_succ_eq_append_getElem hq, vH]
 have h0 := sQ h q
 rw [zI hq]
 by_cases hm : p[q] ∈ zV (p.take q)
 ·have hlt : p[q] < cls (p.take q) := by rw [h0] at hm; exact List.mem_range.1 hm
  rw [wU hm] at e
  have : cls (p.take (q + 1)) = cls (p.take q) := by unfold cls; rw [e]
  exact ⟨by omega, fun h => by omega, fun _ => this⟩
 ·rw [xR hm] at e
  have hc : cls (p.take (q + 1)) = cls (p.take q) + 1 := by unfold cls; rw [e]; simp
  have hl : p[q] = cls (p.take q) := by
   rw [h1, h0, hc, List.range_succ] at e
   have := List.append_cancel_left e
   simpa using this.symm
  exact ⟨by omega, fun _ => hc, fun h => absurd hl h⟩
def wX (p : List Nat) (k : Nat) : List Nat := (List.range k).filter fun q => p.getD q 0 == cls (p.take q)
theorem wC {p : List Nat} {k : Nat} (h : p.getD k 0 = cls (p.take k)) : wX p (k + 1) = wX p k ++ [k] := by
 rw [wX, List.range_succ, List.filter_append, List.filter_cons, if_pos (beq_iff_eq.2 h)]; rfl
theorem xZ {p : List Nat} {k : Nat} (h : p.getD k 0 ≠ cls (p.take k)) : wX p (k + 1) = wX p k := by
 rw [wX, List.range_succ, List.filter_append, List.filter_cons, if_neg (fun e => h (beq_iff_eq.1 e)), List.filter_nil, List.append_nil]; rfl
theorem wF {p : List Nat} (h : Norm p) : ∀ k, k ≤ p.length → (wX p k).length = cls (p.take k)
 | 0, _ => by simp [wX, cls, zV]
 | k + 1, hk => by
  obtain ⟨h0, h1, h2⟩ := pS h (show k < p.length by omega)
  have ih := wF h k (by omega)
  by_cases e : p.getD k 0 = cls (p.take k)
  ·rw [wC e, List.length_append, ih, h1 e]; rfl
  ·rw [xZ e, ih, h2 e]
theorem oK {p : List Nat} (h : Norm p) : ∀ k, k ≤ p.length → ∀ c, c < cls (p.take k) → p.getD ((wX p k).getD c 0) 0 = c ∧ (wX p k).getD c 0 < k
 | 0, _, c, hc => by simp [cls, zV] at hc
 | k + 1, hk, c, hc => by
  obtain ⟨h0, h1, h2⟩ := pS h (show k < p.length by omega)
  have hl := wF h k (by omega)
  by_cases e : p.getD k 0 = cls (p.take k)
  ·rw [h1 e] at hc
   rw [wC e]
   by_cases hc' : c < cls (p.take k)
   ·have ih := oK h k (by omega) c hc'
    rw [show (wX p k ++ [k]).getD c 0 = (wX p k).getD c 0 from by simp [List.getD, List.getElem?_append_left (show c < (wX p k).length by omega)]]
    exact ⟨ih.1, by omega⟩
   ·have hc2 : c = (wX p k).length := by omega
    rw [show (wX p k ++ [k]).getD c 0 = k from by simp [List.getD, hc2]]
    exact ⟨by omega, by omega⟩
  ·rw [h2 e] at hc
   rw [xZ e]
   have ih := oK h k (by omega) c hc
   exact ⟨ih.1, by omega⟩
def reps (p : List Nat) : List Nat := wX p p.length
def xY (p : List Nat) (r : List Int) : List Int := r.map fun s => ((p.getD s.toNat 0 : Nat) : Int)
def vG (d : DfaV) (p : List Nat) : DfaV :=
 ⟨d.letters, ((p.getD (st0 d) 0 : Nat) : Int), (reps p).map fun q => d.final.getD q false, (reps p).map fun q => xY p (d.next.getD q [])⟩
theorem vD {α β : Type} {l : List α} {f : α → β} {i : Nat} {x : α} {y : β} (h : i < l.length) : (l.map f).getD i y = f (l.getD i x) := by
 rw [zI (by simpa using h), zI h]; simp
theorem oP {p : List Nat} {r : List Int} {a : Nat} (h : a < r.length) : (xY p r).getD a 0 = ((p.getD (r.getD a 0).toNat 0 : Nat) : Int) := by
 rw [xY, vD (x := 0) h]
theorem uS {p : List Nat} (h : Norm p) : (reps p).length = cls p := by
 have := wF h p.length (Nat.le_refl _)
 rwa [List.take_length] at this
theorem sB {p : List Nat} (h : Norm p) {c : Nat} (hc : c < cls p) : p.getD ((reps p).getD c 0) 0 = c ∧ (reps p).getD c 0 < p.length :=
 oK h p.length (Nat.le_refl _) c (by rwa [List.take_length])
theorem uW {p : List Nat} (h : Norm p) {i : Nat} (hi : i < p.length) : p.getD i 0 < cls p := by
 have := numb_lt (l := p)
 rw [h] at this
 rw [zI hi]
 exact this _ (List.getElem_mem hi)
section
variable {d : DfaV} {n k : Nat} {p : List Nat}
theorem kP (hd : VD d n k) (hp : p.length = n) (hn : Norm p) {c a : Nat} (hc : c < cls p) (ha : a < k) : ent (vG d p).next c a = ((p.getD (nx d ((reps p).getD c 0) a) 0 : Nat) : Int) := by
 have hr := sB hn hc
 unfold ent vG
 rw [vD (x := 0) (by rw [uS hn]; exact hc), oP (by rw [hd.row _ (by omega)]; exact ha)]
 rfl
theorem quot_vd (hd : VD d n k) (hp : p.length = n) (hn : Norm p) : VD (vG d p) (cls p) k where
 hk := hd.hk
 k1 := hd.k1
 k6 := hd.k6
 hn := by simp [vG, uS hn]
 n1 := kX (by rw [hp]; exact hd.n1)
 nbig := Nat.le_trans (nI p) (by rw [hp]; exact hd.nbig)
 nl := by simp [vG, uS hn]
 s0 := by simp [vG]
 sn := by
  have := uW hn (i := st0 d) (by rw [hp]; exact pI hd)
  simp only [vG]
  omega
 row := fun c hc => by
  simp only [vG]
  rw [vD (x := 0) (by rw [uS hn]; exact hc)]
  have hr := sB hn hc
  rw [xY, List.length_map, hd.row _ (by omega)]
 lo := fun c a hc ha => by rw [kP hd hp hn hc ha]; omega
 hi := fun c a hc ha => by
  rw [kP hd hp hn hc ha]
  have hr := sB hn hc
  have := uW hn (i := nx d ((reps p).getD c 0) a) (by rw [hp]; exact qI hd (by omega) ha)
  omega
theorem quot_nx (hd : VD d n k) (hp : p.length = n) (hn : Norm p) (hst : wO d p k = p) {q a : Nat} (hq : q < n) (ha : a < k) : nx (vG d p) (p.getD q 0) a = p.getD (nx d q a) 0 := by
 have hlt : ∀ c ∈ p, c < n := by have := rD hn; rwa [hp] at this
 have hc := uW hn (i := q) (by omega)
 have hr := sB hn hc
 have h1 := uT hd hp hlt (i := (reps p).getD (p.getD q 0) 0) (j := q) (by omega) hq k (Nat.le_refl _)
 rw [hst] at h1
 have h2 := (h1.1 hr.1).2 a ha
 show (ent (vG d p).next (p.getD q 0) a).toNat = _
 rw [kP hd hp hn hc ha, h2]
 simp
end
def run (d : DfaV) (q : Nat) (w : List Nat) : Nat := w.foldl (nx d) q
def xS (k : Nat) (w : List Nat) : Prop := ∀ a ∈ w, a < k
theorem run_lt {d : DfaV} {n k : Nat} (hd : VD d n k) : ∀ (w : List Nat) {q : Nat}, q < n → xS k w → run d q w < n
 | [], q, hq, _ => hq
 | a :: w, q, hq, hw => run_lt hd w (qI hd hq (hw a (by simp))) (fun b hb => hw b (by simp [hb]))
theorem run_snoc (d : DfaV) (q : Nat) (w : List Nat) (a : Nat) : run d q (w ++ [a]) = nx d (run d q w) a := by simp [run]
theorem run_append (d : DfaV) (q : Nat) (u v : List Nat) : run d q (u ++ v) = run d (run d q u) v := by simp [run]
theorem quot_run {d : DfaV} {n k : Nat} {p : List Nat} (hd : VD d n k) (hp : p.length = n) (hn : Norm p) (hst : wO d p k = p) : ∀ (w : List Nat) {q : Nat}, q < n → xS k w → run (vG d p) (p.getD q 0) w = p.getD (run d q w) 0
 | [], q, _, _ => rfl
 | a :: w, q, hq, hw => by
  have ha := hw a (by simp)
  show run (vG d p) (nx (vG d p) (p.getD q 0) a) w = p.getD (run d (nx d q a) w) 0
  rw [quot_nx hd hp hn hst hq ha]
  exact quot_run hd hp hn hst w (qI hd hq ha) (fun b hb => hw b (by simp [hb]))
def xO (d : DfaV) (l : List Nat) (i : Nat) : Nat → List Nat
 | 0 => l
 | a + 1 => yS (xO d l i a) (nx d (l.getD i 0) a)
def uI (d : DfaV) (k : Nat) : Nat → Nat → List Nat → List Nat
 | 0, _, l => l
 | f + 1, i, l => if i < l.length then uI d k f (i + 1) (xO d l i k) else l
def zP (d : DfaV) (k : Nat) : List Nat := uI d k d.final.length 0 [st0 d]
theorem wV (d : DfaV) (l : List Nat) (i : Nat) : ∀ a, l <+: xO d l i a
 | 0 => List.prefix_refl _
 | a + 1 => (wV d l i a).trans (sK _ _)
theorem rQ {d : DfaV} {l : List Nat} (h : l.Nodup) (i : Nat) : ∀ a, (xO d l i a).Nodup
 | 0 => h
 | a + 1 => nJ (rQ h i a)
theorem vK {d : DfaV} {l : List Nat} {i : Nat} {y : Nat} : ∀ {a}, y ∈ xO d l i a ↔ y ∈ l ∨ ∃ b, b < a ∧ y = nx d (l.getD i 0) b
 | 0 => by simp [xO]
 | a + 1 => by
  rw [xO, rY, vK, or_assoc]
  refine or_congr_right ⟨?_, ?_⟩
  ·rintro (⟨b, hb, h⟩ | h)
   ·exact ⟨b, by omega, h⟩
   ·exact ⟨a, by omega, h⟩
  ·rintro ⟨b, hb, h⟩
   rcases Nat.lt_succ_iff_lt_or_eq.1 hb with hb | rfl
   ·exact .inl ⟨b, hb, h⟩
   ·exact .inr h
structure AccI (d : DfaV) (n k i : Nat) (l : List Nat) : Prop where
 nd : l.Nodup
 lt : ∀ q ∈ l, q < n
 hd : 0 < l.length ∧ l.getD 0 0 = st0 d
 cl : ∀ j a, j < i → j < l.length → a < k → nx d (l.getD j 0) a ∈ l
 re : ∀ q ∈ l, ∃ w, xS k w ∧ run d (st0 d) w = q
theorem uZ {l m : List Nat} (h : l <+: m) {i : Nat} (hi : i < l.length) : m.getD i 0 = l.getD i 0 := by
 obtain ⟨r, rfl⟩ := h
 simp [List.getD, List.getElem?_append_left hi]
theorem AccI.row {d : DfaV} {n k i : Nat} {l : List Nat} (hd : VD d n k) (h : AccI d n k i l) (hi : i < l.length) : AccI d n k (i + 1) (xO d l i k) := by
 have hp := wV d l i k
 have hle := hp.length_le
 have hil : l.getD i 0 ∈ l := by rw [zI hi]; exact List.getElem_mem _
 have hin := h.lt _ hil
 refine ⟨rQ h.nd i k, fun q hq => ?_, ⟨by have := h.hd.1; omega, by rw [uZ hp h.hd.1]; exact h.hd.2⟩, fun j a hj hjl ha => ?_, fun q hq => ?_⟩
 ·rcases vK.1 hq with hq | ⟨b, hb, rfl⟩
  ·exact h.lt q hq
  ·exact qI hd hin hb
 ·rw [uZ hp (show j < l.length by omega)]
  rcases Nat.lt_succ_iff_lt_or_eq.1 hj with hj | rfl
  ·exact vK.2 (.inl (h.cl j a hj (by omega) ha))
  ·exact vK.2 (.inr ⟨a, ha, rfl⟩)
 ·rcases vK.1 hq with hq | ⟨b, hb, rfl⟩
  ·exact h.re q hq
  ·obtain ⟨w, hw, e⟩ := h.re _ hil
   refine ⟨w ++ [b], fun c hc => ?_, by rw [run_snoc, e]⟩
   rcases List.mem_append.1 hc with hc | hc
   ·exact hw c hc
   ·rw [List.mem_singleton] at hc; subst hc; exact hb
theorem rV {l : List Nat} {n : Nat} (h : l.Nodup) (hl : ∀ q ∈ l, q < n) : l.length ≤ n := by
 have := h.length_le_of_subset (fun q hq => List.mem_range.2 (hl q hq))
 simpa using this
theorem AccI.start {d : DfaV} {n k : Nat} (hd : VD d n k) : AccI d n k 0 [st0 d] :=
 ⟨by simp, fun q hq => by rw [List.mem_singleton] at hq; subst hq; exact pI hd, ⟨by simp, by simp⟩, fun j a hj => by omega, fun q hq => by
  rw [List.mem_singleton] at hq; subst hq; exact ⟨[], fun a ha => by simp at ha, rfl⟩⟩
theorem accGo_ok {d : DfaV} {n k : Nat} (hd : VD d n k) : ∀ f i l, AccI d n k i l → n ≤ i + f → AccI d n k n (uI d k f i l) ∧ (uI d k f i l).length ≤ n
 | 0, i, l, h, hf => by
  have hl := rV h.nd h.lt
  exact ⟨⟨h.nd, h.lt, h.hd, fun j a hj hjl ha => h.cl j a (by omega) hjl ha, h.re⟩, hl⟩
 | f + 1, i, l, h, hf => by
  rw [uI]
  split
  ·rename_i hi
   exact accGo_ok hd f (i + 1) _ (h.row hd hi) (by omega)
  ·rename_i hi
   have hl := rV h.nd h.lt
   exact ⟨⟨h.nd, h.lt, h.hd, fun j a hj hjl ha => h.cl j a (by omega) hjl ha, h.re⟩, hl⟩
theorem yT {d : DfaV} {n k : Nat} (hd : VD d n k) : AccI d n k n (zP d k) ∧ (zP d k).length ≤ n := accGo_ok hd _ _ _ (AccI.start hd) (by rw [hd.hn]; omega)
theorem lA {d : DfaV} {k f i : Nat} {l : List Nat} (h : ¬ i < l.length) : uI d k f i l = l := by
 cases f with
 | zero => rfl
 | succ f => rw [uI, if_neg h]
def uG (l : List Nat) (q : Nat) : Int := if q ∈ l then (l.idxOf q : Int) else -1
def yU (l : List Nat) (r : List Int) : List Int := r.map fun s => uG l s.toNat
def yW (d : DfaV) (k : Nat) : DfaV := ⟨d.letters, 0, (zP d k).map fun q => d.final.getD q false, (zP d k).map fun q => yU (zP d k) (d.next.getD q [])⟩
section
variable {d : DfaV} {n k : Nat}
theorem pH (hd : VD d n k) {i a : Nat} (hi : i < (zP d k).length) (ha : a < k) : ent (yW d k).next i a = (((zP d k).idxOf (nx d ((zP d k).getD i 0) a) : Nat) : Int) := by
 have hA := (yT hd).1
 have hq := hA.lt _ (show (zP d k).getD i 0 ∈ zP d k by rw [zI hi]; exact List.getElem_mem _)
 have hn := (yT hd).2
 unfold ent yW
 rw [vD (x := 0) hi, yU, vD (x := 0) (by rw [hd.row _ hq]; exact ha), uG, if_pos]
 ·rfl
 ·exact hA.cl i a (by omega) hi ha
theorem qQ (hd : VD d n k) : VD (yW d k) (zP d k).length k where
 hk := hd.hk
 k1 := hd.k1
 k6 := hd.k6
 hn := by simp [yW]
 n1 := (yT hd).1.hd.1
 nbig := Nat.le_trans (yT hd).2 hd.nbig
 nl := by simp [yW]
 s0 := by simp [yW]
 sn := by have := (yT hd).1.hd.1; simp only [yW]; omega
 row := fun i hi => by
  have hA := (yT hd).1
  have hq := hA.lt _ (show (zP d k).getD i 0 ∈ zP d k by rw [zI hi]; exact List.getElem_mem _)
  simp only [yW]
  rw [vD (x := 0) hi, yU, List.length_map, hd.row _ hq]
 lo := fun i a hi ha => by rw [pH hd hi ha]; omega
 hi := fun i a hi ha => by
  have hn := (yT hd).2
  rw [pH hd hi ha]
  have := List.idxOf_lt_length_of_mem ((yT hd).1.cl i a (by omega) hi ha)
  omega
theorem trim_nx (hd : VD d n k) {i a : Nat} (hi : i < (zP d k).length) (ha : a < k) : nx (yW d k) i a = (zP d k).idxOf (nx d ((zP d k).getD i 0) a) := by
 show (ent (yW d k).next i a).toNat = _
 rw [pH hd hi ha]; simp
theorem trim_run (hd : VD d n k) : ∀ (w : List Nat) {i : Nat}, i < (zP d k).length → xS k w → (zP d k).getD (run (yW d k) i w) 0 = run d ((zP d k).getD i 0) w
 | [], i, _, _ => rfl
 | a :: w, i, hi, hw => by
  have ha := hw a (by simp)
  have hn := (yT hd).2
  have hm := (yT hd).1.cl i a (by omega) hi ha
  have hlt := List.idxOf_lt_length_of_mem hm
  have h := trim_run hd w (i := nx (yW d k) i a) (by rw [trim_nx hd hi ha]; exact hlt) (fun b hb => hw b (by simp [hb]))
  show (zP d k).getD (run (yW d k) (nx (yW d k) i a) w) 0 = run d (nx d ((zP d k).getD i 0) a) w
  rw [h, trim_nx hd hi ha, zI hlt, List.getElem_idxOf]
theorem oH (hd : VD d n k) {i : Nat} (hi : i < (zP d k).length) : (yW d k).final.getD i false = d.final.getD ((zP d k).getD i 0) false := by
 simp only [yW]; rw [vD (x := 0) hi]
end
def minD (d : DfaV) (k : Nat) : DfaV := yW (vG d (yK d k)) k
def minN (d : DfaV) (k : Nat) : Nat := (zP (vG d (yK d k)) k).length
section
variable {d : DfaV} {n k : Nat}
theorem nQ (hd : VD d n k) : VD (vG d (yK d k)) (cls (yK d k)) k := quot_vd hd (by rw [xN, hd.hn]) (vQ d k)
theorem mQ (hd : VD d n k) : VD (minD d k) (minN d k) k := qQ (nQ hd)
theorem minN_le (hd : VD d n k) : minN d k ≤ n := Nat.le_trans (yT (nQ hd)).2 (Nat.le_trans (nI _) (by rw [xN, hd.hn]; exact Nat.le_refl _))
end
end Go.Proofs.Ytgbfaggnnfoamaa
namespace Go.Proofs.Ytgbfaggnnfoamaa
open Go.RowKit
def vR (B : Nat) (w : World) (v : Value) (d : DfaV) : Prop := ∃ fv nv, v = .agg #[.int .i64 d.letters, .int .i64 d.start, fv, nv] ∧ Row B w fv (bls d.final) ∧ Mat B w nv d.next
theorem vR.kept {B : Nat} {w w' : World} {v : Value} {d : DfaV} {row : Option Nat} (h : vR B w v d) (hg : w.grownBy w' row) (hr : ∀ k, row = some k → B ≤ k) : vR B w' v d := by
 obtain ⟨fv, nv, h1, h2, h3⟩ := h
 exact ⟨fv, nv, h1, h2.kept hg hr, h3.kept hg hr⟩
theorem vR.mono {B B' : Nat} {w : World} {v : Value} {d : DfaV} (h : vR B w v d) (hB : B ≤ B') : vR B' w v d := by
 obtain ⟨fv, nv, h1, h2, h3⟩ := h
 exact ⟨fv, nv, h1, h2.mono hB, h3.mono hB⟩
theorem validD_letters {d : DfaV} (h : d.letters < 1 ∨ 6 < d.letters) : tT d = 1 := by rw [tT, if_pos h]
theorem validD_big {d : DfaV} (h : ¬ (d.letters < 1 ∨ 6 < d.letters)) (h2 : 512 < d.final.length) : tT d = 3 := by rw [tT, if_neg h, if_pos h2]
theorem validD_shape {d : DfaV} (h : ¬ (d.letters < 1 ∨ 6 < d.letters)) (h2 : ¬ 512 < d.final.length) (h3 : d.final.length = 0 ∨ d.next.length ≠ d.final.length ∨ d.start < 0 ∨ d.final.length ≤ d.start) : tT d = 4 := by rw [tT, if_neg h, if_neg h2, if_pos h3]
theorem oG {d : DfaV} (h : ¬ (d.letters < 1 ∨ 6 < d.letters)) (h2 : ¬ 512 < d.final.length) (h3 : ¬ (d.final.length = 0 ∨ d.next.length ≠ d.final.length ∨ d.start < 0 ∨ d.final.length ≤ d.start)) {q : Nat} (hq : q < d.next.length) (hb : rowD d.letters d.final.length (d.next.getD q []) = false) : tT d = 4 := by
 rw [tT, if_neg h, if_neg h2, if_neg h3, if_neg]
 intro ha
 have := List.all_eq_true.1 ha d.next[q] (List.getElem_mem hq)
 rw [zI hq, this] at hb; cases hb
theorem validD_ok {d : DfaV} (h : ¬ (d.letters < 1 ∨ 6 < d.letters)) (h2 : ¬ 512 < d.final.length) (h3 : ¬ (d.final.length = 0 ∨ d.next.length ≠ d.final.length ∨ d.start < 0 ∨ d.final.length ≤ d.start)) (ha : ∀ q, q < d.next.length → rowD d.letters d.final.length (d.next.getD q []) = true) : tT d = 0 := by
 rw [tT, if_neg h, if_neg h2, if_neg h3, if_pos]
 rw [List.all_eq_true]
 intro r hr
 obtain ⟨q, hq, rfl⟩ := List.getElem_of_mem hr
 have := ha q hq
 rwa [zI hq] at this
theorem rowD_len {k : Int} {n : Nat} {r : List Int} (h : (r.length : Int) ≠ k) : rowD k n r = false := by simp [rowD, h]
theorem rowD_bad {k : Int} {n : Nat} {r : List Int} {y : Nat} (hy : y < r.length) (h : r.getD y 0 < 0 ∨ n ≤ r.getD y 0) : rowD k n r = false := by
 rw [← Bool.not_eq_true]
 intro hr
 have := (kO.1 hr).2 y hy
 omega
def DRows (d : DfaV) (k : Nat) : Prop := ∀ x, x < k → rowD d.letters d.final.length (d.next.getD x []) = true
end Go.Proofs.Ytgbfaggnnfoamaa
