/- Part 13 of the proof: MinPlain. -/
import Derived.Test.YtgbfaggnnfoamaaZg12
set_option linter.unusedVariables false
set_option linter.unusedSimpArgs false
namespace Go.Proofs.Ytgbfaggnnfoamaa
theorem pJ (p : List Nat) : cls p ≤ p.length := wN p
theorem pC (d : DfaV) : Norm (rP d) := qO _
def zS (d : DfaV) (k : Nat) : Nat → List Nat
 | 0 => rP d
 | m + 1 => vJ d (zS d k m) k
theorem zX (d : DfaV) (k : Nat) : ∀ m, (zS d k m).length = d.final.length
 | 0 => rF d
 | m + 1 => by rw [zS, yD, zX d k m]
theorem xP (d : DfaV) (k : Nat) : ∀ m, Norm (zS d k m)
 | 0 => pC d
 | m + 1 => sV (xP d k m) k
theorem mQ (d : DfaV) (k m : Nat) : ∀ c ∈ zS d k m, c < d.final.length := by
 have := qP (xP d k m)
 rwa [zX] at this
theorem nR {p : List Nat} (h : 0 < p.length) : 0 < cls p := by
 have hm : p[0] ∈ zP p := yL.2 (List.getElem_mem h)
 exact List.length_pos_of_mem hm
theorem sA {d : DfaV} {n k : Nat} (hd : VD d n k) {p : List Nat} (hp : p.length = n) (hn : Norm p) (hne : vJ d p k ≠ p) : cls p < cls (vJ d p k) := by
 have hlt : ∀ c ∈ p, c < n := by have := qP hn; rwa [hp] at this
 obtain ⟨h1, h2⟩ := cls_mono (p := p) (q := vJ d p k) (yD d p k) (fun i j hi hj h => ((vD hd hp hlt (by omega) (by omega) k (Nat.le_refl _)).1 h).1)
 refine Nat.lt_of_le_of_ne h1 fun e => hne ?_
 refine oA (sV hn k) hn ⟨yD d p k, fun i j hi hj => ?_⟩
 rw [yD] at hi hj
 exact ⟨fun h => ((vD hd hp hlt (by omega) (by omega) k (Nat.le_refl _)).1 h).1, fun h => h2 e i j hi hj h⟩
def zU (d : DfaV) (k : Nat) : List Nat := zS d k d.final.length
theorem nJ {d : DfaV} {k m : Nat} (h : vJ d (zS d k m) k = zS d k m) : ∀ j, m ≤ j → zS d k j = zS d k m
 | 0, hj => by rw [show m = 0 by omega]
 | j + 1, hj => by
  by_cases e : m = j + 1
  ·rw [e]
  ·rw [zS, nJ h j (by omega), h]
theorem tV {d : DfaV} {k m : Nat} (hm : m ≤ d.final.length) (h : vJ d (zS d k m) k = zS d k m) : zU d k = zS d k m := nJ h _ hm
theorem mP {d : DfaV} {n k : Nat} (hd : VD d n k) : ∀ m, (∃ j, j ≤ m ∧ vJ d (zS d k j) k = zS d k j) ∨ m < cls (zS d k m)
 | 0 => .inr (nR (by rw [zX, hd.hn]; exact hd.n1))
 | m + 1 => by
  rcases mP hd m with ⟨j, hj, h⟩ | h
  ·exact .inl ⟨j, by omega, h⟩
  ·by_cases e : vJ d (zS d k m) k = zS d k m
   ·exact .inl ⟨m, by omega, e⟩
   ·have := sA hd (by rw [zX, hd.hn]) (xP d k m) e
    exact .inr (by rw [zS]; omega)
theorem classesD_fix {d : DfaV} {n k : Nat} (hd : VD d n k) : vJ d (zU d k) k = zU d k := by
 rcases mP hd d.final.length with ⟨j, hj, h⟩ | h
 ·rw [tV hj h, h]
 ·have := pJ (zS d k d.final.length)
  rw [zX] at this
  omega
theorem yZ (d : DfaV) (k : Nat) : (zU d k).length = d.final.length := zX _ _ _
theorem wW (d : DfaV) (k : Nat) : Norm (zU d k) := xP _ _ _
theorem firsts_norm {p : List Nat} (h : Norm p) : zP p = List.range (cls p) := by
 refine List.ext_getElem (by simp [cls]) fun i h1 h2 => ?_
 rw [List.getElem_range]
 have hm := List.getElem_mem h1
 obtain ⟨q, hq, e⟩ := List.getElem_of_mem (yL.1 hm)
 have hh : (numb p)[q]'(by rw [zV]; exact hq) = p[q] := by simp only [show numb p = p from h]
 rw [uD hq, e] at hh
 have h3 := List.idxOf_lt_length_of_mem hm
 have h4 := List.getElem_idxOf h3
 have := (List.getElem_inj (wM p)).1 h4
 omega
theorem uO {p : List Nat} (h : Norm p) (k : Nat) : zP (p.take k) = List.range (cls (p.take k)) := by
 have h1 := vN p k
 rw [firsts_norm h] at h1
 obtain ⟨r, hr⟩ := h1
 refine List.ext_getElem (by simp [cls]) fun i h1 h2 => ?_
 rw [List.getElem_range]
 have : (zP (p.take k) ++ r)[i]'(by rw [List.length_append]; omega) = i := by simp only [hr, List.getElem_range]
 rwa [List.getElem_append_left h1] at this
theorem rT {p : List Nat} (h : Norm p) {q : Nat} (hq : q < p.length) : p.getD q 0 ≤ cls (p.take q) ∧ (p.getD q 0 = cls (p.take q) → cls (p.take (q + 1)) = cls (p.take q) + 1) ∧ (p.getD q 0 ≠ cls (p.take q) → cls (p.take (q + 1)) = cls (p.take q)) := by
 have h1 := uO h (q + 1)
 have e : zP (p.take (q + 1)) = yE (zP (p.take q)) p[q] := by rw [List.take_succ_eq_append_getElem hq, vI]
 have h0 := uO h q
 rw [zG hq]
 by_cases hm : p[q] ∈ zP (p.take q)
 ·have hlt : p[q] < cls (p.take q) := by rw [h0] at hm; exact List.mem_range.1 hm
  rw [wZ hm] at e
  have : cls (p.take (q + 1)) = cls (p.take q) := by unfold cls; rw [e]
  exact ⟨by omega, fun h => by omega, fun _ => this⟩
 ·rw [xI hm] at e
  have hc : cls (p.take (q + 1)) = cls (p.take q) + 1 := by unfold cls; rw [e]; simp
  have hl : p[q] = cls (p.take q) := by
   rw [h1, h0, hc, List.range_succ] at e
   have := List.append_cancel_left e
   simpa using this.symm
  exact ⟨by omega, fun _ => hc, fun h => absurd hl h⟩
def wC (p : List Nat) (k : Nat) : List Nat := (List.range k).filter fun q => p.getD q 0 == cls (p.take q)
theorem xS {p : List Nat} {k : Nat} (h : p.getD k 0 = cls (p.take k)) : wC p (k + 1) = wC p k ++ [k] := by
 rw [wC, List.range_succ, List.filter_append, List.filter_cons, if_pos (beq_iff_eq.2 h)]; rfl
theorem xR {p : List Nat} {k : Nat} (h : p.getD k 0 ≠ cls (p.take k)) : wC p (k + 1) = wC p k := by
 rw [wC, List.range_succ, List.filter_append, List.filter_cons, if_neg (fun e => h (beq_iff_eq.1 e)), List.filter_nil, List.append_nil]; rfl
theorem xT {p : List Nat} (h : Norm p) : ∀ k, k ≤ p.length → (wC p k).length = cls (p.take k)
 | 0, _ => by simp [wC, cls, zP]
 | k + 1, hk => by
  obtain ⟨h0, h1, h2⟩ := rT h (show k < p.length by omega)
  have ih := xT h k (by omega)
  by_cases e : p.getD k 0 = cls (p.take k)
  ·rw [xS e, List.length_append, ih, h1 e]; rfl
  ·rw [xR e, ih, h2 e]
theorem sU {p : List Nat} (h : Norm p) : ∀ k, k ≤ p.length → ∀ c, c < cls (p.take k) → p.getD ((wC p k).getD c 0) 0 = c ∧ (wC p k).getD c 0 < k
 | 0, _, c, hc => by simp [cls, zP] at hc
 | k + 1, hk, c, hc => by
  obtain ⟨h0, h1, h2⟩ := rT h (show k < p.length by omega)
  have hl := xT h k (by omega)
  by_cases e : p.getD k 0 = cls (p.take k)
  ·rw [h1 e] at hc
   rw [xS e]
   by_cases hc' : c < cls (p.take k)
   ·have ih := sU h k (by omega) c hc'
    rw [show (wC p k ++ [k]).getD c 0 = (wC p k).getD c 0 from by simp [List.getD, List.getElem?_append_left (show c < (wC p k).length by omega)]]
    exact ⟨ih.1, by omega⟩
   ·have hc2 : c = (wC p k).length := by omega
    rw [show (wC p k ++ [k]).getD c 0 = k from by simp [List.getD, hc2]]
    exact ⟨by omega, by omega⟩
  ·rw [h2 e] at hc
   rw [xR e]
   have ih := sU h k (by omega) c hc
   exact ⟨ih.1, by omega⟩
def reps (p : List Nat) : List Nat := wC p p.length
def vX (p : List Nat) (r : List Int) : List Int := r.map fun s => ((p.getD s.toNat 0 : Nat) : Int)
def xU (d : DfaV) (p : List Nat) : DfaV :=
 ⟨d.letters, ((p.getD (st0 d) 0 : Nat) : Int), (reps p).map fun q => d.final.getD q false, (reps p).map fun q => vX p (d.next.getD q [])⟩
theorem wL {α β : Type} {l : List α} {f : α → β} {i : Nat} {x : α} {y : β} (h : i < l.length) : (l.map f).getD i y = f (l.getD i x) := by
 rw [zG (by simpa using h), zG h]; simp
theorem pH {p : List Nat} {r : List Int} {a : Nat} (h : a < r.length) : (vX p r).getD a 0 = ((p.getD (r.getD a 0).toNat 0 : Nat) : Int) := by
 rw [vX, wL (x := 0) h]
theorem vC {p : List Nat} (h : Norm p) : (reps p).length = cls p := by
 have := xT h p.length (Nat.le_refl _)
 rwa [List.take_length] at this
theorem uB {p : List Nat} (h : Norm p) {c : Nat} (hc : c < cls p) : p.getD ((reps p).getD c 0) 0 = c ∧ (reps p).getD c 0 < p.length :=
 sU h p.length (Nat.le_refl _) c (by rwa [List.take_length])
theorem vF {p : List Nat} (h : Norm p) {i : Nat} (hi : i < p.length) : p.getD i 0 < cls p := by
 have := lG (l := p)
 rw [h] at this
 rw [zG hi]
 exact this _ (List.getElem_mem hi)
section
variable {d : DfaV} {n k : Nat} {p : List Nat}
theorem pY (hd : VD d n k) (hp : p.length = n) (hn : Norm p) {c a : Nat} (hc : c < cls p) (ha : a < k) : ent (xU d p).next c a = ((p.getD (nx d ((reps p).getD c 0) a) 0 : Nat) : Int) := by
 have hr := uB hn hc
 unfold ent xU
 rw [wL (x := 0) (by rw [vC hn]; exact hc), pH (by rw [hd.row _ (by omega)]; exact ha)]
 rfl
theorem lD (hd : VD d n k) (hp : p.length = n) (hn : Norm p) : VD (xU d p) (cls p) k where
 hk := hd.hk
 k1 := hd.k1
 k6 := hd.k6
 hn := by simp [xU, vC hn]
 n1 := nR (by rw [hp]; exact hd.n1)
 nbig := Nat.le_trans (pJ p) (by rw [hp]; exact hd.nbig)
 nl := by simp [xU, vC hn]
 s0 := by simp [xU]
 sn := by
  have := vF hn (i := st0 d) (by rw [hp]; exact sJ hd)
  simp only [xU]
  omega
 row := fun c hc => by
  simp only [xU]
  rw [wL (x := 0) (by rw [vC hn]; exact hc)]
  have hr := uB hn hc
  rw [vX, List.length_map, hd.row _ (by omega)]
 lo := fun c a hc ha => by rw [pY hd hp hn hc ha]; omega
 hi := fun c a hc ha => by
  rw [pY hd hp hn hc ha]
  have hr := uB hn hc
  have := vF hn (i := nx d ((reps p).getD c 0) a) (by rw [hp]; exact qN hd (by omega) ha)
  omega
theorem quot_nx (hd : VD d n k) (hp : p.length = n) (hn : Norm p) (hst : vJ d p k = p) {q a : Nat} (hq : q < n) (ha : a < k) : nx (xU d p) (p.getD q 0) a = p.getD (nx d q a) 0 := by
 have hlt : ∀ c ∈ p, c < n := by have := qP hn; rwa [hp] at this
 have hc := vF hn (i := q) (by omega)
 have hr := uB hn hc
 have h1 := vD hd hp hlt (i := (reps p).getD (p.getD q 0) 0) (j := q) (by omega) hq k (Nat.le_refl _)
 rw [hst] at h1
 have h2 := (h1.1 hr.1).2 a ha
 show (ent (xU d p).next (p.getD q 0) a).toNat = _
 rw [pY hd hp hn hc ha, h2]
 simp
end
def run (d : DfaV) (q : Nat) (w : List Nat) : Nat := w.foldl (nx d) q
def xC (k : Nat) (w : List Nat) : Prop := ∀ a ∈ w, a < k
theorem oR {d : DfaV} {n k : Nat} (hd : VD d n k) : ∀ (w : List Nat) {q : Nat}, q < n → xC k w → run d q w < n
 | [], q, hq, _ => hq
 | a :: w, q, hq, hw => oR hd w (qN hd hq (hw a (by simp))) (fun b hb => hw b (by simp [hb]))
theorem pT (d : DfaV) (q : Nat) (w : List Nat) (a : Nat) : run d q (w ++ [a]) = nx d (run d q w) a := by simp [run]
theorem run_append (d : DfaV) (q : Nat) (u v : List Nat) : run d q (u ++ v) = run d (run d q u) v := by simp [run]
theorem mE {d : DfaV} {n k : Nat} {p : List Nat} (hd : VD d n k) (hp : p.length = n) (hn : Norm p) (hst : vJ d p k = p) : ∀ (w : List Nat) {q : Nat}, q < n → xC k w → run (xU d p) (p.getD q 0) w = p.getD (run d q w) 0
 | [], q, _, _ => rfl
 | a :: w, q, hq, hw => by
  have ha := hw a (by simp)
  show run (xU d p) (nx (xU d p) (p.getD q 0) a) w = p.getD (run d (nx d q a) w) 0
  rw [quot_nx hd hp hn hst hq ha]
  exact mE hd hp hn hst w (qN hd hq ha) (fun b hb => hw b (by simp [hb]))
def xG (d : DfaV) (l : List Nat) (i : Nat) : Nat → List Nat
 | 0 => l
 | a + 1 => yE (xG d l i a) (nx d (l.getD i 0) a)
def vS (d : DfaV) (k : Nat) : Nat → Nat → List Nat → List Nat
 | 0, _, l => l
 | f + 1, i, l => if i < l.length then vS d k f (i + 1) (xG d l i k) else l
def zL (d : DfaV) (k : Nat) : List Nat := vS d k d.final.length 0 [st0 d]
theorem xZ (d : DfaV) (l : List Nat) (i : Nat) : ∀ a, l <+: xG d l i a
 | 0 => List.prefix_refl _
 | a + 1 => (xZ d l i a).trans (uM _ _)
theorem rN {d : DfaV} {l : List Nat} (h : l.Nodup) (i : Nat) : ∀ a, (xG d l i a).Nodup
 | 0 => h
 | a + 1 => rM (rN h i a)
theorem wE {d : DfaV} {l : List Nat} {i : Nat} {y : Nat} : ∀ {a}, y ∈ xG d l i a ↔ y ∈ l ∨ ∃ b, b < a ∧ y = nx d (l.getD i 0) b
 | 0 => by simp [xG]
 | a + 1 => by
  rw [xG, tI, wE, or_assoc]
  refine or_congr_right ⟨?_, ?_⟩
  ·rintro (⟨b, hb, h⟩ | h)
   ·exact ⟨b, by omega, h⟩
   ·exact ⟨a, by omega, h⟩
  ·rintro ⟨b, hb, h⟩
   rcases Nat.lt_succ_iff_lt_or_eq.1 hb with hb | rfl
   ·exact .inl ⟨b, hb, h⟩
   ·exact .inr h
structure AccI (d : DfaV) (n k i : Nat) (l : List Nat) : Prop where
 nd : l.Nodup
 lt : ∀ q ∈ l, q < n
 hd : 0 < l.length ∧ l.getD 0 0 = st0 d
 cl : ∀ j a, j < i → j < l.length → a < k → nx d (l.getD j 0) a ∈ l
 re : ∀ q ∈ l, ∃ w, xC k w ∧ run d (st0 d) w = q
theorem uJ {l m : List Nat} (h : l <+: m) {i : Nat} (hi : i < l.length) : m.getD i 0 = l.getD i 0 := by
 obtain ⟨r, rfl⟩ := h
 simp [List.getD, List.getElem?_append_left hi]
theorem AccI.row {d : DfaV} {n k i : Nat} {l : List Nat} (hd : VD d n k) (h : AccI d n k i l) (hi : i < l.length) : AccI d n k (i + 1) (xG d l i k) := by
 have hp := xZ d l i k
 have hle := hp.length_le
 have hil : l.getD i 0 ∈ l := by rw [zG hi]; exact List.getElem_mem _
 have hin := h.lt _ hil
 refine ⟨rN h.nd i k, fun q hq => ?_, ⟨by have := h.hd.1; omega, by rw [uJ hp h.hd.1]; exact h.hd.2⟩, fun j a hj hjl ha => ?_, fun q hq => ?_⟩
 ·rcases wE.1 hq with hq | ⟨b, hb, rfl⟩
  ·exact h.lt q hq
  ·exact qN hd hin hb
 ·rw [uJ hp (show j < l.length by omega)]
  rcases Nat.lt_succ_iff_lt_or_eq.1 hj with hj | rfl
  ·exact wE.2 (.inl (h.cl j a hj (by omega) ha))
  ·exact wE.2 (.inr ⟨a, ha, rfl⟩)
 ·rcases wE.1 hq with hq | ⟨b, hb, rfl⟩
  ·exact h.re q hq
  ·obtain ⟨w, hw, e⟩ := h.re _ hil
   refine ⟨w ++ [b], fun c hc => ?_, by rw [pT, e]⟩
   rcases List.mem_append.1 hc with hc | hc
   ·exact hw c hc
   ·rw [List.mem_singleton] at hc; subst hc; exact hb
theorem rU {l : List Nat} {n : Nat} (h : l.Nodup) (hl : ∀ q ∈ l, q < n) : l.length ≤ n := by
 have := h.length_le_of_subset (fun q hq => List.mem_range.2 (hl q hq))
 simpa using this
theorem AccI.start {d : DfaV} {n k : Nat} (hd : VD d n k) : AccI d n k 0 [st0 d] :=
 ⟨by simp, fun q hq => by rw [List.mem_singleton] at hq; subst hq; exact sJ hd, ⟨by simp, by simp⟩, fun j a hj => by omega, fun q hq => by
  rw [List.mem_singleton] at hq; subst hq; exact ⟨[], fun a ha => by simp at ha, rfl⟩⟩
theorem mR {d : DfaV} {n k : Nat} (hd : VD d n k) : ∀ f i l, AccI d n k i l → n ≤ i + f → AccI d n k n (vS d k f i l) ∧ (vS d k f i l).length ≤ n
 | 0, i, l, h, hf => by
  have hl := rU h.nd h.lt
  exact ⟨⟨h.nd, h.lt, h.hd, fun j a hj hjl ha => h.cl j a (by omega) hjl ha, h.re⟩, hl⟩
 | f + 1, i, l, h, hf => by
  rw [vS]
  split
  ·rename_i hi
   exact mR hd f (i + 1) _ (h.row hd hi) (by omega)
  ·rename_i hi
   have hl := rU h.nd h.lt
   exact ⟨⟨h.nd, h.lt, h.hd, fun j a hj hjl ha => h.cl j a (by omega) hjl ha, h.re⟩, hl⟩
theorem yF {d : DfaV} {n k : Nat} (hd : VD d n k) : AccI d n k n (zL d k) ∧ (zL d k).length ≤ n := mR hd _ _ _ (AccI.start hd) (by rw [hd.hn]; omega)
theorem nK {d : DfaV} {k f i : Nat} {l : List Nat} (h : ¬ i < l.length) : vS d k f i l = l := by
 cases f with
 | zero => rfl
 | succ f => rw [vS, if_neg h]
def uC (l : List Nat) (q : Nat) : Int := if q ∈ l then (l.idxOf q : Int) else -1
def vA (l : List Nat) (r : List Int) : List Int := r.map fun s => uC l s.toNat
def yK (d : DfaV) (k : Nat) : DfaV := ⟨d.letters, 0, (zL d k).map fun q => d.final.getD q false, (zL d k).map fun q => vA (zL d k) (d.next.getD q [])⟩
section
variable {d : DfaV} {n k : Nat}
theorem sI (hd : VD d n k) {i a : Nat} (hi : i < (zL d k).length) (ha : a < k) : ent (yK d k).next i a = (((zL d k).idxOf (nx d ((zL d k).getD i 0) a) : Nat) : Int) := by
 have hA := (yF hd).1
 have hq := hA.lt _ (show (zL d k).getD i 0 ∈ zL d k by rw [zG hi]; exact List.getElem_mem _)
 have hn := (yF hd).2
 unfold ent yK
 rw [wL (x := 0) hi, vA, wL (x := 0) (by rw [hd.row _ hq]; exact ha), uC, if_pos]
 ·rfl
 ·exact hA.cl i a (by omega) hi ha
theorem tX (hd : VD d n k) : VD (yK d k) (zL d k).length k where
 hk := hd.hk
 k1 := hd.k1
 k6 := hd.k6
 hn := by simp [yK]
 n1 := (yF hd).1.hd.1
 nbig := Nat.le_trans (yF hd).2 hd.nbig
 nl := by simp [yK]
 s0 := by simp [yK]
 sn := by have := (yF hd).1.hd.1; simp only [yK]; omega
 row := fun i hi => by
  have hA := (yF hd).1
  have hq := hA.lt _ (show (zL d k).getD i 0 ∈ zL d k by rw [zG hi]; exact List.getElem_mem _)
  simp only [yK]
  rw [wL (x := 0) hi, vA, List.length_map, hd.row _ hq]
 lo := fun i a hi ha => by rw [sI hd hi ha]; omega
 hi := fun i a hi ha => by
  have hn := (yF hd).2
  rw [sI hd hi ha]
  have := List.idxOf_lt_length_of_mem ((yF hd).1.cl i a (by omega) hi ha)
  omega
theorem mY (hd : VD d n k) {i a : Nat} (hi : i < (zL d k).length) (ha : a < k) : nx (yK d k) i a = (zL d k).idxOf (nx d ((zL d k).getD i 0) a) := by
 show (ent (yK d k).next i a).toNat = _
 rw [sI hd hi ha]; simp
theorem nS (hd : VD d n k) : ∀ (w : List Nat) {i : Nat}, i < (zL d k).length → xC k w → (zL d k).getD (run (yK d k) i w) 0 = run d ((zL d k).getD i 0) w
 | [], i, _, _ => rfl
 | a :: w, i, hi, hw => by
  have ha := hw a (by simp)
  have hn := (yF hd).2
  have hm := (yF hd).1.cl i a (by omega) hi ha
  have hlt := List.idxOf_lt_length_of_mem hm
  have h := nS hd w (i := nx (yK d k) i a) (by rw [mY hd hi ha]; exact hlt) (fun b hb => hw b (by simp [hb]))
  show (zL d k).getD (run (yK d k) (nx (yK d k) i a) w) 0 = run d (nx d ((zL d k).getD i 0) a) w
  rw [h, mY hd hi ha, zG hlt, List.getElem_idxOf]
theorem sS (hd : VD d n k) {i : Nat} (hi : i < (zL d k).length) : (yK d k).final.getD i false = d.final.getD ((zL d k).getD i 0) false := by
 simp only [yK]; rw [wL (x := 0) hi]
end
def minD (d : DfaV) (k : Nat) : DfaV := yK (xU d (zU d k)) k
def minN (d : DfaV) (k : Nat) : Nat := (zL (xU d (zU d k)) k).length
section
variable {d : DfaV} {n k : Nat}
theorem sL (hd : VD d n k) : VD (xU d (zU d k)) (cls (zU d k)) k := lD hd (by rw [yZ, hd.hn]) (wW d k)
theorem qQ (hd : VD d n k) : VD (minD d k) (minN d k) k := tX (sL hd)
theorem minN_le (hd : VD d n k) : minN d k ≤ n := Nat.le_trans (yF (sL hd)).2 (Nat.le_trans (pJ _) (by rw [yZ, hd.hn]; exact Nat.le_refl _))
end
end Go.Proofs.Ytgbfaggnnfoamaa
