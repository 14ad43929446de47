/- Part 16 of the proof: MinPlain. -/
import Derived.Test.YtdjhoadoiknaoaaDoorZq15
set_option linter.unusedVariables false
set_option linter.unusedSimpArgs false
namespace Go.Proofs.YtdjhoadoiknaoaaDoor
theorem cls_le (p : List Nat) : cls p ≤ p.length := tK p
theorem part0_norm (d : DfaV) : Norm (part0 d) := numb_norm _
def clsIt (d : DfaV) (k : Nat) : Nat → List Nat
 | 0 => part0 d
 | m + 1 => refTo d (clsIt d k m) k
theorem wP (d : DfaV) (k : Nat) : ∀ m, (clsIt d k m).length = d.final.length
 | 0 => part0_length d
 | m + 1 => by rw [clsIt, yV, wP d k m]
theorem clsIt_norm (d : DfaV) (k : Nat) : ∀ m, Norm (clsIt d k m)
 | 0 => part0_norm d
 | m + 1 => refTo_norm (clsIt_norm d k m) k
theorem cls_pos {p : List Nat} (h : 0 < p.length) : 0 < cls p := by
 have hm : p[0] ∈ yF p := xZ.2 (List.getElem_mem h)
 exact List.length_pos_of_mem hm
theorem refine_grow {d : DfaV} {n k : Nat} (hd : VD d n k) {p : List Nat} (hp : p.length = n) (hn : Norm p) (hne : refTo d p k ≠ p) : cls p < cls (refTo d p k) := by
 have hlt : ∀ c ∈ p, c < n := by have := norm_lt hn; rwa [hp] at this
 obtain ⟨h1, h2⟩ := cls_mono (p := p) (q := refTo d p k) (yV d p k) (fun i j hi hj h => ((refTo_iff hd hp hlt (by omega) (by omega) k (Nat.le_refl _)).1 h).1)
 refine Nat.lt_of_le_of_ne h1 fun e => hne ?_
 refine norm_ext (refTo_norm hn k) hn ⟨yV d p k, fun i j hi hj => ?_⟩
 rw [yV] at hi hj
 exact ⟨fun h => ((refTo_iff hd hp hlt (by omega) (by omega) k (Nat.le_refl _)).1 h).1, fun h => h2 e i j hi hj h⟩
def xQ (d : DfaV) (k : Nat) : List Nat := clsIt d k d.final.length
theorem clsIt_fix {d : DfaV} {k m : Nat} (h : refTo d (clsIt d k m) k = clsIt d k m) : ∀ j, m ≤ j → clsIt d k j = clsIt d k m
 | 0, hj => by rw [show m = 0 by omega]
 | j + 1, hj => by
  by_cases e : m = j + 1
  ·rw [e]
  ·rw [clsIt, clsIt_fix h j (by omega), h]
theorem classes_of_fix {d : DfaV} {k m : Nat} (hm : m ≤ d.final.length) (h : refTo d (clsIt d k m) k = clsIt d k m) : xQ d k = clsIt d k m := clsIt_fix h _ hm
theorem clsIt_or {d : DfaV} {n k : Nat} (hd : VD d n k) : ∀ m, (∃ j, j ≤ m ∧ refTo d (clsIt d k j) k = clsIt d k j) ∨ m < cls (clsIt d k m)
 | 0 => .inr (cls_pos (by rw [wP, hd.hn]; exact hd.n1))
 | m + 1 => by
  rcases clsIt_or hd m with ⟨j, hj, h⟩ | h
  ·exact .inl ⟨j, by omega, h⟩
  ·by_cases e : refTo d (clsIt d k m) k = clsIt d k m
   ·exact .inl ⟨m, by omega, e⟩
   ·have := refine_grow hd (by rw [wP, hd.hn]) (clsIt_norm d k m) e
    exact .inr (by rw [clsIt]; omega)
theorem classesD_fix {d : DfaV} {n k : Nat} (hd : VD d n k) : refTo d (xQ d k) k = xQ d k := by
 rcases clsIt_or hd d.final.length with ⟨j, hj, h⟩ | h
 ·rw [classes_of_fix hj h, h]
 ·have := cls_le (clsIt d k d.final.length)
  rw [wP] at this
  omega
theorem uU (d : DfaV) (k : Nat) : (xQ d k).length = d.final.length := wP _ _ _
theorem classesD_norm (d : DfaV) (k : Nat) : Norm (xQ d k) := clsIt_norm _ _ _
theorem firsts_norm {p : List Nat} (h : Norm p) : yF p = List.range (cls p) := by
 refine List.ext_getElem (by simp [cls]) fun i h1 h2 => ?_
 rw [List.getElem_range]
 have hm := List.getElem_mem h1
 obtain ⟨q, hq, e⟩ := List.getElem_of_mem (xZ.1 hm)
 have hh : (numb p)[q]'(by rw [xH]; exact hq) = p[q] := by simp only [show numb p = p from h]
 rw [numb_get hq, e] at hh
 have h3 := List.idxOf_lt_length_of_mem hm
 have h4 := List.getElem_idxOf h3
 have := (List.getElem_inj (sM p)).1 h4
 omega
theorem firsts_norm_take {p : List Nat} (h : Norm p) (k : Nat) : yF (p.take k) = List.range (cls (p.take k)) := by
 have h1 := firsts_take_prefix p k
 rw [firsts_norm h] at h1
 obtain ⟨r, hr⟩ := h1
 refine List.ext_getElem (by simp [cls]) fun i h1 h2 => ?_
 rw [List.getElem_range]
 have : (yF (p.take k) ++ r)[i]'(by rw [List.length_append]; omega) = i := by simp only [hr, List.getElem_range]
 rwa [List.getElem_append_left h1] at this
theorem norm_new {p : List Nat} (h : Norm p) {q : Nat} (hq : q < p.length) : p.getD q 0 ≤ cls (p.take q) ∧ (p.getD q 0 = cls (p.take q) → cls (p.take (q + 1)) = cls (p.take q) + 1) ∧ (p.getD q 0 ≠ cls (p.take q) → cls (p.take (q + 1)) = cls (p.take q)) := by
 have h1 := firsts_norm_take h (q + 1)
 have e : yF (p.take (q + 1)) = uF (yF (p.take q)) p[q] := by rw [List.take_succ_eq_append_getElem hq, tZ]
 have h0 := firsts_norm_take h q
 rw [zN hq]
 by_cases hm : p[q] ∈ yF (p.take q)
 ·have hlt : p[q] < cls (p.take q) := by rw [h0] at hm; exact List.mem_range.1 hm
  rw [tQ hm] at e
  have : cls (p.take (q + 1)) = cls (p.take q) := by unfold cls; rw [e]
  exact ⟨by omega, fun h => by omega, fun _ => this⟩
 ·rw [tR hm] at e
  have hc : cls (p.take (q + 1)) = cls (p.take q) + 1 := by unfold cls; rw [e]; simp
  have hl : p[q] = cls (p.take q) := by
   rw [h1, h0, hc, List.range_succ] at e
   have := List.append_cancel_left e
   simpa using this.symm
  exact ⟨by omega, fun _ => hc, fun h => absurd hl h⟩
def uS (p : List Nat) (k : Nat) : List Nat := (List.range k).filter fun q => p.getD q 0 == cls (p.take q)
theorem uQ {p : List Nat} {k : Nat} (h : p.getD k 0 = cls (p.take k)) : uS p (k + 1) = uS p k ++ [k] := by
 rw [uS, List.range_succ, List.filter_append, List.filter_cons, if_pos (beq_iff_eq.2 h)]; rfl
theorem uP {p : List Nat} {k : Nat} (h : p.getD k 0 ≠ cls (p.take k)) : uS p (k + 1) = uS p k := by
 rw [uS, List.range_succ, List.filter_append, List.filter_cons, if_neg (fun e => h (beq_iff_eq.1 e)), List.filter_nil, List.append_nil]; rfl
theorem uR {p : List Nat} (h : Norm p) : ∀ k, k ≤ p.length → (uS p k).length = cls (p.take k)
 | 0, _ => by simp [uS, cls, yF]
 | k + 1, hk => by
  obtain ⟨h0, h1, h2⟩ := norm_new h (show k < p.length by omega)
  have ih := uR h k (by omega)
  by_cases e : p.getD k 0 = cls (p.take k)
  ·rw [uQ e, List.length_append, ih, h1 e]; rfl
  ·rw [uP e, ih, h2 e]
theorem repsTo_get {p : List Nat} (h : Norm p) : ∀ k, k ≤ p.length → ∀ c, c < cls (p.take k) → p.getD ((uS p k).getD c 0) 0 = c ∧ (uS p k).getD c 0 < k
 | 0, _, c, hc => by simp [cls, yF] at hc
 | k + 1, hk, c, hc => by
  obtain ⟨h0, h1, h2⟩ := norm_new h (show k < p.length by omega)
  have hl := uR h k (by omega)
  by_cases e : p.getD k 0 = cls (p.take k)
  ·rw [h1 e] at hc
   rw [uQ e]
   by_cases hc' : c < cls (p.take k)
   ·have ih := repsTo_get h k (by omega) c hc'
    rw [show (uS p k ++ [k]).getD c 0 = (uS p k).getD c 0 from by simp [List.getD, List.getElem?_append_left (show c < (uS p k).length by omega)]]
    exact ⟨ih.1, by omega⟩
   ·have hc2 : c = (uS p k).length := by omega
    rw [show (uS p k ++ [k]).getD c 0 = k from by simp [List.getD, hc2]]
    exact ⟨by omega, by omega⟩
  ·rw [h2 e] at hc
   rw [uP e]
   have ih := repsTo_get h k (by omega) c hc
   exact ⟨ih.1, by omega⟩
def reps (p : List Nat) : List Nat := uS p p.length
def uT (p : List Nat) (r : List Int) : List Int := r.map fun s => ((p.getD s.toNat 0 : Nat) : Int)
def quotD (d : DfaV) (p : List Nat) : DfaV :=
 ⟨d.letters, ((p.getD (st0 d) 0 : Nat) : Int), (reps p).map fun q => d.final.getD q false, (reps p).map fun q => uT p (d.next.getD q [])⟩
theorem xO {α β : Type} {l : List α} {f : α → β} {i : Nat} {x : α} {y : β} (h : i < l.length) : (l.map f).getD i y = f (l.getD i x) := by
 rw [zN (by simpa using h), zN h]; simp
theorem mapRow_get {p : List Nat} {r : List Int} {a : Nat} (h : a < r.length) : (uT p r).getD a 0 = ((p.getD (r.getD a 0).toNat 0 : Nat) : Int) := by
 rw [uT, xO (x := 0) h]
theorem reps_length {p : List Nat} (h : Norm p) : (reps p).length = cls p := by
 have := uR h p.length (Nat.le_refl _)
 rwa [List.take_length] at this
theorem reps_get {p : List Nat} (h : Norm p) {c : Nat} (hc : c < cls p) : p.getD ((reps p).getD c 0) 0 = c ∧ (reps p).getD c 0 < p.length :=
 repsTo_get h p.length (Nat.le_refl _) c (by rwa [List.take_length])
theorem norm_lt_cls {p : List Nat} (h : Norm p) {i : Nat} (hi : i < p.length) : p.getD i 0 < cls p := by
 have := numb_lt (l := p)
 rw [h] at this
 rw [zN hi]
 exact this _ (List.getElem_mem hi)
section
variable {d : DfaV} {n k : Nat} {p : List Nat}
theorem quot_ent (hd : VD d n k) (hp : p.length = n) (hn : Norm p) {c a : Nat} (hc : c < cls p) (ha : a < k) : ent (quotD d p).next c a = ((p.getD (nx d ((reps p).getD c 0) a) 0 : Nat) : Int) := by
 have hr := reps_get hn hc
 unfold ent quotD
 rw [xO (x := 0) (by rw [reps_length hn]; exact hc), mapRow_get (by rw [hd.row _ (by omega)]; exact ha)]
 rfl
theorem quot_vd (hd : VD d n k) (hp : p.length = n) (hn : Norm p) : VD (quotD d p) (cls p) k where
 hk := hd.hk
 k1 := hd.k1
 k6 := hd.k6
 hn := by simp [quotD, reps_length hn]
 n1 := cls_pos (by rw [hp]; exact hd.n1)
 n512 := Nat.le_trans (cls_le p) (by rw [hp]; exact hd.n512)
 nl := by simp [quotD, reps_length hn]
 s0 := by simp [quotD]
 sn := by
  have := norm_lt_cls hn (i := st0 d) (by rw [hp]; exact st0_lt hd)
  simp only [quotD]
  omega
 row := fun c hc => by
  simp only [quotD]
  rw [xO (x := 0) (by rw [reps_length hn]; exact hc)]
  have hr := reps_get hn hc
  rw [uT, List.length_map, hd.row _ (by omega)]
 lo := fun c a hc ha => by rw [quot_ent hd hp hn hc ha]; omega
 hi := fun c a hc ha => by
  rw [quot_ent hd hp hn hc ha]
  have hr := reps_get hn hc
  have := norm_lt_cls hn (i := nx d ((reps p).getD c 0) a) (by rw [hp]; exact nx_lt hd (by omega) ha)
  omega
theorem quot_nx (hd : VD d n k) (hp : p.length = n) (hn : Norm p) (hst : refTo d p k = p) {q a : Nat} (hq : q < n) (ha : a < k) : nx (quotD d p) (p.getD q 0) a = p.getD (nx d q a) 0 := by
 have hlt : ∀ c ∈ p, c < n := by have := norm_lt hn; rwa [hp] at this
 have hc := norm_lt_cls hn (i := q) (by omega)
 have hr := reps_get hn hc
 have h1 := refTo_iff hd hp hlt (i := (reps p).getD (p.getD q 0) 0) (j := q) (by omega) hq k (Nat.le_refl _)
 rw [hst] at h1
 have h2 := (h1.1 hr.1).2 a ha
 show (ent (quotD d p).next (p.getD q 0) a).toNat = _
 rw [quot_ent hd hp hn hc ha, h2]
 simp
end
def run (d : DfaV) (q : Nat) (w : List Nat) : Nat := w.foldl (nx d) q
def uH (k : Nat) (w : List Nat) : Prop := ∀ a ∈ w, a < k
theorem run_lt {d : DfaV} {n k : Nat} (hd : VD d n k) : ∀ (w : List Nat) {q : Nat}, q < n → uH k w → run d q w < n
 | [], q, hq, _ => hq
 | a :: w, q, hq, hw => run_lt hd w (nx_lt hd hq (hw a (by simp))) (fun b hb => hw b (by simp [hb]))
theorem run_snoc (d : DfaV) (q : Nat) (w : List Nat) (a : Nat) : run d q (w ++ [a]) = nx d (run d q w) a := by simp [run]
theorem uJ (d : DfaV) (q : Nat) (u v : List Nat) : run d q (u ++ v) = run d (run d q u) v := by simp [run]
theorem quot_run {d : DfaV} {n k : Nat} {p : List Nat} (hd : VD d n k) (hp : p.length = n) (hn : Norm p) (hst : refTo d p k = p) : ∀ (w : List Nat) {q : Nat}, q < n → uH k w → run (quotD d p) (p.getD q 0) w = p.getD (run d q w) 0
 | [], q, _, _ => rfl
 | a :: w, q, hq, hw => by
  have ha := hw a (by simp)
  show run (quotD d p) (nx (quotD d p) (p.getD q 0) a) w = p.getD (run d (nx d q a) w) 0
  rw [quot_nx hd hp hn hst hq ha]
  exact quot_run hd hp hn hst w (nx_lt hd hq ha) (fun b hb => hw b (by simp [hb]))
def sF (d : DfaV) (l : List Nat) (i : Nat) : Nat → List Nat
 | 0 => l
 | a + 1 => uF (sF d l i a) (nx d (l.getD i 0) a)
def accGo (d : DfaV) (k : Nat) : Nat → Nat → List Nat → List Nat
 | 0, _, l => l
 | f + 1, i, l => if i < l.length then accGo d k f (i + 1) (sF d l i k) else l
def yX (d : DfaV) (k : Nat) : List Nat := accGo d k d.final.length 0 [st0 d]
theorem accRow_prefix (d : DfaV) (l : List Nat) (i : Nat) : ∀ a, l <+: sF d l i a
 | 0 => List.prefix_refl _
 | a + 1 => (accRow_prefix d l i a).trans (addNew_prefix _ _)
theorem accRow_nodup {d : DfaV} {l : List Nat} (h : l.Nodup) (i : Nat) : ∀ a, (sF d l i a).Nodup
 | 0 => h
 | a + 1 => addNew_nodup (accRow_nodup h i a)
theorem tP {d : DfaV} {l : List Nat} {i : Nat} {y : Nat} : ∀ {a}, y ∈ sF d l i a ↔ y ∈ l ∨ ∃ b, b < a ∧ y = nx d (l.getD i 0) b
 | 0 => by simp [sF]
 | a + 1 => by
  rw [sF, mem_addNew, tP, or_assoc]
  refine or_congr_right ⟨?_, ?_⟩
  ·rintro (⟨b, hb, h⟩ | h)
   ·exact ⟨b, by omega, h⟩
   ·exact ⟨a, by omega, h⟩
  ·rintro ⟨b, hb, h⟩
   rcases Nat.lt_succ_iff_lt_or_eq.1 hb with hb | rfl
   ·exact .inl ⟨b, hb, h⟩
   ·exact .inr h
structure AccI (d : DfaV) (n k i : Nat) (l : List Nat) : Prop where
 nd : l.Nodup
 lt : ∀ q ∈ l, q < n
 hd : 0 < l.length ∧ l.getD 0 0 = st0 d
 cl : ∀ j a, j < i → j < l.length → a < k → nx d (l.getD j 0) a ∈ l
 re : ∀ q ∈ l, ∃ w, uH k w ∧ run d (st0 d) w = q
theorem getD_prefix {l m : List Nat} (h : l <+: m) {i : Nat} (hi : i < l.length) : m.getD i 0 = l.getD i 0 := by
 obtain ⟨r, rfl⟩ := h
 simp [List.getD, List.getElem?_append_left hi]
theorem AccI.row {d : DfaV} {n k i : Nat} {l : List Nat} (hd : VD d n k) (h : AccI d n k i l) (hi : i < l.length) : AccI d n k (i + 1) (sF d l i k) := by
 have hp := accRow_prefix d l i k
 have hle := hp.length_le
 have hil : l.getD i 0 ∈ l := by rw [zN hi]; exact List.getElem_mem _
 have hin := h.lt _ hil
 refine ⟨accRow_nodup h.nd i k, fun q hq => ?_, ⟨by have := h.hd.1; omega, by rw [getD_prefix hp h.hd.1]; exact h.hd.2⟩, fun j a hj hjl ha => ?_, fun q hq => ?_⟩
 ·rcases tP.1 hq with hq | ⟨b, hb, rfl⟩
  ·exact h.lt q hq
  ·exact nx_lt hd hin hb
 ·rw [getD_prefix hp (show j < l.length by omega)]
  rcases Nat.lt_succ_iff_lt_or_eq.1 hj with hj | rfl
  ·exact tP.2 (.inl (h.cl j a hj (by omega) ha))
  ·exact tP.2 (.inr ⟨a, ha, rfl⟩)
 ·rcases tP.1 hq with hq | ⟨b, hb, rfl⟩
  ·exact h.re q hq
  ·obtain ⟨w, hw, e⟩ := h.re _ hil
   refine ⟨w ++ [b], fun c hc => ?_, by rw [run_snoc, e]⟩
   rcases List.mem_append.1 hc with hc | hc
   ·exact hw c hc
   ·rw [List.mem_singleton] at hc; subst hc; exact hb
theorem nodup_le {l : List Nat} {n : Nat} (h : l.Nodup) (hl : ∀ q ∈ l, q < n) : l.length ≤ n := by
 have := h.length_le_of_subset (fun q hq => List.mem_range.2 (hl q hq))
 simpa using this
theorem AccI.start {d : DfaV} {n k : Nat} (hd : VD d n k) : AccI d n k 0 [st0 d] :=
 ⟨by simp, fun q hq => by rw [List.mem_singleton] at hq; subst hq; exact st0_lt hd, ⟨by simp, by simp⟩, fun j a hj => by omega, fun q hq => by
  rw [List.mem_singleton] at hq; subst hq; exact ⟨[], fun a ha => by simp at ha, rfl⟩⟩
theorem accGo_ok {d : DfaV} {n k : Nat} (hd : VD d n k) : ∀ f i l, AccI d n k i l → n ≤ i + f → AccI d n k n (accGo d k f i l) ∧ (accGo d k f i l).length ≤ n
 | 0, i, l, h, hf => by
  have hl := nodup_le h.nd h.lt
  exact ⟨⟨h.nd, h.lt, h.hd, fun j a hj hjl ha => h.cl j a (by omega) hjl ha, h.re⟩, hl⟩
 | f + 1, i, l, h, hf => by
  rw [accGo]
  split
  ·rename_i hi
   exact accGo_ok hd f (i + 1) _ (h.row hd hi) (by omega)
  ·rename_i hi
   have hl := nodup_le h.nd h.lt
   exact ⟨⟨h.nd, h.lt, h.hd, fun j a hj hjl ha => h.cl j a (by omega) hjl ha, h.re⟩, hl⟩
theorem xY {d : DfaV} {n k : Nat} (hd : VD d n k) : AccI d n k n (yX d k) ∧ (yX d k).length ≤ n := accGo_ok hd _ _ _ (AccI.start hd) (by rw [hd.hn]; omega)
theorem accGo_end {d : DfaV} {k f i : Nat} {l : List Nat} (h : ¬ i < l.length) : accGo d k f i l = l := by
 cases f with
 | zero => rfl
 | succ f => rw [accGo, if_neg h]
def placeOf (l : List Nat) (q : Nat) : Int := if q ∈ l then (l.idxOf q : Int) else -1
def wS (l : List Nat) (r : List Int) : List Int := r.map fun s => placeOf l s.toNat
def trimD (d : DfaV) (k : Nat) : DfaV := ⟨d.letters, 0, (yX d k).map fun q => d.final.getD q false, (yX d k).map fun q => wS (yX d k) (d.next.getD q [])⟩
section
variable {d : DfaV} {n k : Nat}
theorem trim_ent (hd : VD d n k) {i a : Nat} (hi : i < (yX d k).length) (ha : a < k) : ent (trimD d k).next i a = (((yX d k).idxOf (nx d ((yX d k).getD i 0) a) : Nat) : Int) := by
 have hA := (xY hd).1
 have hq := hA.lt _ (show (yX d k).getD i 0 ∈ yX d k by rw [zN hi]; exact List.getElem_mem _)
 have hn := (xY hd).2
 unfold ent trimD
 rw [xO (x := 0) hi, wS, xO (x := 0) (by rw [hd.row _ hq]; exact ha), placeOf, if_pos]
 ·rfl
 ·exact hA.cl i a (by omega) hi ha
theorem trim_vd (hd : VD d n k) : VD (trimD d k) (yX d k).length k where
 hk := hd.hk
 k1 := hd.k1
 k6 := hd.k6
 hn := by simp [trimD]
 n1 := (xY hd).1.hd.1
 n512 := Nat.le_trans (xY hd).2 hd.n512
 nl := by simp [trimD]
 s0 := by simp [trimD]
 sn := by have := (xY hd).1.hd.1; simp only [trimD]; omega
 row := fun i hi => by
  have hA := (xY hd).1
  have hq := hA.lt _ (show (yX d k).getD i 0 ∈ yX d k by rw [zN hi]; exact List.getElem_mem _)
  simp only [trimD]
  rw [xO (x := 0) hi, wS, List.length_map, hd.row _ hq]
 lo := fun i a hi ha => by rw [trim_ent hd hi ha]; omega
 hi := fun i a hi ha => by
  have hn := (xY hd).2
  rw [trim_ent hd hi ha]
  have := List.idxOf_lt_length_of_mem ((xY hd).1.cl i a (by omega) hi ha)
  omega
theorem trim_nx (hd : VD d n k) {i a : Nat} (hi : i < (yX d k).length) (ha : a < k) : nx (trimD d k) i a = (yX d k).idxOf (nx d ((yX d k).getD i 0) a) := by
 show (ent (trimD d k).next i a).toNat = _
 rw [trim_ent hd hi ha]; simp
theorem trim_run (hd : VD d n k) : ∀ (w : List Nat) {i : Nat}, i < (yX d k).length → uH k w → (yX d k).getD (run (trimD d k) i w) 0 = run d ((yX d k).getD i 0) w
 | [], i, _, _ => rfl
 | a :: w, i, hi, hw => by
  have ha := hw a (by simp)
  have hn := (xY hd).2
  have hm := (xY hd).1.cl i a (by omega) hi ha
  have hlt := List.idxOf_lt_length_of_mem hm
  have h := trim_run hd w (i := nx (trimD d k) i a) (by rw [trim_nx hd hi ha]; exact hlt) (fun b hb => hw b (by simp [hb]))
  show (yX d k).getD (run (trimD d k) (nx (trimD d k) i a) w) 0 = run d (nx d ((yX d k).getD i 0) a) w
  rw [h, trim_nx hd hi ha, zN hlt, List.getElem_idxOf]
end
def minD (d : DfaV) (k : Nat) : DfaV := trimD (quotD d (xQ d k)) k
def minN (d : DfaV) (k : Nat) : Nat := (yX (quotD d (xQ d k)) k).length
section
variable {d : DfaV} {n k : Nat}
theorem quotC_vd (hd : VD d n k) : VD (quotD d (xQ d k)) (cls (xQ d k)) k := quot_vd hd (by rw [uU, hd.hn]) (classesD_norm d k)
theorem min_vd (hd : VD d n k) : VD (minD d k) (minN d k) k := trim_vd (quotC_vd hd)
theorem minN_le (hd : VD d n k) : minN d k ≤ n := Nat.le_trans (xY (quotC_vd hd)).2 (Nat.le_trans (cls_le _) (by rw [uU, hd.hn]; exact Nat.le_refl _))
theorem min_run (hd : VD d n k) {w : List Nat} (hw : uH k w) : (yX (quotD d (xQ d k)) k).getD (run (minD d k) 0 w) 0 = (xQ d k).getD (run d (st0 d) w) 0 := by
 have h0 := (xY (quotC_vd hd)).1.hd
 rw [minD, trim_run (quotC_vd hd) w h0.1 hw, h0.2]
 exact quot_run hd (by rw [uU, hd.hn]) (classesD_norm d k) (classesD_fix hd) w (st0_lt hd) hw
theorem min_same (hd : VD d n k) {u v : List Nat} (hu : uH k u) (hv : uH k v) (h : run d (st0 d) u = run d (st0 d) v) : run (minD d k) 0 u = run (minD d k) 0 v := by
 have h1 := min_run hd hu
 have h2 := min_run hd hv
 rw [h, ← h2] at h1
 have hm := min_vd hd
 have l1 := run_lt hm u hm.n1 hu
 have l2 := run_lt hm v hm.n1 hv
 unfold minN at l1 l2
 rw [zN l1, zN l2] at h1
 exact (List.getElem_inj (xY (quotC_vd hd)).1.nd).1 h1
theorem min_reach (hd : VD d n k) {i : Nat} (hi : i < minN d k) : ∃ w, uH k w ∧ run (minD d k) 0 w = i := by
 have hA := (xY (quotC_vd hd)).1
 obtain ⟨w, hw, e⟩ := hA.re _ (show (yX (quotD d (xQ d k)) k).getD i 0 ∈ _ by rw [zN hi]; exact List.getElem_mem _)
 refine ⟨w, hw, ?_⟩
 have h := trim_run (quotC_vd hd) w hA.hd.1 hw
 rw [hA.hd.2, e] at h
 have hm := min_vd hd
 have l1 := run_lt hm w hm.n1 hw
 unfold minN at l1 hi
 show run (trimD (quotD d (xQ d k)) k) 0 w = i
 have l1' : run (trimD (quotD d (xQ d k)) k) 0 w < (yX (quotD d (xQ d k)) k).length := l1
 rw [zN l1', zN hi] at h
 exact (List.getElem_inj hA.nd).1 h
end
end Go.Proofs.YtdjhoadoiknaoaaDoor
