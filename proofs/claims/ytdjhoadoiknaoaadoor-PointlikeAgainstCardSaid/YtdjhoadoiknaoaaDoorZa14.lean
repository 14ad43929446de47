/- Part 14 of the proof: MinPlain, Dfa. -/
import Derived.Test.YtdjhoadoiknaoaaDoorZa13
set_option linter.unusedVariables false
set_option linter.unusedSimpArgs false
namespace Go.Proofs.YtdjhoadoiknaoaaDoor
theorem cls_le (p : List Nat) : cls p ≤ p.length := tU p
theorem part0_norm (d : DfaV) : Norm (part0 d) := numb_norm _
def clsIt (d : DfaV) (k : Nat) : Nat → List Nat
 | 0 => part0 d
 | m + 1 => refTo d (clsIt d k m) k
theorem tQ (d : DfaV) (k : Nat) : ∀ m, (clsIt d k m).length = d.final.length
 | 0 => part0_length d
 | m + 1 => by rw [clsIt, yY, tQ d k m]
theorem clsIt_norm (d : DfaV) (k : Nat) : ∀ m, Norm (clsIt d k m)
 | 0 => part0_norm d
 | m + 1 => refTo_norm (clsIt_norm d k m) k
theorem cls_pos {p : List Nat} (h : 0 < p.length) : 0 < cls p := by
 have hm : p[0] ∈ yJ p := xY.2 (List.getElem_mem h)
 exact List.length_pos_of_mem hm
theorem refine_grow {d : DfaV} {n k : Nat} (hd : VD d n k) {p : List Nat} (hp : p.length = n) (hn : Norm p) (hne : refTo d p k ≠ p) : cls p < cls (refTo d p k) := by
 have hlt : ∀ c ∈ p, c < n := by have := norm_lt hn; rwa [hp] at this
 obtain ⟨h1, h2⟩ := cls_mono (p := p) (q := refTo d p k) (yY d p k) (fun i j hi hj h => ((refTo_iff hd hp hlt (by omega) (by omega) k (Nat.le_refl _)).1 h).1)
 refine Nat.lt_of_le_of_ne h1 fun e => hne ?_
 refine norm_ext (refTo_norm hn k) hn ⟨yY d p k, fun i j hi hj => ?_⟩
 rw [yY] at hi hj
 exact ⟨fun h => ((refTo_iff hd hp hlt (by omega) (by omega) k (Nat.le_refl _)).1 h).1, fun h => h2 e i j hi hj h⟩
def uY (d : DfaV) (k : Nat) : List Nat := clsIt d k d.final.length
theorem clsIt_fix {d : DfaV} {k m : Nat} (h : refTo d (clsIt d k m) k = clsIt d k m) : ∀ j, m ≤ j → clsIt d k j = clsIt d k m
 | 0, hj => by rw [show m = 0 by omega]
 | j + 1, hj => by
  by_cases e : m = j + 1
  ·rw [e]
  ·rw [clsIt, clsIt_fix h j (by omega), h]
theorem classes_of_fix {d : DfaV} {k m : Nat} (hm : m ≤ d.final.length) (h : refTo d (clsIt d k m) k = clsIt d k m) : uY d k = clsIt d k m := clsIt_fix h _ hm
theorem classesD_length (d : DfaV) (k : Nat) : (uY d k).length = d.final.length := tQ _ _ _
theorem classesD_norm (d : DfaV) (k : Nat) : Norm (uY d k) := clsIt_norm _ _ _
theorem firsts_norm {p : List Nat} (h : Norm p) : yJ p = List.range (cls p) := by
 refine List.ext_getElem (by simp [cls]) fun i h1 h2 => ?_
 rw [List.getElem_range]
 have hm := List.getElem_mem h1
 obtain ⟨q, hq, e⟩ := List.getElem_of_mem (xY.1 hm)
 have hh : (numb p)[q]'(by rw [xJ]; exact hq) = p[q] := by simp only [show numb p = p from h]
 rw [numb_get hq, e] at hh
 have h3 := List.idxOf_lt_length_of_mem hm
 have h4 := List.getElem_idxOf h3
 have := (List.getElem_inj (firsts_nodup p)).1 h4
 omega
theorem firsts_norm_take {p : List Nat} (h : Norm p) (k : Nat) : yJ (p.take k) = List.range (cls (p.take k)) := by
 have h1 := firsts_take_prefix p k
 rw [firsts_norm h] at h1
 obtain ⟨r, hr⟩ := h1
 refine List.ext_getElem (by simp [cls]) fun i h1 h2 => ?_
 rw [List.getElem_range]
 have : (yJ (p.take k) ++ r)[i]'(by rw [List.length_append]; omega) = i := by simp only [hr, List.getElem_range]
 rwa [List.getElem_append_left h1] at this
theorem norm_new {p : List Nat} (h : Norm p) {q : Nat} (hq : q < p.length) : p.getD q 0 ≤ cls (p.take q) ∧ (p.getD q 0 = cls (p.take q) → cls (p.take (q + 1)) = cls (p.take q) + 1) ∧ (p.getD q 0 ≠ cls (p.take q) → cls (p.take (q + 1)) = cls (p.take q)) := by
 have h1 := firsts_norm_take h (q + 1)
 have e : yJ (p.take (q + 1)) = uB (yJ (p.take q)) p[q] := by rw [List.take_succ_eq_append_getElem hq, sZ]
 have h0 := firsts_norm_take h q
 rw [zT hq]
 by_cases hm : p[q] ∈ yJ (p.take q)
 ·have hlt : p[q] < cls (p.take q) := by rw [h0] at hm; exact List.mem_range.1 hm
  rw [sD hm] at e
  have : cls (p.take (q + 1)) = cls (p.take q) := by unfold cls; rw [e]
  exact ⟨by omega, fun h => by omega, fun _ => this⟩
 ·rw [sF hm] at e
  have hc : cls (p.take (q + 1)) = cls (p.take q) + 1 := by unfold cls; rw [e]; simp
  have hl : p[q] = cls (p.take q) := by
   rw [h1, h0, hc, List.range_succ] at e
   have := List.append_cancel_left e
   simpa using this.symm
  exact ⟨by omega, fun _ => hc, fun h => absurd hl h⟩
def uV (p : List Nat) (k : Nat) : List Nat := (List.range k).filter fun q => p.getD q 0 == cls (p.take q)
theorem uT {p : List Nat} {k : Nat} (h : p.getD k 0 = cls (p.take k)) : uV p (k + 1) = uV p k ++ [k] := by
 rw [uV, List.range_succ, List.filter_append, List.filter_cons, if_pos (beq_iff_eq.2 h)]; rfl
theorem uS {p : List Nat} {k : Nat} (h : p.getD k 0 ≠ cls (p.take k)) : uV p (k + 1) = uV p k := by
 rw [uV, List.range_succ, List.filter_append, List.filter_cons, if_neg (fun e => h (beq_iff_eq.1 e)), List.filter_nil, List.append_nil]; rfl
theorem uU {p : List Nat} (h : Norm p) : ∀ k, k ≤ p.length → (uV p k).length = cls (p.take k)
 | 0, _ => by simp [uV, cls, yJ]
 | k + 1, hk => by
  obtain ⟨h0, h1, h2⟩ := norm_new h (show k < p.length by omega)
  have ih := uU h k (by omega)
  by_cases e : p.getD k 0 = cls (p.take k)
  ·rw [uT e, List.length_append, ih, h1 e]; rfl
  ·rw [uS e, ih, h2 e]
theorem repsTo_get {p : List Nat} (h : Norm p) : ∀ k, k ≤ p.length → ∀ c, c < cls (p.take k) → p.getD ((uV p k).getD c 0) 0 = c ∧ (uV p k).getD c 0 < k
 | 0, _, c, hc => by simp [cls, yJ] at hc
 | k + 1, hk, c, hc => by
  obtain ⟨h0, h1, h2⟩ := norm_new h (show k < p.length by omega)
  have hl := uU h k (by omega)
  by_cases e : p.getD k 0 = cls (p.take k)
  ·rw [h1 e] at hc
   rw [uT e]
   by_cases hc' : c < cls (p.take k)
   ·have ih := repsTo_get h k (by omega) c hc'
    rw [show (uV p k ++ [k]).getD c 0 = (uV p k).getD c 0 from by simp [List.getD, List.getElem?_append_left (show c < (uV p k).length by omega)]]
    exact ⟨ih.1, by omega⟩
   ·have hc2 : c = (uV p k).length := by omega
    rw [show (uV p k ++ [k]).getD c 0 = k from by simp [List.getD, hc2]]
    exact ⟨by omega, by omega⟩
  ·rw [h2 e] at hc
   rw [uS e]
   have ih := repsTo_get h k (by omega) c hc
   exact ⟨ih.1, by omega⟩
def reps (p : List Nat) : List Nat := uV p p.length
def uX (p : List Nat) (r : List Int) : List Int := r.map fun s => ((p.getD s.toNat 0 : Nat) : Int)
def quotD (d : DfaV) (p : List Nat) : DfaV :=
 ⟨d.letters, ((p.getD (st0 d) 0 : Nat) : Int), (reps p).map fun q => d.final.getD q false, (reps p).map fun q => uX p (d.next.getD q [])⟩
theorem wX {α β : Type} {l : List α} {f : α → β} {i : Nat} {x : α} {y : β} (h : i < l.length) : (l.map f).getD i y = f (l.getD i x) := by
 rw [zT (by simpa using h), zT h]; simp
theorem mapRow_get {p : List Nat} {r : List Int} {a : Nat} (h : a < r.length) : (uX p r).getD a 0 = ((p.getD (r.getD a 0).toNat 0 : Nat) : Int) := by
 rw [uX, wX (x := 0) h]
theorem reps_length {p : List Nat} (h : Norm p) : (reps p).length = cls p := by
 have := uU h p.length (Nat.le_refl _)
 rwa [List.take_length] at this
theorem reps_get {p : List Nat} (h : Norm p) {c : Nat} (hc : c < cls p) : p.getD ((reps p).getD c 0) 0 = c ∧ (reps p).getD c 0 < p.length :=
 repsTo_get h p.length (Nat.le_refl _) c (by rwa [List.take_length])
theorem norm_lt_cls {p : List Nat} (h : Norm p) {i : Nat} (hi : i < p.length) : p.getD i 0 < cls p := by
 have := numb_lt (l := p)
 rw [h] at this
 rw [zT hi]
 exact this _ (List.getElem_mem hi)
section
variable {d : DfaV} {n k : Nat} {p : List Nat}
theorem quot_ent (hd : VD d n k) (hp : p.length = n) (hn : Norm p) {c a : Nat} (hc : c < cls p) (ha : a < k) : ent (quotD d p).next c a = ((p.getD (nx d ((reps p).getD c 0) a) 0 : Nat) : Int) := by
 have hr := reps_get hn hc
 unfold ent quotD
 rw [wX (x := 0) (by rw [reps_length hn]; exact hc), mapRow_get (by rw [hd.row _ (by omega)]; exact ha)]
 rfl
theorem quot_vd (hd : VD d n k) (hp : p.length = n) (hn : Norm p) : VD (quotD d p) (cls p) k where
 hk := hd.hk
 k1 := hd.k1
 k6 := hd.k6
 hn := by simp [quotD, reps_length hn]
 n1 := cls_pos (by rw [hp]; exact hd.n1)
 n512 := Nat.le_trans (cls_le p) (by rw [hp]; exact hd.n512)
 nl := by simp [quotD, reps_length hn]
 s0 := by simp [quotD]
 sn := by
  have := norm_lt_cls hn (i := st0 d) (by rw [hp]; exact st0_lt hd)
  simp only [quotD]
  omega
 row := fun c hc => by
  simp only [quotD]
  rw [wX (x := 0) (by rw [reps_length hn]; exact hc)]
  have hr := reps_get hn hc
  rw [uX, List.length_map, hd.row _ (by omega)]
 lo := fun c a hc ha => by rw [quot_ent hd hp hn hc ha]; omega
 hi := fun c a hc ha => by
  rw [quot_ent hd hp hn hc ha]
  have hr := reps_get hn hc
  have := norm_lt_cls hn (i := nx d ((reps p).getD c 0) a) (by rw [hp]; exact nx_lt hd (by omega) ha)
  omega
end
def run (d : DfaV) (q : Nat) (w : List Nat) : Nat := w.foldl (nx d) q
def wordOk (k : Nat) (w : List Nat) : Prop := ∀ a ∈ w, a < k
theorem run_snoc (d : DfaV) (q : Nat) (w : List Nat) (a : Nat) : run d q (w ++ [a]) = nx d (run d q w) a := by simp [run]
def accRow (d : DfaV) (l : List Nat) (i : Nat) : Nat → List Nat
 | 0 => l
 | a + 1 => uB (accRow d l i a) (nx d (l.getD i 0) a)
def accGo (d : DfaV) (k : Nat) : Nat → Nat → List Nat → List Nat
 | 0, _, l => l
 | f + 1, i, l => if i < l.length then accGo d k f (i + 1) (accRow d l i k) else l
def wG (d : DfaV) (k : Nat) : List Nat := accGo d k d.final.length 0 [st0 d]
theorem accRow_prefix (d : DfaV) (l : List Nat) (i : Nat) : ∀ a, l <+: accRow d l i a
 | 0 => List.prefix_refl _
 | a + 1 => (accRow_prefix d l i a).trans (addNew_prefix _ _)
theorem accRow_nodup {d : DfaV} {l : List Nat} (h : l.Nodup) (i : Nat) : ∀ a, (accRow d l i a).Nodup
 | 0 => h
 | a + 1 => addNew_nodup (accRow_nodup h i a)
theorem tZ {d : DfaV} {l : List Nat} {i : Nat} {y : Nat} : ∀ {a}, y ∈ accRow d l i a ↔ y ∈ l ∨ ∃ b, b < a ∧ y = nx d (l.getD i 0) b
 | 0 => by simp [accRow]
 | a + 1 => by
  rw [accRow, mem_addNew, tZ, or_assoc]
  refine or_congr_right ⟨?_, ?_⟩
  ·rintro (⟨b, hb, h⟩ | h)
   ·exact ⟨b, by omega, h⟩
   ·exact ⟨a, by omega, h⟩
  ·rintro ⟨b, hb, h⟩
   rcases Nat.lt_succ_iff_lt_or_eq.1 hb with hb | rfl
   ·exact .inl ⟨b, hb, h⟩
   ·exact .inr h
structure AccI (d : DfaV) (n k i : Nat) (l : List Nat) : Prop where
 nd : l.Nodup
 lt : ∀ q ∈ l, q < n
 hd : 0 < l.length ∧ l.getD 0 0 = st0 d
 cl : ∀ j a, j < i → j < l.length → a < k → nx d (l.getD j 0) a ∈ l
 re : ∀ q ∈ l, ∃ w, wordOk k w ∧ run d (st0 d) w = q
theorem getD_prefix {l m : List Nat} (h : l <+: m) {i : Nat} (hi : i < l.length) : m.getD i 0 = l.getD i 0 := by
 obtain ⟨r, rfl⟩ := h
 simp [List.getD, List.getElem?_append_left hi]
theorem AccI.row {d : DfaV} {n k i : Nat} {l : List Nat} (hd : VD d n k) (h : AccI d n k i l) (hi : i < l.length) : AccI d n k (i + 1) (accRow d l i k) := by
 have hp := accRow_prefix d l i k
 have hle := hp.length_le
 have hil : l.getD i 0 ∈ l := by rw [zT hi]; exact List.getElem_mem _
 have hin := h.lt _ hil
 refine ⟨accRow_nodup h.nd i k, fun q hq => ?_, ⟨by have := h.hd.1; omega, by rw [getD_prefix hp h.hd.1]; exact h.hd.2⟩, fun j a hj hjl ha => ?_, fun q hq => ?_⟩
 ·rcases tZ.1 hq with hq | ⟨b, hb, rfl⟩
  ·exact h.lt q hq
  ·exact nx_lt hd hin hb
 ·rw [getD_prefix hp (show j < l.length by omega)]
  rcases Nat.lt_succ_iff_lt_or_eq.1 hj with hj | rfl
  ·exact tZ.2 (.inl (h.cl j a hj (by omega) ha))
  ·exact tZ.2 (.inr ⟨a, ha, rfl⟩)
 ·rcases tZ.1 hq with hq | ⟨b, hb, rfl⟩
  ·exact h.re q hq
  ·obtain ⟨w, hw, e⟩ := h.re _ hil
   refine ⟨w ++ [b], fun c hc => ?_, by rw [run_snoc, e]⟩
   rcases List.mem_append.1 hc with hc | hc
   ·exact hw c hc
   ·rw [List.mem_singleton] at hc; subst hc; exact hb
theorem nodup_le {l : List Nat} {n : Nat} (h : l.Nodup) (hl : ∀ q ∈ l, q < n) : l.length ≤ n := by
 have := h.length_le_of_subset (fun q hq => List.mem_range.2 (hl q hq))
 simpa using this
theorem AccI.start {d : DfaV} {n k : Nat} (hd : VD d n k) : AccI d n k 0 [st0 d] :=
 ⟨by simp, fun q hq => by rw [List.mem_singleton] at hq; subst hq; exact st0_lt hd, ⟨by simp, by simp⟩, fun j a hj => by omega, fun q hq => by
  rw [List.mem_singleton] at hq; subst hq; exact ⟨[], fun a ha => by simp at ha, rfl⟩⟩
theorem accGo_ok {d : DfaV} {n k : Nat} (hd : VD d n k) : ∀ f i l, AccI d n k i l → n ≤ i + f → AccI d n k n (accGo d k f i l) ∧ (accGo d k f i l).length ≤ n
 | 0, i, l, h, hf => by
  have hl := nodup_le h.nd h.lt
  exact ⟨⟨h.nd, h.lt, h.hd, fun j a hj hjl ha => h.cl j a (by omega) hjl ha, h.re⟩, hl⟩
 | f + 1, i, l, h, hf => by
  rw [accGo]
  split
  ·rename_i hi
   exact accGo_ok hd f (i + 1) _ (h.row hd hi) (by omega)
  ·rename_i hi
   have hl := nodup_le h.nd h.lt
   exact ⟨⟨h.nd, h.lt, h.hd, fun j a hj hjl ha => h.cl j a (by omega) hjl ha, h.re⟩, hl⟩
theorem uD {d : DfaV} {n k : Nat} (hd : VD d n k) : AccI d n k n (wG d k) ∧ (wG d k).length ≤ n := accGo_ok hd _ _ _ (AccI.start hd) (by rw [hd.hn]; omega)
theorem accGo_end {d : DfaV} {k f i : Nat} {l : List Nat} (h : ¬ i < l.length) : accGo d k f i l = l := by
 cases f with
 | zero => rfl
 | succ f => rw [accGo, if_neg h]
def placeOf (l : List Nat) (q : Nat) : Int := if q ∈ l then (l.idxOf q : Int) else -1
def wS (l : List Nat) (r : List Int) : List Int := r.map fun s => placeOf l s.toNat
def trimD (d : DfaV) (k : Nat) : DfaV := ⟨d.letters, 0, (wG d k).map fun q => d.final.getD q false, (wG d k).map fun q => wS (wG d k) (d.next.getD q [])⟩
section
variable {d : DfaV} {n k : Nat}
theorem trim_ent (hd : VD d n k) {i a : Nat} (hi : i < (wG d k).length) (ha : a < k) : ent (trimD d k).next i a = (((wG d k).idxOf (nx d ((wG d k).getD i 0) a) : Nat) : Int) := by
 have hA := (uD hd).1
 have hq := hA.lt _ (show (wG d k).getD i 0 ∈ wG d k by rw [zT hi]; exact List.getElem_mem _)
 have hn := (uD hd).2
 unfold ent trimD
 rw [wX (x := 0) hi, wS, wX (x := 0) (by rw [hd.row _ hq]; exact ha), placeOf, if_pos]
 ·rfl
 ·exact hA.cl i a (by omega) hi ha
theorem trim_vd (hd : VD d n k) : VD (trimD d k) (wG d k).length k where
 hk := hd.hk
 k1 := hd.k1
 k6 := hd.k6
 hn := by simp [trimD]
 n1 := (uD hd).1.hd.1
 n512 := Nat.le_trans (uD hd).2 hd.n512
 nl := by simp [trimD]
 s0 := by simp [trimD]
 sn := by have := (uD hd).1.hd.1; simp only [trimD]; omega
 row := fun i hi => by
  have hA := (uD hd).1
  have hq := hA.lt _ (show (wG d k).getD i 0 ∈ wG d k by rw [zT hi]; exact List.getElem_mem _)
  simp only [trimD]
  rw [wX (x := 0) hi, wS, List.length_map, hd.row _ hq]
 lo := fun i a hi ha => by rw [trim_ent hd hi ha]; omega
 hi := fun i a hi ha => by
  have hn := (uD hd).2
  rw [trim_ent hd hi ha]
  have := List.idxOf_lt_length_of_mem ((uD hd).1.cl i a (by omega) hi ha)
  omega
end
def minD (d : DfaV) (k : Nat) : DfaV := trimD (quotD d (uY d k)) k
def minN (d : DfaV) (k : Nat) : Nat := (wG (quotD d (uY d k)) k).length
section
variable {d : DfaV} {n k : Nat}
theorem quotC_vd (hd : VD d n k) : VD (quotD d (uY d k)) (cls (uY d k)) k := quot_vd hd (by rw [classesD_length, hd.hn]) (classesD_norm d k)
theorem min_vd (hd : VD d n k) : VD (minD d k) (minN d k) k := trim_vd (quotC_vd hd)
theorem minN_le (hd : VD d n k) : minN d k ≤ n := Nat.le_trans (uD (quotC_vd hd)).2 (Nat.le_trans (cls_le _) (by rw [classesD_length, hd.hn]; exact Nat.le_refl _))
end
end Go.Proofs.YtdjhoadoiknaoaaDoor
namespace Go.Proofs.YtdjhoadoiknaoaaDoor
open Go.RowKit
def DfaOk (B : Nat) (w : World) (v : Value) (d : DfaV) : Prop := ∃ fv nv, v = .agg #[.int .i64 d.letters, .int .i64 d.start, fv, nv] ∧ Row B w fv (bls d.final) ∧ Mat B w nv d.next
theorem DfaOk.kept {B : Nat} {w w' : World} {v : Value} {d : DfaV} {row : Option Nat} (h : DfaOk B w v d) (hg : w.grownBy w' row) (hr : ∀ k, row = some k → B ≤ k) : DfaOk B w' v d := by
 obtain ⟨fv, nv, h1, h2, h3⟩ := h
 exact ⟨fv, nv, h1, h2.kept hg hr, h3.kept hg hr⟩
theorem DfaOk.mono {B B' : Nat} {w : World} {v : Value} {d : DfaV} (h : DfaOk B w v d) (hB : B ≤ B') : DfaOk B' w v d := by
 obtain ⟨fv, nv, h1, h2, h3⟩ := h
 exact ⟨fv, nv, h1, h2.mono hB, h3.mono hB⟩
theorem validD_letters {d : DfaV} (h : d.letters < 1 ∨ 6 < d.letters) : uO d = 1 := by rw [uO, if_pos h]
theorem validD_big {d : DfaV} (h : ¬ (d.letters < 1 ∨ 6 < d.letters)) (h2 : 512 < d.final.length) : uO d = 3 := by rw [uO, if_neg h, if_pos h2]
theorem validD_shape {d : DfaV} (h : ¬ (d.letters < 1 ∨ 6 < d.letters)) (h2 : ¬ 512 < d.final.length) (h3 : d.final.length = 0 ∨ d.next.length ≠ d.final.length ∨ d.start < 0 ∨ d.final.length ≤ d.start) : uO d = 4 := by rw [uO, if_neg h, if_neg h2, if_pos h3]
theorem validD_row {d : DfaV} (h : ¬ (d.letters < 1 ∨ 6 < d.letters)) (h2 : ¬ 512 < d.final.length) (h3 : ¬ (d.final.length = 0 ∨ d.next.length ≠ d.final.length ∨ d.start < 0 ∨ d.final.length ≤ d.start)) {q : Nat} (hq : q < d.next.length) (hb : rowD d.letters d.final.length (d.next.getD q []) = false) : uO d = 4 := by
 rw [uO, if_neg h, if_neg h2, if_neg h3, if_neg]
 intro ha
 have := List.all_eq_true.1 ha d.next[q] (List.getElem_mem hq)
 rw [zT hq, this] at hb; cases hb
theorem validD_ok {d : DfaV} (h : ¬ (d.letters < 1 ∨ 6 < d.letters)) (h2 : ¬ 512 < d.final.length) (h3 : ¬ (d.final.length = 0 ∨ d.next.length ≠ d.final.length ∨ d.start < 0 ∨ d.final.length ≤ d.start)) (ha : ∀ q, q < d.next.length → rowD d.letters d.final.length (d.next.getD q []) = true) : uO d = 0 := by
 rw [uO, if_neg h, if_neg h2, if_neg h3, if_pos]
 rw [List.all_eq_true]
 intro r hr
 obtain ⟨q, hq, rfl⟩ := List.getElem_of_mem hr
 have := ha q hq
 rwa [zT hq] at this
theorem rowD_len {k : Int} {n : Nat} {r : List Int} (h : (r.length : Int) ≠ k) : rowD k n r = false := by simp [rowD, h]
theorem rowD_bad {k : Int} {n : Nat} {r : List Int} {y : Nat} (hy : y < r.length) (h : r.getD y 0 < 0 ∨ n ≤ r.getD y 0) : rowD k n r = false := by
 rw [← Bool.not_eq_true]
 intro hr
 have := (rowD_iff.1 hr).2 y hy
 omega
def DRows (d : DfaV) (k : Nat) : Prop := ∀ x, x < k → rowD d.letters d.final.length (d.next.getD x []) = true
set_option maxHeartbeats 800000 in
theorem validate7_any (B : Nat) (w : World) (v : Value) (d : DfaV) (hB : B ≤ w.heap.size) (h : DfaOk B w v d) :
  Calls Tryd.prog 44 #[v] w fun e w' => e = .returned (.int .i64 (uO d)) ∧ w.grownBy w' none := by
 obtain ⟨fv, nv, rfl, hf, hn⟩ := h
 have hfl := hf.len_le
 rw [xZ] at hfl
 unfold maxLen at hfl
 have hnl := hn.len_le
 unfold maxLen at hnl
 obtain ⟨fa, fc, rfl⟩ := hf.shape
 rw [xZ] at hf ⊢
 obtain ⟨na, nc, rfl⟩ := hn.shape
 have HN := Kh hn
 obtain ⟨n, hnn⟩ : ∃ n, n = d.final.length := ⟨_, rfl⟩
 obtain ⟨m, hmm⟩ : ∃ m, m = d.next.length := ⟨_, rfl⟩
 obtain ⟨L, hL⟩ : ∃ L, L = d.letters := ⟨_, rfl⟩
 obtain ⟨S, hS⟩ : ∃ S, S = d.start := ⟨_, rfl⟩
 rw [← hnn] at hfl ⊢
 rw [← hmm] at hnl HN ⊢
 rw [← hL, ← hS]
 have HNN := Kh hnn; have HMM := Kh hmm; have HLL := Kh hL; have HSS := Kh hS
 clear hf hn hnn hmm hL hS
 obtain ⟨wA, hWA⟩ : ∃ wA, wA = w.alloc (.cells #[.int .i64 L, .int .i64 S, .slice fa n fc, .slice na m nc] 28) := ⟨_, rfl⟩
 have hbox : wA.heap[w.heap.size]? = some (.cells #[.int .i64 L, .int .i64 S, .slice fa n fc, .slice na m nc] 28 (0, 0)) := by rw [hWA]; exact heap_alloc_new w _
 have hgA : w.grownBy wA none := by rw [hWA]; exact World.grownBy_alloc w _ none
 have c0 := zJ hbox 0 (by simp)
 have c1 := zJ hbox 1 (by simp)
 have c2 := zJ hbox 2 (by simp)
 have c3 := zJ hbox 3 (by simp)
 simp only [List.getElem_toArray, List.getElem_cons_zero, List.getElem_cons_succ] at c0 c1 c2 c3
 have HGA := Kh hgA; have HWA := Kh hWA
 clear hbox hgA hWA
 by_cases hl : L < 1 ∨ 6 < L
 ·have HE := Kh (validD_letters (d := d) (by rw [← HLL.out]; exact hl))
  have hm1 : decide (1 ≤ L ∧ L ≤ 6) = false := decide_eq_false (by omega)
  go_enter Tryd.func44, Tryd.ntmps44
  go_wp2_with fail
  rw [← HWA.out]
  refine (xH wA L).mono ?_
  rintro e w1 ⟨rfl, rfl⟩
  rw [hm1]
  go_wp2
  go_ret
  exact ⟨yD HE.out.symm, HGA.out⟩
 ·have hl1 : 1 ≤ L := by omega
  have hl6 : L ≤ 6 := by omega
  have HLT : Hid (¬ (d.letters < 1 ∨ 6 < d.letters)) := Kh (by rw [← HLL.out]; exact hl)
  have hm1 : decide (1 ≤ L ∧ L ≤ 6) = true := decide_eq_true (by omega)
  clear hl
  by_cases h5 : 512 < n
  ·have HE := Kh (validD_big HLT.out (by rw [← HNN.out]; exact h5))
   go_enter Tryd.func44, Tryd.ntmps44
   go_wp2_with fail
   rw [← HWA.out]
   refine (xH wA L).mono ?_
   rintro e w1 ⟨rfl, rfl⟩
   rw [hm1]
   go_wp2
   go_ret
   exact ⟨yD HE.out.symm, HGA.out⟩
  ·have H5 : Hid (¬ 512 < d.final.length) := Kh (by rw [← HNN.out]; exact h5)
   by_cases hsh : n = 0 ∨ m ≠ n ∨ S < 0 ∨ n ≤ S
   ·have HE := Kh (validD_shape HLT.out H5.out (by rw [← HNN.out, ← HMM.out, ← HSS.out]; exact hsh))
    by_cases h0 : n = 0
    ·have e0 : ((n : Int) == 0) = true := by rw [beq_iff_eq]; omega
     clear hsh h0
     go_enter Tryd.func44, Tryd.ntmps44
     go_wp2_with fail
     rw [← HWA.out]
     refine (xH wA L).mono ?_
     rintro e w1 ⟨rfl, rfl⟩
     rw [hm1]
     go_wp2
     go_ret
     exact ⟨yD HE.out.symm, HGA.out⟩
    ·have e0 : ((n : Int) == 0) = false := by rw [beq_eq_false_iff_ne]; omega
     by_cases hmn : m = n
     ·have e1 : ((m : Int) != n) = false := by rw [hmn]; simp
      have HMN := Kh hmn
      by_cases hs : S < 0
      ·clear hsh hmn
       go_enter Tryd.func44, Tryd.ntmps44
       go_wp2_with fail
       rw [← HWA.out]
       refine (xH wA L).mono ?_
       rintro e w1 ⟨rfl, rfl⟩
       rw [hm1]
       go_wp2
       go_ret
       exact ⟨yD HE.out.symm, HGA.out⟩
      ·have hs2 : (n : Int) ≤ S := by omega
       clear hsh hmn
       go_enter Tryd.func44, Tryd.ntmps44
       go_wp2_with fail
       rw [← HWA.out]
       refine (xH wA L).mono ?_
       rintro e w1 ⟨rfl, rfl⟩
       rw [hm1]
       go_wp2
       go_ret
       exact ⟨yD HE.out.symm, HGA.out⟩
     ·have e1 : ((m : Int) != n) = true := by rw [bne_iff_ne]; omega
      clear hsh
      go_enter Tryd.func44, Tryd.ntmps44
      go_wp2_with fail
      rw [← HWA.out]
      refine (xH wA L).mono ?_
      rintro e w1 ⟨rfl, rfl⟩
      rw [hm1]
      go_wp2
      go_ret
      exact ⟨yD HE.out.symm, HGA.out⟩
   ·have HSH : Hid (¬ (d.final.length = 0 ∨ d.next.length ≠ d.final.length ∨ d.start < 0 ∨ d.final.length ≤ d.start)) := Kh (by rw [← HNN.out, ← HMM.out, ← HSS.out]; exact hsh)
    have h0 : 0 < n := by omega
    have e0 : ((n : Int) == 0) = false := by rw [beq_eq_false_iff_ne]; omega
    have hmn : m = n := by omega
    have e1 : ((m : Int) != n) = false := by rw [hmn]; simp
    have hs1 : 0 ≤ S := by omega
    have hs2 : S < n := by omega
    have hm0 : 0 < m := by omega
    have hN2 : Mat B wA (.slice na m nc) d.next := HN.out.kept HGA.out (by simp)
    obtain ⟨b, off, cap, A, C, e, hc1, hc2, hma⟩ := hN2.some_ (by rw [← HMM.out]; exact hm0)
    simp only [Value.slice.injEq] at e
    obtain ⟨rfl, -, rfl⟩ := e
    rw [← HMM.out] at hc1
    have hmx : nc ≤ 9223372036854775807 := by unfold maxLen at hc2; omega
    have HM := Kh hma
    have HMN := Kh hmn
    clear hsh hmn hN2 hma
    go_enter Tryd.func44, Tryd.ntmps44
    go_wp2_with fail
    rw [← HWA.out]
    refine (xH wA L).mono ?_
    rintro e w1 ⟨rfl, rfl⟩
    rw [hm1]
    go_wp2
    go_loopg [40] m (fun g i wr => ∃ k : Nat, g + k = m ∧ i = .int .i64 k ∧ DRows d k ∧ wA = wr)
    case atStart => exact ⟨0, rfl, rfl, fun x hx => absurd hx (by omega), rfl⟩
    case round =>
     obtain ⟨k, hg, rfl, hok, rfl⟩ := hrel
     have OK := Kh hok; have HG := Kh hg
     clear hok hg
     by_cases hk : k < m
     ·have hkl : k < d.next.length := by rw [← HMM.out]; exact hk
      have hcx := HM.out.hd k hkl
      have hrow := HM.out.row k hkl
      have hrl := hrow.len_le
      rw [zP] at hrl
      unfold maxLen at hrl
      obtain ⟨r, hr⟩ : ∃ r, r = d.next.getD k [] := ⟨_, rfl⟩
      rw [← hr] at hcx hrow hrl
      have HR := Kh hr; have HKL := Kh hkl
      clear hr hkl
      by_cases hlr : (r.length : Int) = L
      ·have HLR := Kh hlr
       have hl' : ((r.length : Int) != L) = false := by rw [hlr]; simp
       obtain ⟨rb, ro, rc, e, hb, h1, h2, hra⟩ := hrow.some_ (by rw [zP]; omega)
       simp only [Value.slice.injEq] at e
       obtain ⟨eA, -, rfl⟩ := e
       rw [eA] at hcx
       rw [zP] at h1
       have HA := Kh eA; have RA := Kh hra
       clear eA hra hlr hrow
       go_wp2
       go_loopg [51] r.length (fun g j wr' => ∃ y : Nat, g + y = r.length ∧ j = .int .i64 y ∧ EntsOk n r y ∧ wA = wr')
       case atStart => exact ⟨0, rfl, rfl, fun x hx => absurd hx (by omega), rfl⟩
       case round =>
        obtain ⟨y, hg, rfl, hok, rfl⟩ := hrel
        have OKY := Kh hok; have HG2 := Kh hg
        clear hok hg
        by_cases hy : y < r.length
        ·have hcy := RA.out.int y hy
         obtain ⟨z, hz⟩ : ∃ z, z = r.getD y 0 := ⟨_, rfl⟩
         rw [← hz] at hcy
         have HZ := Kh hz
         clear hz
         by_cases hb1 : z < 0
         ·have HE := Kh (validD_row HLT.out H5.out HSH.out HKL.out (by rw [← HR.out]; exact rowD_bad (y := y) hy (by rw [← HZ.out]; exact .inl hb1)))
          go_wp2
          go_ret
          exact ⟨yD HE.out.symm, HGA.out⟩
         ·by_cases hb2 : (n : Int) ≤ z
          ·have HE := Kh (validD_row HLT.out H5.out HSH.out HKL.out (by rw [← HR.out]; exact rowD_bad (y := y) hy (by rw [← HZ.out, ← HNN.out]; exact .inr hb2)))
           go_wp2
           go_ret
           exact ⟨yD HE.out.symm, HGA.out⟩
          ·go_wp2
           go_roundg (r.length - (y + 1))
           case measure => have := HG2.out; omega
           case rel =>
            refine ⟨y + 1, by omega, by go_num, fun x hx => ?_, rfl⟩
            rcases Nat.lt_succ_iff_lt_or_eq.1 hx with hx | rfl
            ·exact OKY.out x hx
            ·rw [← HZ.out]; omega
        ·go_wp2
         go_roundg (m - (k + 1))
         case measure => have := HG.out; omega
         case rel =>
          refine ⟨k + 1, by omega, by go_num, fun x hx => ?_, rfl⟩
          rcases Nat.lt_succ_iff_lt_or_eq.1 hx with hx | rfl
          ·exact OK.out x hx
          ·rw [← HR.out, rowD_iff, ← HNN.out, ← HLL.out]
           exact ⟨HLR.out, fun z hz => OKY.out z (by omega)⟩
      ·have hl' : ((r.length : Int) != L) = true := by rw [bne_iff_ne]; exact hlr
       have HE := Kh (validD_row HLT.out H5.out HSH.out HKL.out (by rw [← HR.out]; exact rowD_len (by rw [← HLL.out]; exact hlr)))
       clear hlr
       go_wp2
       go_ret
       exact ⟨yD HE.out.symm, HGA.out⟩
     ·have HE := Kh (validD_ok HLT.out H5.out HSH.out (fun q hq => OK.out q (by have := HMM.out; omega)))
      go_wp2
      go_ret
      exact ⟨yD HE.out.symm, HGA.out⟩
end Go.Proofs.YtdjhoadoiknaoaaDoor
