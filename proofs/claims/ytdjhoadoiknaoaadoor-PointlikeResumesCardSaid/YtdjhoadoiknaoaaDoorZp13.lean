/- Part 13 of the proof: DfaPlain, MinPlain. -/
import Derived.Test.YtdjhoadoiknaoaaDoorZp12
set_option linter.unusedVariables false
set_option linter.unusedSimpArgs false
namespace Go.Proofs.YtdjhoadoiknaoaaDoor
structure DfaV where
 letters : Int
 start : Int
 final : List Bool
 next : List (List Int)
def rowD (letters : Int) (n : Nat) (r : List Int) : Bool := decide ((r.length : Int) = letters) && r.all fun x => decide (0 ≤ x ∧ x < n)
def uG (d : DfaV) : Int :=
 if d.letters < 1 ∨ 6 < d.letters then 1 else if 512 < d.final.length then 3
 else if d.final.length = 0 ∨ d.next.length ≠ d.final.length ∨ d.start < 0 ∨ d.final.length ≤ d.start then 4
 else if d.next.all (rowD d.letters d.final.length) then 0 else 4
structure VD (d : DfaV) (n k : Nat) : Prop where
 hk : d.letters = k
 k1 : 1 ≤ k
 k6 : k ≤ 6
 hn : d.final.length = n
 n1 : 1 ≤ n
 n512 : n ≤ 512
 nl : d.next.length = n
 s0 : 0 ≤ d.start
 sn : d.start < n
 row : ∀ q, q < n → (d.next.getD q []).length = k
 lo : ∀ q a, q < n → a < k → 0 ≤ ent d.next q a
 hi : ∀ q a, q < n → a < k → ent d.next q a < n
theorem rowD_iff {k : Int} {n : Nat} {r : List Int} : rowD k n r = true ↔ (r.length : Int) = k ∧ ∀ y, y < r.length → 0 ≤ r.getD y 0 ∧ r.getD y 0 < n := by
 simp only [rowD, Bool.and_eq_true, decide_eq_true_eq, List.all_eq_true]
 refine and_congr_right fun _ => ⟨fun h y hy => ?_, fun h x hx => ?_⟩
 ·have := h (r[y]) (List.getElem_mem hy)
  rwa [← zT (d := 0) hy] at this
 ·obtain ⟨y, hy, rfl⟩ := List.getElem_of_mem hx
  have := h y hy
  rwa [zT hy] at this
theorem vd_of {d : DfaV} (h : uG d = 0) : VD d d.final.length d.letters.toNat := by
 unfold uG at h
 split at h
 ·omega
 rename_i h1
 split at h
 ·omega
 rename_i h2
 split at h
 ·omega
 rename_i h3
 split at h
 ·rename_i h4
  rw [List.all_eq_true] at h4
  have hr : ∀ q, q < d.next.length → rowD d.letters d.final.length (d.next.getD q []) = true := fun q hq => by
   rw [zT hq]; exact h4 _ (List.getElem_mem hq)
  have hnl : d.next.length = d.final.length := by
   apply Classical.byContradiction; intro hh; exact h3 (.inr (.inl hh))
  refine ⟨by omega, by omega, by omega, rfl, by omega, by omega, hnl, by omega, by omega, fun q hq => ?_, fun q a hq ha => ?_, fun q a hq ha => ?_⟩
  ·have := (rowD_iff.1 (hr q (by omega))).1; omega
  ·obtain ⟨e, h⟩ := rowD_iff.1 (hr q (by omega))
   exact (h a (by omega)).1
  ·obtain ⟨e, h⟩ := rowD_iff.1 (hr q (by omega))
   exact (h a (by omega)).2
 ·omega
theorem validD_of {d : DfaV} {n k : Nat} (h : VD d n k) : uG d = 0 := by
 unfold uG
 rw [if_neg (by have := h.hk; have := h.k1; have := h.k6; omega), if_neg (by have := h.hn; have := h.n512; omega),
  if_neg (by have := h.hn; have := h.n1; have := h.nl; have := h.s0; have := h.sn; omega), if_pos]
 rw [List.all_eq_true]
 intro r hr
 obtain ⟨q, hq, rfl⟩ := List.getElem_of_mem hr
 have hq' : q < n := by have := h.nl; omega
 rw [rowD_iff]
 have hl := h.row q hq'
 rw [zT hq] at hl
 refine ⟨by rw [hl, h.hk], fun y hy => ?_⟩
 have h1 := h.lo q y hq' (by omega)
 have h2 := h.hi q y hq' (by omega)
 unfold ent at h1 h2
 rw [zT hq] at h1 h2
 rw [h.hn]
 exact ⟨h1, h2⟩
def nx (d : DfaV) (q a : Nat) : Nat := entN d.next q a
theorem nx_cast {d : DfaV} {n k : Nat} (h : VD d n k) {q a : Nat} (hq : q < n) (ha : a < k) : (nx d q a : Int) = ent d.next q a := Int.toNat_of_nonneg (h.lo q a hq ha)
theorem nx_lt {d : DfaV} {n k : Nat} (h : VD d n k) {q a : Nat} (hq : q < n) (ha : a < k) : nx d q a < n := by
 have h1 := nx_cast h hq ha
 have h2 := h.hi q a hq ha
 omega
def st0 (d : DfaV) : Nat := d.start.toNat
theorem st0_cast {d : DfaV} {n k : Nat} (h : VD d n k) : (st0 d : Int) = d.start := Int.toNat_of_nonneg h.s0
theorem st0_lt {d : DfaV} {n k : Nat} (h : VD d n k) : st0 d < n := by have := st0_cast h; have := h.sn; omega
def finB (b : Bool) : Int := if b then 1 else 0
def part0 (d : DfaV) : List Nat := numb (d.final.map finB)
def colTo (d : DfaV) (p : List Nat) (a : Nat) : List Nat := (List.range p.length).map fun q => p.getD (nx d q a) 0
def pairNo (m : Nat) (a b : Nat) : Int := (a : Int) * (m + 1) + b
def bothL (p q : List Nat) : List Int := List.zipWith (pairNo p.length) p q
def both8 (p q : List Nat) : List Nat := numb (bothL p q)
def refTo (d : DfaV) (p : List Nat) : Nat → List Nat
 | 0 => p
 | k + 1 => both8 (refTo d p k) (colTo d p k)
theorem part0_length (d : DfaV) : (part0 d).length = d.final.length := by simp [part0, yW]
theorem tE (d : DfaV) (p : List Nat) (a : Nat) : (colTo d p a).length = p.length := by simp [colTo]
theorem sS {p q : List Nat} (h : q.length = p.length) : (bothL p q).length = p.length := by simp [bothL, h]
theorem both8_length {p q : List Nat} (h : q.length = p.length) : (both8 p q).length = p.length := by rw [both8, yW, sS h]
theorem yS (d : DfaV) (p : List Nat) : ∀ k, (refTo d p k).length = p.length
 | 0 => rfl
 | k + 1 => by rw [refTo, both8_length (by rw [tE, yS d p k]), yS d p k]
theorem norm_lt {p : List Nat} (h : Norm p) : ∀ c ∈ p, c < p.length := by
 intro c hc
 have h1 := numb_lt (l := p)
 rw [h] at h1
 have := h1 c hc
 have := tH p
 omega
theorem pairNo_inj {m a b a' b' : Nat} (hb : b ≤ m) (hb' : b' ≤ m) : pairNo m a b = pairNo m a' b' ↔ a = a' ∧ b = b' := by
 unfold pairNo
 constructor
 ·intro h
  have h' : a * (m + 1) + b = a' * (m + 1) + b' := by exact_mod_cast h
  have e1 : (a * (m + 1) + b) / (m + 1) = a := by rw [Nat.mul_comm, Nat.mul_add_div (by omega), Nat.div_eq_of_lt (by omega)]; omega
  have e2 : (a' * (m + 1) + b') / (m + 1) = a' := by rw [Nat.mul_comm, Nat.mul_add_div (by omega), Nat.div_eq_of_lt (by omega)]; omega
  have ha : a = a' := by rw [← e1, ← e2, h']
  subst ha
  exact ⟨rfl, by omega⟩
 ·rintro ⟨rfl, rfl⟩; rfl
theorem both8_iff {p q : List Nat} (h : q.length = p.length) (hq : ∀ c ∈ q, c < p.length) {i j : Nat} (hi : i < p.length) (hj : j < p.length) :
  (both8 p q).getD i 0 = (both8 p q).getD j 0 ↔ p.getD i 0 = p.getD j 0 ∧ q.getD i 0 = q.getD j 0 := by
 have hi' : i < (bothL p q).length := by rw [sS h]; exact hi
 have hj' : j < (bothL p q).length := by rw [sS h]; exact hj
 rw [both8, numb_eq_iff hi' hj']
 simp only [bothL, List.getElem_zipWith]
 rw [pairNo_inj (Nat.le_of_lt (hq _ (List.getElem_mem _))) (Nat.le_of_lt (hq _ (List.getElem_mem _))), zT hi, zT hj, zT (show i < q.length by omega), zT (show j < q.length by omega)]
theorem colTo_get {d : DfaV} {p : List Nat} {a i : Nat} (hi : i < p.length) : (colTo d p a).getD i 0 = p.getD (nx d i a) 0 := by
 rw [zT (by rw [tE]; exact hi)]; simp [colTo]
theorem getD_lt_of {p : List Nat} {n i : Nat} (h : ∀ c ∈ p, c < n) (hn : 0 < n) : p.getD i 0 < n := by
 by_cases hi : i < p.length
 ·rw [zT hi]; exact h _ (List.getElem_mem hi)
 ·rw [List.getD, List.getElem?_eq_none (by omega)]; exact hn
theorem refTo_iff {d : DfaV} {n k : Nat} (hd : VD d n k) {p : List Nat} (hp : p.length = n) (hlt : ∀ c ∈ p, c < n) {i j : Nat} (hi : i < n) (hj : j < n) :
  ∀ m, m ≤ k → ((refTo d p m).getD i 0 = (refTo d p m).getD j 0 ↔ p.getD i 0 = p.getD j 0 ∧ ∀ a, a < m → p.getD (nx d i a) 0 = p.getD (nx d j a) 0)
 | 0, _ => by simp [refTo]
 | m + 1, hm => by
  rw [refTo, both8_iff (by rw [tE, yS]) (fun c hc => ?_) (by rw [yS]; omega) (by rw [yS]; omega), refTo_iff hd hp hlt hi hj m (by omega), colTo_get (by omega), colTo_get (by omega)]
  ·constructor
   ·rintro ⟨⟨h1, h2⟩, h3⟩
    refine ⟨h1, fun a ha => ?_⟩
    rcases Nat.lt_succ_iff_lt_or_eq.1 ha with ha | rfl
    ·exact h2 a ha
    ·exact h3
   ·rintro ⟨h1, h2⟩
    exact ⟨⟨h1, fun a ha => h2 a (by omega)⟩, h2 m (by omega)⟩
  ·rw [yS, hp]
   obtain ⟨q, hq, rfl⟩ := List.mem_map.1 hc
   exact getD_lt_of hlt hd.n1
theorem refTo_norm {d : DfaV} {p : List Nat} (hp : Norm p) : ∀ m, Norm (refTo d p m)
 | 0 => hp
 | m + 1 => numb_norm _
def cls (p : List Nat) : Nat := (yG p).length
theorem cls_mono {p q : List Nat} (hl : q.length = p.length) (h : ∀ i j, i < p.length → j < p.length → q.getD i 0 = q.getD j 0 → p.getD i 0 = p.getD j 0) :
  cls p ≤ cls q ∧ (cls p = cls q → ∀ i j, i < p.length → j < p.length → p.getD i 0 = p.getD j 0 → q.getD i 0 = q.getD j 0) := by
 -- the classes of q are mapped onto those of p
 let f : Nat → Nat := fun c => p.getD (q.idxOf c) 0
 have hf : ∀ i, i < p.length → f (q.getD i 0) = p.getD i 0 := by
  intro i hi
  have hi' : i < q.length := by omega
  have hm : q.getD i 0 ∈ q := by rw [zT hi']; exact List.getElem_mem _
  have hlt := List.idxOf_lt_length_of_mem hm
  refine h _ i (by omega) hi ?_
  rw [zT hlt, List.getElem_idxOf]
 have hsub : ∀ c ∈ yG p, c ∈ (yG q).map f := by
  intro c hc
  obtain ⟨i, hi, rfl⟩ := List.getElem_of_mem (xS.1 hc)
  rw [List.mem_map]
  refine ⟨q.getD i 0, xS.2 (by rw [zT (by omega)]; exact List.getElem_mem _), ?_⟩
  rw [hf i hi, zT hi]
 have hle : (yG p).length ≤ ((yG q).map f).length := (sN p).length_le_of_subset hsub
 rw [List.length_map] at hle
 refine ⟨hle, fun e i j hi hj hp => ?_⟩
 have hinj : ∀ x ∈ yG q, ∀ y ∈ yG q, f x = f y → x = y := by
  intro x hx y hy hxy
  apply Classical.byContradiction
  intro hne
  have hsub2 : ∀ c ∈ yG p, c ∈ ((yG q).erase x).map f := by
   intro c hc
   obtain ⟨z, hz, rfl⟩ := List.mem_map.1 (hsub c hc)
   by_cases e : z = x
   ·subst e
    exact List.mem_map.2 ⟨y, (List.mem_erase_of_ne (Ne.symm hne)).2 hy, hxy.symm⟩
   ·exact List.mem_map.2 ⟨z, (List.mem_erase_of_ne e).2 hz, rfl⟩
  have h1 := (sN p).length_le_of_subset hsub2
  rw [List.length_map, List.length_erase_of_mem hx] at h1
  have h2 := List.length_pos_of_mem hx
  unfold cls at e
  omega
 have mem : ∀ i, i < p.length → q.getD i 0 ∈ yG q := fun i hi => xS.2 (by rw [zT (by omega)]; exact List.getElem_mem _)
 exact hinj _ (mem i hi) _ (mem j hj) (by rw [hf i hi, hf j hj, hp])
end Go.Proofs.YtdjhoadoiknaoaaDoor
namespace Go.Proofs.YtdjhoadoiknaoaaDoor
theorem cls_le (p : List Nat) : cls p ≤ p.length := tH p
theorem part0_norm (d : DfaV) : Norm (part0 d) := numb_norm _
def clsIt (d : DfaV) (k : Nat) : Nat → List Nat
 | 0 => part0 d
 | m + 1 => refTo d (clsIt d k m) k
theorem tF (d : DfaV) (k : Nat) : ∀ m, (clsIt d k m).length = d.final.length
 | 0 => part0_length d
 | m + 1 => by rw [clsIt, yS, tF d k m]
theorem clsIt_norm (d : DfaV) (k : Nat) : ∀ m, Norm (clsIt d k m)
 | 0 => part0_norm d
 | m + 1 => refTo_norm (clsIt_norm d k m) k
theorem cls_pos {p : List Nat} (h : 0 < p.length) : 0 < cls p := by
 have hm : p[0] ∈ yG p := xS.2 (List.getElem_mem h)
 exact List.length_pos_of_mem hm
theorem refine_grow {d : DfaV} {n k : Nat} (hd : VD d n k) {p : List Nat} (hp : p.length = n) (hn : Norm p) (hne : refTo d p k ≠ p) : cls p < cls (refTo d p k) := by
 have hlt : ∀ c ∈ p, c < n := by have := norm_lt hn; rwa [hp] at this
 obtain ⟨h1, h2⟩ := cls_mono (p := p) (q := refTo d p k) (yS d p k) (fun i j hi hj h => ((refTo_iff hd hp hlt (by omega) (by omega) k (Nat.le_refl _)).1 h).1)
 refine Nat.lt_of_le_of_ne h1 fun e => hne ?_
 refine norm_ext (refTo_norm hn k) hn ⟨yS d p k, fun i j hi hj => ?_⟩
 rw [yS] at hi hj
 exact ⟨fun h => ((refTo_iff hd hp hlt (by omega) (by omega) k (Nat.le_refl _)).1 h).1, fun h => h2 e i j hi hj h⟩
def uP (d : DfaV) (k : Nat) : List Nat := clsIt d k d.final.length
theorem clsIt_fix {d : DfaV} {k m : Nat} (h : refTo d (clsIt d k m) k = clsIt d k m) : ∀ j, m ≤ j → clsIt d k j = clsIt d k m
 | 0, hj => by rw [show m = 0 by omega]
 | j + 1, hj => by
  by_cases e : m = j + 1
  ·rw [e]
  ·rw [clsIt, clsIt_fix h j (by omega), h]
theorem classes_of_fix {d : DfaV} {k m : Nat} (hm : m ≤ d.final.length) (h : refTo d (clsIt d k m) k = clsIt d k m) : uP d k = clsIt d k m := clsIt_fix h _ hm
theorem sD (d : DfaV) (k : Nat) : (uP d k).length = d.final.length := tF _ _ _
theorem classesD_norm (d : DfaV) (k : Nat) : Norm (uP d k) := clsIt_norm _ _ _
theorem firsts_norm {p : List Nat} (h : Norm p) : yG p = List.range (cls p) := by
 refine List.ext_getElem (by simp [cls]) fun i h1 h2 => ?_
 rw [List.getElem_range]
 have hm := List.getElem_mem h1
 obtain ⟨q, hq, e⟩ := List.getElem_of_mem (xS.1 hm)
 have hh : (numb p)[q]'(by rw [yW]; exact hq) = p[q] := by simp only [show numb p = p from h]
 rw [numb_get hq, e] at hh
 have h3 := List.idxOf_lt_length_of_mem hm
 have h4 := List.getElem_idxOf h3
 have := (List.getElem_inj (sN p)).1 h4
 omega
theorem firsts_norm_take {p : List Nat} (h : Norm p) (k : Nat) : yG (p.take k) = List.range (cls (p.take k)) := by
 have h1 := firsts_take_prefix p k
 rw [firsts_norm h] at h1
 obtain ⟨r, hr⟩ := h1
 refine List.ext_getElem (by simp [cls]) fun i h1 h2 => ?_
 rw [List.getElem_range]
 have : (yG (p.take k) ++ r)[i]'(by rw [List.length_append]; omega) = i := by simp only [hr, List.getElem_range]
 rwa [List.getElem_append_left h1] at this
theorem norm_new {p : List Nat} (h : Norm p) {q : Nat} (hq : q < p.length) : p.getD q 0 ≤ cls (p.take q) ∧ (p.getD q 0 = cls (p.take q) → cls (p.take (q + 1)) = cls (p.take q) + 1) ∧ (p.getD q 0 ≠ cls (p.take q) → cls (p.take (q + 1)) = cls (p.take q)) := by
 have h1 := firsts_norm_take h (q + 1)
 have e : yG (p.take (q + 1)) = vS (yG (p.take q)) p[q] := by rw [List.take_succ_eq_append_getElem hq, tW]
 have h0 := firsts_norm_take h q
 rw [zT hq]
 by_cases hm : p[q] ∈ yG (p.take q)
 ·have hlt : p[q] < cls (p.take q) := by rw [h0] at hm; exact List.mem_range.1 hm
  rw [tN hm] at e
  have : cls (p.take (q + 1)) = cls (p.take q) := by unfold cls; rw [e]
  exact ⟨by omega, fun h => by omega, fun _ => this⟩
 ·rw [tO hm] at e
  have hc : cls (p.take (q + 1)) = cls (p.take q) + 1 := by unfold cls; rw [e]; simp
  have hl : p[q] = cls (p.take q) := by
   rw [h1, h0, hc, List.range_succ] at e
   have := List.append_cancel_left e
   simpa using this.symm
  exact ⟨by omega, fun _ => hc, fun h => absurd hl h⟩
def uL (p : List Nat) (k : Nat) : List Nat := (List.range k).filter fun q => p.getD q 0 == cls (p.take q)
theorem uJ {p : List Nat} {k : Nat} (h : p.getD k 0 = cls (p.take k)) : uL p (k + 1) = uL p k ++ [k] := by
 rw [uL, List.range_succ, List.filter_append, List.filter_cons, if_pos (beq_iff_eq.2 h)]; rfl
theorem uI {p : List Nat} {k : Nat} (h : p.getD k 0 ≠ cls (p.take k)) : uL p (k + 1) = uL p k := by
 rw [uL, List.range_succ, List.filter_append, List.filter_cons, if_neg (fun e => h (beq_iff_eq.1 e)), List.filter_nil, List.append_nil]; rfl
theorem uK {p : List Nat} (h : Norm p) : ∀ k, k ≤ p.length → (uL p k).length = cls (p.take k)
 | 0, _ => by simp [uL, cls, yG]
 | k + 1, hk => by
  obtain ⟨h0, h1, h2⟩ := norm_new h (show k < p.length by omega)
  have ih := uK h k (by omega)
  by_cases e : p.getD k 0 = cls (p.take k)
  ·rw [uJ e, List.length_append, ih, h1 e]; rfl
  ·rw [uI e, ih, h2 e]
theorem repsTo_get {p : List Nat} (h : Norm p) : ∀ k, k ≤ p.length → ∀ c, c < cls (p.take k) → p.getD ((uL p k).getD c 0) 0 = c ∧ (uL p k).getD c 0 < k
 | 0, _, c, hc => by simp [cls, yG] at hc
 | k + 1, hk, c, hc => by
  obtain ⟨h0, h1, h2⟩ := norm_new h (show k < p.length by omega)
  have hl := uK h k (by omega)
  by_cases e : p.getD k 0 = cls (p.take k)
  ·rw [h1 e] at hc
   rw [uJ e]
   by_cases hc' : c < cls (p.take k)
   ·have ih := repsTo_get h k (by omega) c hc'
    rw [show (uL p k ++ [k]).getD c 0 = (uL p k).getD c 0 from by simp [List.getD, List.getElem?_append_left (show c < (uL p k).length by omega)]]
    exact ⟨ih.1, by omega⟩
   ·have hc2 : c = (uL p k).length := by omega
    rw [show (uL p k ++ [k]).getD c 0 = k from by simp [List.getD, hc2]]
    exact ⟨by omega, by omega⟩
  ·rw [h2 e] at hc
   rw [uI e]
   have ih := repsTo_get h k (by omega) c hc
   exact ⟨ih.1, by omega⟩
def reps (p : List Nat) : List Nat := uL p p.length
def uO (p : List Nat) (r : List Int) : List Int := r.map fun s => ((p.getD s.toNat 0 : Nat) : Int)
def quotD (d : DfaV) (p : List Nat) : DfaV :=
 ⟨d.letters, ((p.getD (st0 d) 0 : Nat) : Int), (reps p).map fun q => d.final.getD q false, (reps p).map fun q => uO p (d.next.getD q [])⟩
theorem wS {α β : Type} {l : List α} {f : α → β} {i : Nat} {x : α} {y : β} (h : i < l.length) : (l.map f).getD i y = f (l.getD i x) := by
 rw [zT (by simpa using h), zT h]; simp
theorem mapRow_get {p : List Nat} {r : List Int} {a : Nat} (h : a < r.length) : (uO p r).getD a 0 = ((p.getD (r.getD a 0).toNat 0 : Nat) : Int) := by
 rw [uO, wS (x := 0) h]
theorem reps_length {p : List Nat} (h : Norm p) : (reps p).length = cls p := by
 have := uK h p.length (Nat.le_refl _)
 rwa [List.take_length] at this
theorem reps_get {p : List Nat} (h : Norm p) {c : Nat} (hc : c < cls p) : p.getD ((reps p).getD c 0) 0 = c ∧ (reps p).getD c 0 < p.length :=
 repsTo_get h p.length (Nat.le_refl _) c (by rwa [List.take_length])
theorem norm_lt_cls {p : List Nat} (h : Norm p) {i : Nat} (hi : i < p.length) : p.getD i 0 < cls p := by
 have := numb_lt (l := p)
 rw [h] at this
 rw [zT hi]
 exact this _ (List.getElem_mem hi)
section
variable {d : DfaV} {n k : Nat} {p : List Nat}
theorem quot_ent (hd : VD d n k) (hp : p.length = n) (hn : Norm p) {c a : Nat} (hc : c < cls p) (ha : a < k) : ent (quotD d p).next c a = ((p.getD (nx d ((reps p).getD c 0) a) 0 : Nat) : Int) := by
 have hr := reps_get hn hc
 unfold ent quotD
 rw [wS (x := 0) (by rw [reps_length hn]; exact hc), mapRow_get (by rw [hd.row _ (by omega)]; exact ha)]
 rfl
theorem quot_vd (hd : VD d n k) (hp : p.length = n) (hn : Norm p) : VD (quotD d p) (cls p) k where
 hk := hd.hk
 k1 := hd.k1
 k6 := hd.k6
 hn := by simp [quotD, reps_length hn]
 n1 := cls_pos (by rw [hp]; exact hd.n1)
 n512 := Nat.le_trans (cls_le p) (by rw [hp]; exact hd.n512)
 nl := by simp [quotD, reps_length hn]
 s0 := by simp [quotD]
 sn := by
  have := norm_lt_cls hn (i := st0 d) (by rw [hp]; exact st0_lt hd)
  simp only [quotD]
  omega
 row := fun c hc => by
  simp only [quotD]
  rw [wS (x := 0) (by rw [reps_length hn]; exact hc)]
  have hr := reps_get hn hc
  rw [uO, List.length_map, hd.row _ (by omega)]
 lo := fun c a hc ha => by rw [quot_ent hd hp hn hc ha]; omega
 hi := fun c a hc ha => by
  rw [quot_ent hd hp hn hc ha]
  have hr := reps_get hn hc
  have := norm_lt_cls hn (i := nx d ((reps p).getD c 0) a) (by rw [hp]; exact nx_lt hd (by omega) ha)
  omega
end
def run (d : DfaV) (q : Nat) (w : List Nat) : Nat := w.foldl (nx d) q
def wordOk (k : Nat) (w : List Nat) : Prop := ∀ a ∈ w, a < k
theorem run_snoc (d : DfaV) (q : Nat) (w : List Nat) (a : Nat) : run d q (w ++ [a]) = nx d (run d q w) a := by simp [run]
def sF (d : DfaV) (l : List Nat) (i : Nat) : Nat → List Nat
 | 0 => l
 | a + 1 => vS (sF d l i a) (nx d (l.getD i 0) a)
def accGo (d : DfaV) (k : Nat) : Nat → Nat → List Nat → List Nat
 | 0, _, l => l
 | f + 1, i, l => if i < l.length then accGo d k f (i + 1) (sF d l i k) else l
def xY (d : DfaV) (k : Nat) : List Nat := accGo d k d.final.length 0 [st0 d]
theorem accRow_prefix (d : DfaV) (l : List Nat) (i : Nat) : ∀ a, l <+: sF d l i a
 | 0 => List.prefix_refl _
 | a + 1 => (accRow_prefix d l i a).trans (addNew_prefix _ _)
theorem accRow_nodup {d : DfaV} {l : List Nat} (h : l.Nodup) (i : Nat) : ∀ a, (sF d l i a).Nodup
 | 0 => h
 | a + 1 => addNew_nodup (accRow_nodup h i a)
theorem tM {d : DfaV} {l : List Nat} {i : Nat} {y : Nat} : ∀ {a}, y ∈ sF d l i a ↔ y ∈ l ∨ ∃ b, b < a ∧ y = nx d (l.getD i 0) b
 | 0 => by simp [sF]
 | a + 1 => by
  rw [sF, mem_addNew, tM, or_assoc]
  refine or_congr_right ⟨?_, ?_⟩
  ·rintro (⟨b, hb, h⟩ | h)
   ·exact ⟨b, by omega, h⟩
   ·exact ⟨a, by omega, h⟩
  ·rintro ⟨b, hb, h⟩
   rcases Nat.lt_succ_iff_lt_or_eq.1 hb with hb | rfl
   ·exact .inl ⟨b, hb, h⟩
   ·exact .inr h
structure AccI (d : DfaV) (n k i : Nat) (l : List Nat) : Prop where
 nd : l.Nodup
 lt : ∀ q ∈ l, q < n
 hd : 0 < l.length ∧ l.getD 0 0 = st0 d
 cl : ∀ j a, j < i → j < l.length → a < k → nx d (l.getD j 0) a ∈ l
 re : ∀ q ∈ l, ∃ w, wordOk k w ∧ run d (st0 d) w = q
theorem getD_prefix {l m : List Nat} (h : l <+: m) {i : Nat} (hi : i < l.length) : m.getD i 0 = l.getD i 0 := by
 obtain ⟨r, rfl⟩ := h
 simp [List.getD, List.getElem?_append_left hi]
theorem AccI.row {d : DfaV} {n k i : Nat} {l : List Nat} (hd : VD d n k) (h : AccI d n k i l) (hi : i < l.length) : AccI d n k (i + 1) (sF d l i k) := by
 have hp := accRow_prefix d l i k
 have hle := hp.length_le
 have hil : l.getD i 0 ∈ l := by rw [zT hi]; exact List.getElem_mem _
 have hin := h.lt _ hil
 refine ⟨accRow_nodup h.nd i k, fun q hq => ?_, ⟨by have := h.hd.1; omega, by rw [getD_prefix hp h.hd.1]; exact h.hd.2⟩, fun j a hj hjl ha => ?_, fun q hq => ?_⟩
 ·rcases tM.1 hq with hq | ⟨b, hb, rfl⟩
  ·exact h.lt q hq
  ·exact nx_lt hd hin hb
 ·rw [getD_prefix hp (show j < l.length by omega)]
  rcases Nat.lt_succ_iff_lt_or_eq.1 hj with hj | rfl
  ·exact tM.2 (.inl (h.cl j a hj (by omega) ha))
  ·exact tM.2 (.inr ⟨a, ha, rfl⟩)
 ·rcases tM.1 hq with hq | ⟨b, hb, rfl⟩
  ·exact h.re q hq
  ·obtain ⟨w, hw, e⟩ := h.re _ hil
   refine ⟨w ++ [b], fun c hc => ?_, by rw [run_snoc, e]⟩
   rcases List.mem_append.1 hc with hc | hc
   ·exact hw c hc
   ·rw [List.mem_singleton] at hc; subst hc; exact hb
theorem sK {l : List Nat} {n : Nat} (h : l.Nodup) (hl : ∀ q ∈ l, q < n) : l.length ≤ n := by
 have := h.length_le_of_subset (fun q hq => List.mem_range.2 (hl q hq))
 simpa using this
theorem AccI.start {d : DfaV} {n k : Nat} (hd : VD d n k) : AccI d n k 0 [st0 d] :=
 ⟨by simp, fun q hq => by rw [List.mem_singleton] at hq; subst hq; exact st0_lt hd, ⟨by simp, by simp⟩, fun j a hj => by omega, fun q hq => by
  rw [List.mem_singleton] at hq; subst hq; exact ⟨[], fun a ha => by simp at ha, rfl⟩⟩
theorem accGo_ok {d : DfaV} {n k : Nat} (hd : VD d n k) : ∀ f i l, AccI d n k i l → n ≤ i + f → AccI d n k n (accGo d k f i l) ∧ (accGo d k f i l).length ≤ n
 | 0, i, l, h, hf => by
  have hl := sK h.nd h.lt
  exact ⟨⟨h.nd, h.lt, h.hd, fun j a hj hjl ha => h.cl j a (by omega) hjl ha, h.re⟩, hl⟩
 | f + 1, i, l, h, hf => by
  rw [accGo]
  split
  ·rename_i hi
   exact accGo_ok hd f (i + 1) _ (h.row hd hi) (by omega)
  ·rename_i hi
   have hl := sK h.nd h.lt
   exact ⟨⟨h.nd, h.lt, h.hd, fun j a hj hjl ha => h.cl j a (by omega) hjl ha, h.re⟩, hl⟩
theorem vV {d : DfaV} {n k : Nat} (hd : VD d n k) : AccI d n k n (xY d k) ∧ (xY d k).length ≤ n := accGo_ok hd _ _ _ (AccI.start hd) (by rw [hd.hn]; omega)
theorem accGo_end {d : DfaV} {k f i : Nat} {l : List Nat} (h : ¬ i < l.length) : accGo d k f i l = l := by
 cases f with
 | zero => rfl
 | succ f => rw [accGo, if_neg h]
def placeOf (l : List Nat) (q : Nat) : Int := if q ∈ l then (l.idxOf q : Int) else -1
def wG (l : List Nat) (r : List Int) : List Int := r.map fun s => placeOf l s.toNat
def trimD (d : DfaV) (k : Nat) : DfaV := ⟨d.letters, 0, (xY d k).map fun q => d.final.getD q false, (xY d k).map fun q => wG (xY d k) (d.next.getD q [])⟩
section
variable {d : DfaV} {n k : Nat}
theorem trim_ent (hd : VD d n k) {i a : Nat} (hi : i < (xY d k).length) (ha : a < k) : ent (trimD d k).next i a = (((xY d k).idxOf (nx d ((xY d k).getD i 0) a) : Nat) : Int) := by
 have hA := (vV hd).1
 have hq := hA.lt _ (show (xY d k).getD i 0 ∈ xY d k by rw [zT hi]; exact List.getElem_mem _)
 have hn := (vV hd).2
 unfold ent trimD
 rw [wS (x := 0) hi, wG, wS (x := 0) (by rw [hd.row _ hq]; exact ha), placeOf, if_pos]
 ·rfl
 ·exact hA.cl i a (by omega) hi ha
theorem trim_vd (hd : VD d n k) : VD (trimD d k) (xY d k).length k where
 hk := hd.hk
 k1 := hd.k1
 k6 := hd.k6
 hn := by simp [trimD]
 n1 := (vV hd).1.hd.1
 n512 := Nat.le_trans (vV hd).2 hd.n512
 nl := by simp [trimD]
 s0 := by simp [trimD]
 sn := by have := (vV hd).1.hd.1; simp only [trimD]; omega
 row := fun i hi => by
  have hA := (vV hd).1
  have hq := hA.lt _ (show (xY d k).getD i 0 ∈ xY d k by rw [zT hi]; exact List.getElem_mem _)
  simp only [trimD]
  rw [wS (x := 0) hi, wG, List.length_map, hd.row _ hq]
 lo := fun i a hi ha => by rw [trim_ent hd hi ha]; omega
 hi := fun i a hi ha => by
  have hn := (vV hd).2
  rw [trim_ent hd hi ha]
  have := List.idxOf_lt_length_of_mem ((vV hd).1.cl i a (by omega) hi ha)
  omega
end
def minD (d : DfaV) (k : Nat) : DfaV := trimD (quotD d (uP d k)) k
def minN (d : DfaV) (k : Nat) : Nat := (xY (quotD d (uP d k)) k).length
section
variable {d : DfaV} {n k : Nat}
theorem quotC_vd (hd : VD d n k) : VD (quotD d (uP d k)) (cls (uP d k)) k := quot_vd hd (by rw [sD, hd.hn]) (classesD_norm d k)
theorem min_vd (hd : VD d n k) : VD (minD d k) (minN d k) k := trim_vd (quotC_vd hd)
theorem minN_le (hd : VD d n k) : minN d k ≤ n := Nat.le_trans (vV (quotC_vd hd)).2 (Nat.le_trans (cls_le _) (by rw [sD, hd.hn]; exact Nat.le_refl _))
end
end Go.Proofs.YtdjhoadoiknaoaaDoor
