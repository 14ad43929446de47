/- Part 16 of the proof: Numb, DfaPlain, MinPlain. -/
import Derived.Test.YtdjhoadoiknaoaaDoorZr15
set_option linter.unusedVariables false
set_option linter.unusedSimpArgs false
namespace Go.Proofs.YtdjhoadoiknaoaaDoor
def uH {α : Type} [DecidableEq α] (acc : List α) (x : α) : List α := if x ∈ acc then acc else acc ++ [x]
def yN {α : Type} [DecidableEq α] (l : List α) : List α := l.foldl uH []
section
variable {α : Type} [DecidableEq α]
theorem sK {acc : List α} {x : α} (h : x ∈ acc) : uH acc x = acc := if_pos h
theorem sM {acc : List α} {x : α} (h : x ∉ acc) : uH acc x = acc ++ [x] := if_neg h
theorem mem_addNew {acc : List α} {x y : α} : y ∈ uH acc x ↔ y ∈ acc ∨ y = x := by
 unfold uH
 split
 ·rename_i h
  exact ⟨.inl, fun h' => by rcases h' with h' | rfl <;> assumption⟩
 ·simp
theorem sZ (l : List α) (x : α) : yN (l ++ [x]) = uH (yN l) x := by simp [yN, List.foldl_append]
theorem mem_foldl_addNew (l : List α) : ∀ (acc : List α) (y : α), y ∈ l.foldl uH acc ↔ y ∈ acc ∨ y ∈ l := by
 induction l with
 | nil => intro acc y; simp
 | cons a l ih => intro acc y; rw [List.foldl_cons, ih, mem_addNew, List.mem_cons]; exact or_assoc
theorem wD {l : List α} {y : α} : y ∈ yN l ↔ y ∈ l := by rw [yN, mem_foldl_addNew]; simp
theorem addNew_nodup {acc : List α} {x : α} (h : acc.Nodup) : (uH acc x).Nodup := by
 unfold uH
 split
 ·exact h
 ·rename_i hx
  rw [List.nodup_append]
  exact ⟨h, by simp, fun a ha b hb => by rw [List.mem_singleton] at hb; subst hb; rintro rfl; exact hx ha⟩
theorem foldl_addNew_nodup (l : List α) : ∀ {acc : List α}, acc.Nodup → (l.foldl uH acc).Nodup := by
 induction l with
 | nil => intro acc h; exact h
 | cons a l ih => intro acc h; exact ih (addNew_nodup h)
theorem firsts_nodup (l : List α) : (yN l).Nodup := foldl_addNew_nodup l (by simp)
theorem addNew_prefix (acc : List α) (x : α) : acc <+: uH acc x := by
 unfold uH; split
 ·exact List.prefix_refl _
 ·exact List.prefix_append _ _
theorem foldl_addNew_prefix (l : List α) : ∀ (acc : List α), acc <+: l.foldl uH acc := by
 induction l with
 | nil => intro acc; exact List.prefix_refl _
 | cons a l ih => intro acc; exact (addNew_prefix acc a).trans (ih _)
theorem firsts_take_prefix (l : List α) (k : Nat) : yN (l.take k) <+: yN l := by
 conv => rhs; rw [← List.take_append_drop k l]
 rw [yN, yN, List.foldl_append]
 exact foldl_addNew_prefix _ _
theorem tY (l : List α) : (yN l).length ≤ l.length := by
 have key : ∀ (l acc : List α), (l.foldl uH acc).length ≤ acc.length + l.length := by
  intro l
  induction l with
  | nil => intro acc; simp
  | cons a l ih =>
   intro acc
   rw [List.foldl_cons]
   have h1 := ih (uH acc a)
   have h2 : (uH acc a).length ≤ acc.length + 1 := by unfold uH; split <;> simp
   rw [List.length_cons]; omega
 simpa [yN] using key l []
theorem idxOf_prefix {l m : List α} {x : α} (h : l <+: m) (hx : x ∈ l) : m.idxOf x = l.idxOf x := by
 obtain ⟨r, rfl⟩ := h
 rw [List.idxOf_append, if_pos hx]
theorem idxOf_inj {l : List α} {x y : α} (hx : x ∈ l) (h : l.idxOf x = l.idxOf y) : x = y := by
 have h1 := List.idxOf_lt_length_of_mem hx
 have e1 := List.getElem_idxOf h1
 have e2 := List.getElem_idxOf (show l.idxOf y < l.length by omega)
 rw [← e1, ← e2]; simp only [h]
def numb (l : List α) : List Nat := l.map fun x => (yN l).idxOf x
theorem xI (l : List α) : (numb l).length = l.length := by simp [numb]
theorem numb_get {l : List α} {i : Nat} (h : i < l.length) : (numb l)[i]'(by rw [xI]; exact h) = (yN l).idxOf l[i] := by simp [numb]
theorem numb_lt {l : List α} : ∀ c ∈ numb l, c < (yN l).length := by
 intro c hc
 obtain ⟨x, hx, rfl⟩ := List.mem_map.1 hc
 exact List.idxOf_lt_length_of_mem (wD.2 hx)
theorem numb_eq_iff {l : List α} {i j : Nat} (hi : i < l.length) (hj : j < l.length) : (numb l).getD i 0 = (numb l).getD j 0 ↔ l[i] = l[j] := by
 simp only [List.getD, List.getElem?_eq_getElem (show i < (numb l).length by rw [xI]; exact hi), List.getElem?_eq_getElem (show j < (numb l).length by rw [xI]; exact hj), Option.getD_some, numb_get hi, numb_get hj]
 exact ⟨fun h => idxOf_inj (wD.2 (List.getElem_mem hi)) h, fun h => by rw [h]⟩
theorem numb_take {l : List α} {k : Nat} (hk : k < l.length) : (yN (l.take (k + 1))).idxOf l[k] = (yN l).idxOf l[k] := by
 refine (idxOf_prefix (firsts_take_prefix l (k + 1)) (wD.2 ?_)).symm
 rw [List.take_succ_eq_append_getElem hk]; exact List.mem_append_right _ (List.mem_singleton_self _)
end
def SameKer (p q : List Nat) : Prop := p.length = q.length ∧ ∀ i j, i < p.length → j < p.length → (p.getD i 0 = p.getD j 0 ↔ q.getD i 0 = q.getD j 0)
def Norm (p : List Nat) : Prop := numb p = p
theorem zX {α : Type} {l : List α} {i : Nat} {d : α} (h : i < l.length) : l.getD i d = l[i] := by simp [List.getD, List.getElem?_eq_getElem h]
theorem numb_congr {α β : Type} [DecidableEq α] [DecidableEq β] : ∀ (l : List α) (m : List β) (he : l.length = m.length), (∀ i j (hi : i < l.length) (hj : j < l.length), (l[i] = l[j] ↔ m[i]'(by omega) = m[j]'(by omega))) → numb l = numb m := by
 intro l m he h
 -- positions of first occurrences
 have key : ∀ (k : Nat) (hk : k ≤ l.length), ∃ ps : List (Fin l.length), yN (l.take k) = ps.map (fun i => l[i]) ∧ yN (m.take k) = ps.map (fun i => m[i.1]'(by omega)) := by
  intro k
  induction k with
  | zero => intro _; exact ⟨[], by simp [yN], by simp [yN]⟩
  | succ k ih =>
   intro hk
   obtain ⟨ps, h1, h2⟩ := ih (by omega)
   have hkl : k < l.length := by omega
   rw [List.take_succ_eq_append_getElem hkl, List.take_succ_eq_append_getElem (show k < m.length by omega), sZ, sZ, h1, h2]
   have hmem : (l[k] ∈ ps.map (fun i => l[i])) ↔ (m[k]'(by omega) ∈ ps.map (fun i => m[i.1]'(by omega))) := by
    simp only [List.mem_map]
    constructor
    ·rintro ⟨i, hi, e⟩; exact ⟨i, hi, (h i.1 k i.2 hkl).1 e⟩
    ·rintro ⟨i, hi, e⟩; exact ⟨i, hi, (h i.1 k i.2 hkl).2 e⟩
   by_cases hm : l[k] ∈ ps.map (fun i => l[i])
   ·exact ⟨ps, sK hm, sK (hmem.1 hm)⟩
   ·refine ⟨ps ++ [⟨k, hkl⟩], ?_, ?_⟩
    ·rw [sM hm]; simp
    ·rw [sM (fun h' => hm (hmem.2 h'))]; simp
 obtain ⟨ps, h1, h2⟩ := key l.length (Nat.le_refl _)
 rw [List.take_length] at h1
 rw [show m.take l.length = m from List.take_of_length_le (by omega)] at h2
 refine List.ext_getElem (by simp [numb, he]) fun i hi _ => ?_
 rw [xI] at hi
 rw [numb_get hi, numb_get (by omega), h1, h2]
 have aux : ∀ (qs : List (Fin l.length)), (qs.map (fun i => l[i])).idxOf l[i] = (qs.map (fun i => m[i.1]'(by omega))).idxOf (m[i]'(by omega)) := by
  intro qs
  induction qs with
  | nil => simp
  | cons a qs ih =>
   rw [List.map_cons, List.map_cons, List.idxOf_cons, List.idxOf_cons, ih]
   have := h a.1 i a.2 hi
   by_cases e : l[a] = l[i]
   ·have e' := this.1 e
    simp only [beq_iff_eq.2 e, beq_iff_eq.2 e']
   ·have e' : ¬ (m[a.1]'(by omega) = m[i]'(by omega)) := fun h' => e (this.2 h')
    simp only [beq_eq_false_iff_ne.2 e, beq_eq_false_iff_ne.2 e']
 exact aux ps
theorem numb_norm {α : Type} [DecidableEq α] (l : List α) : Norm (numb l) := by
 refine numb_congr _ _ (xI l) fun i j hi hj => ?_
 rw [xI] at hi hj
 have := numb_eq_iff (l := l) hi hj
 rw [zX (by rw [xI]; exact hi), zX (by rw [xI]; exact hj)] at this
 exact this
theorem norm_ext {p q : List Nat} (hp : Norm p) (hq : Norm q) (h : SameKer p q) : p = q := by
 rw [← hp, ← hq]
 refine numb_congr _ _ h.1 fun i j hi hj => ?_
 have := h.2 i j hi hj
 rw [zX hi, zX hj, zX (by rw [← h.1]; exact hi), zX (by rw [← h.1]; exact hj)] at this
 exact this
end Go.Proofs.YtdjhoadoiknaoaaDoor
namespace Go.Proofs.YtdjhoadoiknaoaaDoor
structure DfaV where
 letters : Int
 start : Int
 final : List Bool
 next : List (List Int)
def rowD (letters : Int) (n : Nat) (r : List Int) : Bool := decide ((r.length : Int) = letters) && r.all fun x => decide (0 ≤ x ∧ x < n)
def uR (d : DfaV) : Int :=
 if d.letters < 1 ∨ 6 < d.letters then 1 else if 512 < d.final.length then 3
 else if d.final.length = 0 ∨ d.next.length ≠ d.final.length ∨ d.start < 0 ∨ d.final.length ≤ d.start then 4
 else if d.next.all (rowD d.letters d.final.length) then 0 else 4
structure VD (d : DfaV) (n k : Nat) : Prop where
 hk : d.letters = k
 k1 : 1 ≤ k
 k6 : k ≤ 6
 hn : d.final.length = n
 n1 : 1 ≤ n
 n512 : n ≤ 512
 nl : d.next.length = n
 s0 : 0 ≤ d.start
 sn : d.start < n
 row : ∀ q, q < n → (d.next.getD q []).length = k
 lo : ∀ q a, q < n → a < k → 0 ≤ ent d.next q a
 hi : ∀ q a, q < n → a < k → ent d.next q a < n
theorem rowD_iff {k : Int} {n : Nat} {r : List Int} : rowD k n r = true ↔ (r.length : Int) = k ∧ ∀ y, y < r.length → 0 ≤ r.getD y 0 ∧ r.getD y 0 < n := by
 simp only [rowD, Bool.and_eq_true, decide_eq_true_eq, List.all_eq_true]
 refine and_congr_right fun _ => ⟨fun h y hy => ?_, fun h x hx => ?_⟩
 ·have := h (r[y]) (List.getElem_mem hy)
  rwa [← zX (d := 0) hy] at this
 ·obtain ⟨y, hy, rfl⟩ := List.getElem_of_mem hx
  have := h y hy
  rwa [zX hy] at this
theorem vd_of {d : DfaV} (h : uR d = 0) : VD d d.final.length d.letters.toNat := by
 unfold uR at h
 split at h
 ·omega
 rename_i h1
 split at h
 ·omega
 rename_i h2
 split at h
 ·omega
 rename_i h3
 split at h
 ·rename_i h4
  rw [List.all_eq_true] at h4
  have hr : ∀ q, q < d.next.length → rowD d.letters d.final.length (d.next.getD q []) = true := fun q hq => by
   rw [zX hq]; exact h4 _ (List.getElem_mem hq)
  have hnl : d.next.length = d.final.length := by
   apply Classical.byContradiction; intro hh; exact h3 (.inr (.inl hh))
  refine ⟨by omega, by omega, by omega, rfl, by omega, by omega, hnl, by omega, by omega, fun q hq => ?_, fun q a hq ha => ?_, fun q a hq ha => ?_⟩
  ·have := (rowD_iff.1 (hr q (by omega))).1; omega
  ·obtain ⟨e, h⟩ := rowD_iff.1 (hr q (by omega))
   exact (h a (by omega)).1
  ·obtain ⟨e, h⟩ := rowD_iff.1 (hr q (by omega))
   exact (h a (by omega)).2
 ·omega
theorem validD_of {d : DfaV} {n k : Nat} (h : VD d n k) : uR d = 0 := by
 unfold uR
 rw [if_neg (by have := h.hk; have := h.k1; have := h.k6; omega), if_neg (by have := h.hn; have := h.n512; omega),
  if_neg (by have := h.hn; have := h.n1; have := h.nl; have := h.s0; have := h.sn; omega), if_pos]
 rw [List.all_eq_true]
 intro r hr
 obtain ⟨q, hq, rfl⟩ := List.getElem_of_mem hr
 have hq' : q < n := by have := h.nl; omega
 rw [rowD_iff]
 have hl := h.row q hq'
 rw [zX hq] at hl
 refine ⟨by rw [hl, h.hk], fun y hy => ?_⟩
 have h1 := h.lo q y hq' (by omega)
 have h2 := h.hi q y hq' (by omega)
 unfold ent at h1 h2
 rw [zX hq] at h1 h2
 rw [h.hn]
 exact ⟨h1, h2⟩
def nx (d : DfaV) (q a : Nat) : Nat := entN d.next q a
theorem nx_cast {d : DfaV} {n k : Nat} (h : VD d n k) {q a : Nat} (hq : q < n) (ha : a < k) : (nx d q a : Int) = ent d.next q a := Int.toNat_of_nonneg (h.lo q a hq ha)
theorem nx_lt {d : DfaV} {n k : Nat} (h : VD d n k) {q a : Nat} (hq : q < n) (ha : a < k) : nx d q a < n := by
 have h1 := nx_cast h hq ha
 have h2 := h.hi q a hq ha
 omega
def st0 (d : DfaV) : Nat := d.start.toNat
theorem st0_cast {d : DfaV} {n k : Nat} (h : VD d n k) : (st0 d : Int) = d.start := Int.toNat_of_nonneg h.s0
theorem st0_lt {d : DfaV} {n k : Nat} (h : VD d n k) : st0 d < n := by have := st0_cast h; have := h.sn; omega
def finB (b : Bool) : Int := if b then 1 else 0
def part0 (d : DfaV) : List Nat := numb (d.final.map finB)
def colTo (d : DfaV) (p : List Nat) (a : Nat) : List Nat := (List.range p.length).map fun q => p.getD (nx d q a) 0
def pairNo (m : Nat) (a b : Nat) : Int := (a : Int) * (m + 1) + b
def bothL (p q : List Nat) : List Int := List.zipWith (pairNo p.length) p q
def both8 (p q : List Nat) : List Nat := numb (bothL p q)
def refTo (d : DfaV) (p : List Nat) : Nat → List Nat
 | 0 => p
 | k + 1 => both8 (refTo d p k) (colTo d p k)
theorem part0_length (d : DfaV) : (part0 d).length = d.final.length := by simp [part0, xI]
theorem tV (d : DfaV) (p : List Nat) (a : Nat) : (colTo d p a).length = p.length := by simp [colTo]
theorem bothL_length {p q : List Nat} (h : q.length = p.length) : (bothL p q).length = p.length := by simp [bothL, h]
theorem both8_length {p q : List Nat} (h : q.length = p.length) : (both8 p q).length = p.length := by rw [both8, xI, bothL_length h]
theorem yX (d : DfaV) (p : List Nat) : ∀ k, (refTo d p k).length = p.length
 | 0 => rfl
 | k + 1 => by rw [refTo, both8_length (by rw [tV, yX d p k]), yX d p k]
theorem norm_lt {p : List Nat} (h : Norm p) : ∀ c ∈ p, c < p.length := by
 intro c hc
 have h1 := numb_lt (l := p)
 rw [h] at h1
 have := h1 c hc
 have := tY p
 omega
theorem pairNo_inj {m a b a' b' : Nat} (hb : b ≤ m) (hb' : b' ≤ m) : pairNo m a b = pairNo m a' b' ↔ a = a' ∧ b = b' := by
 unfold pairNo
 constructor
 ·intro h
  have h' : a * (m + 1) + b = a' * (m + 1) + b' := by exact_mod_cast h
  have e1 : (a * (m + 1) + b) / (m + 1) = a := by rw [Nat.mul_comm, Nat.mul_add_div (by omega), Nat.div_eq_of_lt (by omega)]; omega
  have e2 : (a' * (m + 1) + b') / (m + 1) = a' := by rw [Nat.mul_comm, Nat.mul_add_div (by omega), Nat.div_eq_of_lt (by omega)]; omega
  have ha : a = a' := by rw [← e1, ← e2, h']
  subst ha
  exact ⟨rfl, by omega⟩
 ·rintro ⟨rfl, rfl⟩; rfl
theorem both8_iff {p q : List Nat} (h : q.length = p.length) (hq : ∀ c ∈ q, c < p.length) {i j : Nat} (hi : i < p.length) (hj : j < p.length) :
  (both8 p q).getD i 0 = (both8 p q).getD j 0 ↔ p.getD i 0 = p.getD j 0 ∧ q.getD i 0 = q.getD j 0 := by
 have hi' : i < (bothL p q).length := by rw [bothL_length h]; exact hi
 have hj' : j < (bothL p q).length := by rw [bothL_length h]; exact hj
 rw [both8, numb_eq_iff hi' hj']
 simp only [bothL, List.getElem_zipWith]
 rw [pairNo_inj (Nat.le_of_lt (hq _ (List.getElem_mem _))) (Nat.le_of_lt (hq _ (List.getElem_mem _))), zX hi, zX hj, zX (show i < q.length by omega), zX (show j < q.length by omega)]
theorem colTo_get {d : DfaV} {p : List Nat} {a i : Nat} (hi : i < p.length) : (colTo d p a).getD i 0 = p.getD (nx d i a) 0 := by
 rw [zX (by rw [tV]; exact hi)]; simp [colTo]
theorem getD_lt_of {p : List Nat} {n i : Nat} (h : ∀ c ∈ p, c < n) (hn : 0 < n) : p.getD i 0 < n := by
 by_cases hi : i < p.length
 ·rw [zX hi]; exact h _ (List.getElem_mem hi)
 ·rw [List.getD, List.getElem?_eq_none (by omega)]; exact hn
theorem refTo_iff {d : DfaV} {n k : Nat} (hd : VD d n k) {p : List Nat} (hp : p.length = n) (hlt : ∀ c ∈ p, c < n) {i j : Nat} (hi : i < n) (hj : j < n) :
  ∀ m, m ≤ k → ((refTo d p m).getD i 0 = (refTo d p m).getD j 0 ↔ p.getD i 0 = p.getD j 0 ∧ ∀ a, a < m → p.getD (nx d i a) 0 = p.getD (nx d j a) 0)
 | 0, _ => by simp [refTo]
 | m + 1, hm => by
  rw [refTo, both8_iff (by rw [tV, yX]) (fun c hc => ?_) (by rw [yX]; omega) (by rw [yX]; omega), refTo_iff hd hp hlt hi hj m (by omega), colTo_get (by omega), colTo_get (by omega)]
  ·constructor
   ·rintro ⟨⟨h1, h2⟩, h3⟩
    refine ⟨h1, fun a ha => ?_⟩
    rcases Nat.lt_succ_iff_lt_or_eq.1 ha with ha | rfl
    ·exact h2 a ha
    ·exact h3
   ·rintro ⟨h1, h2⟩
    exact ⟨⟨h1, fun a ha => h2 a (by omega)⟩, h2 m (by omega)⟩
  ·rw [yX, hp]
   obtain ⟨q, hq, rfl⟩ := List.mem_map.1 hc
   exact getD_lt_of hlt hd.n1
theorem refTo_norm {d : DfaV} {p : List Nat} (hp : Norm p) : ∀ m, Norm (refTo d p m)
 | 0 => hp
 | m + 1 => numb_norm _
def cls (p : List Nat) : Nat := (yN p).length
theorem cls_mono {p q : List Nat} (hl : q.length = p.length) (h : ∀ i j, i < p.length → j < p.length → q.getD i 0 = q.getD j 0 → p.getD i 0 = p.getD j 0) :
  cls p ≤ cls q ∧ (cls p = cls q → ∀ i j, i < p.length → j < p.length → p.getD i 0 = p.getD j 0 → q.getD i 0 = q.getD j 0) := by
 -- the classes of q are mapped onto those of p
 let f : Nat → Nat := fun c => p.getD (q.idxOf c) 0
 have hf : ∀ i, i < p.length → f (q.getD i 0) = p.getD i 0 := by
  intro i hi
  have hi' : i < q.length := by omega
  have hm : q.getD i 0 ∈ q := by rw [zX hi']; exact List.getElem_mem _
  have hlt := List.idxOf_lt_length_of_mem hm
  refine h _ i (by omega) hi ?_
  rw [zX hlt, List.getElem_idxOf]
 have hsub : ∀ c ∈ yN p, c ∈ (yN q).map f := by
  intro c hc
  obtain ⟨i, hi, rfl⟩ := List.getElem_of_mem (wD.1 hc)
  rw [List.mem_map]
  refine ⟨q.getD i 0, wD.2 (by rw [zX (by omega)]; exact List.getElem_mem _), ?_⟩
  rw [hf i hi, zX hi]
 have hle : (yN p).length ≤ ((yN q).map f).length := (firsts_nodup p).length_le_of_subset hsub
 rw [List.length_map] at hle
 refine ⟨hle, fun e i j hi hj hp => ?_⟩
 have hinj : ∀ x ∈ yN q, ∀ y ∈ yN q, f x = f y → x = y := by
  intro x hx y hy hxy
  apply Classical.byContradiction
  intro hne
  have hsub2 : ∀ c ∈ yN p, c ∈ ((yN q).erase x).map f := by
   intro c hc
   obtain ⟨z, hz, rfl⟩ := List.mem_map.1 (hsub c hc)
   by_cases e : z = x
   ·subst e
    exact List.mem_map.2 ⟨y, (List.mem_erase_of_ne (Ne.symm hne)).2 hy, hxy.symm⟩
   ·exact List.mem_map.2 ⟨z, (List.mem_erase_of_ne e).2 hz, rfl⟩
  have h1 := (firsts_nodup p).length_le_of_subset hsub2
  rw [List.length_map, List.length_erase_of_mem hx] at h1
  have h2 := List.length_pos_of_mem hx
  unfold cls at e
  omega
 have mem : ∀ i, i < p.length → q.getD i 0 ∈ yN q := fun i hi => wD.2 (by rw [zX (by omega)]; exact List.getElem_mem _)
 exact hinj _ (mem i hi) _ (mem j hj) (by rw [hf i hi, hf j hj, hp])
end Go.Proofs.YtdjhoadoiknaoaaDoor
namespace Go.Proofs.YtdjhoadoiknaoaaDoor
theorem cls_le (p : List Nat) : cls p ≤ p.length := tY p
theorem part0_norm (d : DfaV) : Norm (part0 d) := numb_norm _
def clsIt (d : DfaV) (k : Nat) : Nat → List Nat
 | 0 => part0 d
 | m + 1 => refTo d (clsIt d k m) k
theorem tW (d : DfaV) (k : Nat) : ∀ m, (clsIt d k m).length = d.final.length
 | 0 => part0_length d
 | m + 1 => by rw [clsIt, yX, tW d k m]
theorem clsIt_norm (d : DfaV) (k : Nat) : ∀ m, Norm (clsIt d k m)
 | 0 => part0_norm d
 | m + 1 => refTo_norm (clsIt_norm d k m) k
theorem cls_pos {p : List Nat} (h : 0 < p.length) : 0 < cls p := by
 have hm : p[0] ∈ yN p := wD.2 (List.getElem_mem h)
 exact List.length_pos_of_mem hm
theorem refine_grow {d : DfaV} {n k : Nat} (hd : VD d n k) {p : List Nat} (hp : p.length = n) (hn : Norm p) (hne : refTo d p k ≠ p) : cls p < cls (refTo d p k) := by
 have hlt : ∀ c ∈ p, c < n := by have := norm_lt hn; rwa [hp] at this
 obtain ⟨h1, h2⟩ := cls_mono (p := p) (q := refTo d p k) (yX d p k) (fun i j hi hj h => ((refTo_iff hd hp hlt (by omega) (by omega) k (Nat.le_refl _)).1 h).1)
 refine Nat.lt_of_le_of_ne h1 fun e => hne ?_
 refine norm_ext (refTo_norm hn k) hn ⟨yX d p k, fun i j hi hj => ?_⟩
 rw [yX] at hi hj
 exact ⟨fun h => ((refTo_iff hd hp hlt (by omega) (by omega) k (Nat.le_refl _)).1 h).1, fun h => h2 e i j hi hj h⟩
def tD (d : DfaV) (k : Nat) : List Nat := clsIt d k d.final.length
theorem clsIt_fix {d : DfaV} {k m : Nat} (h : refTo d (clsIt d k m) k = clsIt d k m) : ∀ j, m ≤ j → clsIt d k j = clsIt d k m
 | 0, hj => by rw [show m = 0 by omega]
 | j + 1, hj => by
  by_cases e : m = j + 1
  ·rw [e]
  ·rw [clsIt, clsIt_fix h j (by omega), h]
theorem classes_of_fix {d : DfaV} {k m : Nat} (hm : m ≤ d.final.length) (h : refTo d (clsIt d k m) k = clsIt d k m) : tD d k = clsIt d k m := clsIt_fix h _ hm
theorem classesD_length (d : DfaV) (k : Nat) : (tD d k).length = d.final.length := tW _ _ _
theorem classesD_norm (d : DfaV) (k : Nat) : Norm (tD d k) := clsIt_norm _ _ _
theorem firsts_norm {p : List Nat} (h : Norm p) : yN p = List.range (cls p) := by
 refine List.ext_getElem (by simp [cls]) fun i h1 h2 => ?_
 rw [List.getElem_range]
 have hm := List.getElem_mem h1
 obtain ⟨q, hq, e⟩ := List.getElem_of_mem (wD.1 hm)
 have hh : (numb p)[q]'(by rw [xI]; exact hq) = p[q] := by simp only [show numb p = p from h]
 rw [numb_get hq, e] at hh
 have h3 := List.idxOf_lt_length_of_mem hm
 have h4 := List.getElem_idxOf h3
 have := (List.getElem_inj (firsts_nodup p)).1 h4
 omega
theorem firsts_norm_take {p : List Nat} (h : Norm p) (k : Nat) : yN (p.take k) = List.range (cls (p.take k)) := by
 have h1 := firsts_take_prefix p k
 rw [firsts_norm h] at h1
 obtain ⟨r, hr⟩ := h1
 refine List.ext_getElem (by simp [cls]) fun i h1 h2 => ?_
 rw [List.getElem_range]
 have : (yN (p.take k) ++ r)[i]'(by rw [List.length_append]; omega) = i := by simp only [hr, List.getElem_range]
 rwa [List.getElem_append_left h1] at this
theorem norm_new {p : List Nat} (h : Norm p) {q : Nat} (hq : q < p.length) : p.getD q 0 ≤ cls (p.take q) ∧ (p.getD q 0 = cls (p.take q) → cls (p.take (q + 1)) = cls (p.take q) + 1) ∧ (p.getD q 0 ≠ cls (p.take q) → cls (p.take (q + 1)) = cls (p.take q)) := by
 have h1 := firsts_norm_take h (q + 1)
 have e : yN (p.take (q + 1)) = uH (yN (p.take q)) p[q] := by rw [List.take_succ_eq_append_getElem hq, sZ]
 have h0 := firsts_norm_take h q
 rw [zX hq]
 by_cases hm : p[q] ∈ yN (p.take q)
 ·have hlt : p[q] < cls (p.take q) := by rw [h0] at hm; exact List.mem_range.1 hm
  rw [sK hm] at e
  have : cls (p.take (q + 1)) = cls (p.take q) := by unfold cls; rw [e]
  exact ⟨by omega, fun h => by omega, fun _ => this⟩
 ·rw [sM hm] at e
  have hc : cls (p.take (q + 1)) = cls (p.take q) + 1 := by unfold cls; rw [e]; simp
  have hl : p[q] = cls (p.take q) := by
   rw [h1, h0, hc, List.range_succ] at e
   have := List.append_cancel_left e
   simpa using this.symm
  exact ⟨by omega, fun _ => hc, fun h => absurd hl h⟩
def uX (p : List Nat) (k : Nat) : List Nat := (List.range k).filter fun q => p.getD q 0 == cls (p.take q)
theorem uV {p : List Nat} {k : Nat} (h : p.getD k 0 = cls (p.take k)) : uX p (k + 1) = uX p k ++ [k] := by
 rw [uX, List.range_succ, List.filter_append, List.filter_cons, if_pos (beq_iff_eq.2 h)]; rfl
theorem uU {p : List Nat} {k : Nat} (h : p.getD k 0 ≠ cls (p.take k)) : uX p (k + 1) = uX p k := by
 rw [uX, List.range_succ, List.filter_append, List.filter_cons, if_neg (fun e => h (beq_iff_eq.1 e)), List.filter_nil, List.append_nil]; rfl
theorem uW {p : List Nat} (h : Norm p) : ∀ k, k ≤ p.length → (uX p k).length = cls (p.take k)
 | 0, _ => by simp [uX, cls, yN]
 | k + 1, hk => by
  obtain ⟨h0, h1, h2⟩ := norm_new h (show k < p.length by omega)
  have ih := uW h k (by omega)
  by_cases e : p.getD k 0 = cls (p.take k)
  ·rw [uV e, List.length_append, ih, h1 e]; rfl
  ·rw [uU e, ih, h2 e]
theorem repsTo_get {p : List Nat} (h : Norm p) : ∀ k, k ≤ p.length → ∀ c, c < cls (p.take k) → p.getD ((uX p k).getD c 0) 0 = c ∧ (uX p k).getD c 0 < k
 | 0, _, c, hc => by simp [cls, yN] at hc
 | k + 1, hk, c, hc => by
  obtain ⟨h0, h1, h2⟩ := norm_new h (show k < p.length by omega)
  have hl := uW h k (by omega)
  by_cases e : p.getD k 0 = cls (p.take k)
  ·rw [h1 e] at hc
   rw [uV e]
   by_cases hc' : c < cls (p.take k)
   ·have ih := repsTo_get h k (by omega) c hc'
    rw [show (uX p k ++ [k]).getD c 0 = (uX p k).getD c 0 from by simp [List.getD, List.getElem?_append_left (show c < (uX p k).length by omega)]]
    exact ⟨ih.1, by omega⟩
   ·have hc2 : c = (uX p k).length := by omega
    rw [show (uX p k ++ [k]).getD c 0 = k from by simp [List.getD, hc2]]
    exact ⟨by omega, by omega⟩
  ·rw [h2 e] at hc
   rw [uU e]
   have ih := repsTo_get h k (by omega) c hc
   exact ⟨ih.1, by omega⟩
def reps (p : List Nat) : List Nat := uX p p.length
def uZ (p : List Nat) (r : List Int) : List Int := r.map fun s => ((p.getD s.toNat 0 : Nat) : Int)
def quotD (d : DfaV) (p : List Nat) : DfaV :=
 ⟨d.letters, ((p.getD (st0 d) 0 : Nat) : Int), (reps p).map fun q => d.final.getD q false, (reps p).map fun q => uZ p (d.next.getD q [])⟩
theorem uG {α β : Type} {l : List α} {f : α → β} {i : Nat} {x : α} {y : β} (h : i < l.length) : (l.map f).getD i y = f (l.getD i x) := by
 rw [zX (by simpa using h), zX h]; simp
theorem mapRow_get {p : List Nat} {r : List Int} {a : Nat} (h : a < r.length) : (uZ p r).getD a 0 = ((p.getD (r.getD a 0).toNat 0 : Nat) : Int) := by
 rw [uZ, uG (x := 0) h]
theorem reps_length {p : List Nat} (h : Norm p) : (reps p).length = cls p := by
 have := uW h p.length (Nat.le_refl _)
 rwa [List.take_length] at this
theorem reps_get {p : List Nat} (h : Norm p) {c : Nat} (hc : c < cls p) : p.getD ((reps p).getD c 0) 0 = c ∧ (reps p).getD c 0 < p.length :=
 repsTo_get h p.length (Nat.le_refl _) c (by rwa [List.take_length])
theorem norm_lt_cls {p : List Nat} (h : Norm p) {i : Nat} (hi : i < p.length) : p.getD i 0 < cls p := by
 have := numb_lt (l := p)
 rw [h] at this
 rw [zX hi]
 exact this _ (List.getElem_mem hi)
section
variable {d : DfaV} {n k : Nat} {p : List Nat}
theorem quot_ent (hd : VD d n k) (hp : p.length = n) (hn : Norm p) {c a : Nat} (hc : c < cls p) (ha : a < k) : ent (quotD d p).next c a = ((p.getD (nx d ((reps p).getD c 0) a) 0 : Nat) : Int) := by
 have hr := reps_get hn hc
 unfold ent quotD
 rw [uG (x := 0) (by rw [reps_length hn]; exact hc), mapRow_get (by rw [hd.row _ (by omega)]; exact ha)]
 rfl
theorem quot_vd (hd : VD d n k) (hp : p.length = n) (hn : Norm p) : VD (quotD d p) (cls p) k where
 hk := hd.hk
 k1 := hd.k1
 k6 := hd.k6
 hn := by simp [quotD, reps_length hn]
 n1 := cls_pos (by rw [hp]; exact hd.n1)
 n512 := Nat.le_trans (cls_le p) (by rw [hp]; exact hd.n512)
 nl := by simp [quotD, reps_length hn]
 s0 := by simp [quotD]
 sn := by
  have := norm_lt_cls hn (i := st0 d) (by rw [hp]; exact st0_lt hd)
  simp only [quotD]
  omega
 row := fun c hc => by
  simp only [quotD]
  rw [uG (x := 0) (by rw [reps_length hn]; exact hc)]
  have hr := reps_get hn hc
  rw [uZ, List.length_map, hd.row _ (by omega)]
 lo := fun c a hc ha => by rw [quot_ent hd hp hn hc ha]; omega
 hi := fun c a hc ha => by
  rw [quot_ent hd hp hn hc ha]
  have hr := reps_get hn hc
  have := norm_lt_cls hn (i := nx d ((reps p).getD c 0) a) (by rw [hp]; exact nx_lt hd (by omega) ha)
  omega
end
def run (d : DfaV) (q : Nat) (w : List Nat) : Nat := w.foldl (nx d) q
def wordOk (k : Nat) (w : List Nat) : Prop := ∀ a ∈ w, a < k
theorem run_snoc (d : DfaV) (q : Nat) (w : List Nat) (a : Nat) : run d q (w ++ [a]) = nx d (run d q w) a := by simp [run]
def accRow (d : DfaV) (l : List Nat) (i : Nat) : Nat → List Nat
 | 0 => l
 | a + 1 => uH (accRow d l i a) (nx d (l.getD i 0) a)
def accGo (d : DfaV) (k : Nat) : Nat → Nat → List Nat → List Nat
 | 0, _, l => l
 | f + 1, i, l => if i < l.length then accGo d k f (i + 1) (accRow d l i k) else l
def wI (d : DfaV) (k : Nat) : List Nat := accGo d k d.final.length 0 [st0 d]
theorem accRow_prefix (d : DfaV) (l : List Nat) (i : Nat) : ∀ a, l <+: accRow d l i a
 | 0 => List.prefix_refl _
 | a + 1 => (accRow_prefix d l i a).trans (addNew_prefix _ _)
theorem accRow_nodup {d : DfaV} {l : List Nat} (h : l.Nodup) (i : Nat) : ∀ a, (accRow d l i a).Nodup
 | 0 => h
 | a + 1 => addNew_nodup (accRow_nodup h i a)
theorem sJ {d : DfaV} {l : List Nat} {i : Nat} {y : Nat} : ∀ {a}, y ∈ accRow d l i a ↔ y ∈ l ∨ ∃ b, b < a ∧ y = nx d (l.getD i 0) b
 | 0 => by simp [accRow]
 | a + 1 => by
  rw [accRow, mem_addNew, sJ, or_assoc]
  refine or_congr_right ⟨?_, ?_⟩
  ·rintro (⟨b, hb, h⟩ | h)
   ·exact ⟨b, by omega, h⟩
   ·exact ⟨a, by omega, h⟩
  ·rintro ⟨b, hb, h⟩
   rcases Nat.lt_succ_iff_lt_or_eq.1 hb with hb | rfl
   ·exact .inl ⟨b, hb, h⟩
   ·exact .inr h
structure AccI (d : DfaV) (n k i : Nat) (l : List Nat) : Prop where
 nd : l.Nodup
 lt : ∀ q ∈ l, q < n
 hd : 0 < l.length ∧ l.getD 0 0 = st0 d
 cl : ∀ j a, j < i → j < l.length → a < k → nx d (l.getD j 0) a ∈ l
 re : ∀ q ∈ l, ∃ w, wordOk k w ∧ run d (st0 d) w = q
theorem getD_prefix {l m : List Nat} (h : l <+: m) {i : Nat} (hi : i < l.length) : m.getD i 0 = l.getD i 0 := by
 obtain ⟨r, rfl⟩ := h
 simp [List.getD, List.getElem?_append_left hi]
theorem AccI.row {d : DfaV} {n k i : Nat} {l : List Nat} (hd : VD d n k) (h : AccI d n k i l) (hi : i < l.length) : AccI d n k (i + 1) (accRow d l i k) := by
 have hp := accRow_prefix d l i k
 have hle := hp.length_le
 have hil : l.getD i 0 ∈ l := by rw [zX hi]; exact List.getElem_mem _
 have hin := h.lt _ hil
 refine ⟨accRow_nodup h.nd i k, fun q hq => ?_, ⟨by have := h.hd.1; omega, by rw [getD_prefix hp h.hd.1]; exact h.hd.2⟩, fun j a hj hjl ha => ?_, fun q hq => ?_⟩
 ·rcases sJ.1 hq with hq | ⟨b, hb, rfl⟩
  ·exact h.lt q hq
  ·exact nx_lt hd hin hb
 ·rw [getD_prefix hp (show j < l.length by omega)]
  rcases Nat.lt_succ_iff_lt_or_eq.1 hj with hj | rfl
  ·exact sJ.2 (.inl (h.cl j a hj (by omega) ha))
  ·exact sJ.2 (.inr ⟨a, ha, rfl⟩)
 ·rcases sJ.1 hq with hq | ⟨b, hb, rfl⟩
  ·exact h.re q hq
  ·obtain ⟨w, hw, e⟩ := h.re _ hil
   refine ⟨w ++ [b], fun c hc => ?_, by rw [run_snoc, e]⟩
   rcases List.mem_append.1 hc with hc | hc
   ·exact hw c hc
   ·rw [List.mem_singleton] at hc; subst hc; exact hb
theorem nodup_le {l : List Nat} {n : Nat} (h : l.Nodup) (hl : ∀ q ∈ l, q < n) : l.length ≤ n := by
 have := h.length_le_of_subset (fun q hq => List.mem_range.2 (hl q hq))
 simpa using this
theorem AccI.start {d : DfaV} {n k : Nat} (hd : VD d n k) : AccI d n k 0 [st0 d] :=
 ⟨by simp, fun q hq => by rw [List.mem_singleton] at hq; subst hq; exact st0_lt hd, ⟨by simp, by simp⟩, fun j a hj => by omega, fun q hq => by
  rw [List.mem_singleton] at hq; subst hq; exact ⟨[], fun a ha => by simp at ha, rfl⟩⟩
theorem accGo_ok {d : DfaV} {n k : Nat} (hd : VD d n k) : ∀ f i l, AccI d n k i l → n ≤ i + f → AccI d n k n (accGo d k f i l) ∧ (accGo d k f i l).length ≤ n
 | 0, i, l, h, hf => by
  have hl := nodup_le h.nd h.lt
  exact ⟨⟨h.nd, h.lt, h.hd, fun j a hj hjl ha => h.cl j a (by omega) hjl ha, h.re⟩, hl⟩
 | f + 1, i, l, h, hf => by
  rw [accGo]
  split
  ·rename_i hi
   exact accGo_ok hd f (i + 1) _ (h.row hd hi) (by omega)
  ·rename_i hi
   have hl := nodup_le h.nd h.lt
   exact ⟨⟨h.nd, h.lt, h.hd, fun j a hj hjl ha => h.cl j a (by omega) hjl ha, h.re⟩, hl⟩
theorem uI {d : DfaV} {n k : Nat} (hd : VD d n k) : AccI d n k n (wI d k) ∧ (wI d k).length ≤ n := accGo_ok hd _ _ _ (AccI.start hd) (by rw [hd.hn]; omega)
theorem accGo_end {d : DfaV} {k f i : Nat} {l : List Nat} (h : ¬ i < l.length) : accGo d k f i l = l := by
 cases f with
 | zero => rfl
 | succ f => rw [accGo, if_neg h]
def placeOf (l : List Nat) (q : Nat) : Int := if q ∈ l then (l.idxOf q : Int) else -1
def wS (l : List Nat) (r : List Int) : List Int := r.map fun s => placeOf l s.toNat
def trimD (d : DfaV) (k : Nat) : DfaV := ⟨d.letters, 0, (wI d k).map fun q => d.final.getD q false, (wI d k).map fun q => wS (wI d k) (d.next.getD q [])⟩
section
variable {d : DfaV} {n k : Nat}
theorem trim_ent (hd : VD d n k) {i a : Nat} (hi : i < (wI d k).length) (ha : a < k) : ent (trimD d k).next i a = (((wI d k).idxOf (nx d ((wI d k).getD i 0) a) : Nat) : Int) := by
 have hA := (uI hd).1
 have hq := hA.lt _ (show (wI d k).getD i 0 ∈ wI d k by rw [zX hi]; exact List.getElem_mem _)
 have hn := (uI hd).2
 unfold ent trimD
 rw [uG (x := 0) hi, wS, uG (x := 0) (by rw [hd.row _ hq]; exact ha), placeOf, if_pos]
 ·rfl
 ·exact hA.cl i a (by omega) hi ha
theorem trim_vd (hd : VD d n k) : VD (trimD d k) (wI d k).length k where
 hk := hd.hk
 k1 := hd.k1
 k6 := hd.k6
 hn := by simp [trimD]
 n1 := (uI hd).1.hd.1
 n512 := Nat.le_trans (uI hd).2 hd.n512
 nl := by simp [trimD]
 s0 := by simp [trimD]
 sn := by have := (uI hd).1.hd.1; simp only [trimD]; omega
 row := fun i hi => by
  have hA := (uI hd).1
  have hq := hA.lt _ (show (wI d k).getD i 0 ∈ wI d k by rw [zX hi]; exact List.getElem_mem _)
  simp only [trimD]
  rw [uG (x := 0) hi, wS, List.length_map, hd.row _ hq]
 lo := fun i a hi ha => by rw [trim_ent hd hi ha]; omega
 hi := fun i a hi ha => by
  have hn := (uI hd).2
  rw [trim_ent hd hi ha]
  have := List.idxOf_lt_length_of_mem ((uI hd).1.cl i a (by omega) hi ha)
  omega
end
def minD (d : DfaV) (k : Nat) : DfaV := trimD (quotD d (tD d k)) k
def minN (d : DfaV) (k : Nat) : Nat := (wI (quotD d (tD d k)) k).length
section
variable {d : DfaV} {n k : Nat}
theorem quotC_vd (hd : VD d n k) : VD (quotD d (tD d k)) (cls (tD d k)) k := quot_vd hd (by rw [classesD_length, hd.hn]) (classesD_norm d k)
theorem min_vd (hd : VD d n k) : VD (minD d k) (minN d k) k := trim_vd (quotC_vd hd)
theorem minN_le (hd : VD d n k) : minN d k ≤ n := Nat.le_trans (uI (quotC_vd hd)).2 (Nat.le_trans (cls_le _) (by rw [classesD_length, hd.hn]; exact Nat.le_refl _))
end
end Go.Proofs.YtdjhoadoiknaoaaDoor
