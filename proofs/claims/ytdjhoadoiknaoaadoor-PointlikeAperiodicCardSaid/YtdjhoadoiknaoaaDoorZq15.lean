/- Part 15 of the proof: DfaPlain. -/
import Derived.Test.YtdjhoadoiknaoaaDoorZq14
set_option linter.unusedVariables false
set_option linter.unusedSimpArgs false
namespace Go.Proofs.YtdjhoadoiknaoaaDoor
structure DfaV where
 letters : Int
 start : Int
 final : List Bool
 next : List (List Int)
def rowD (letters : Int) (n : Nat) (r : List Int) : Bool := decide ((r.length : Int) = letters) && r.all fun x => decide (0 ≤ x ∧ x < n)
def tF (d : DfaV) : Int :=
 if d.letters < 1 ∨ 6 < d.letters then 1 else if 512 < d.final.length then 3
 else if d.final.length = 0 ∨ d.next.length ≠ d.final.length ∨ d.start < 0 ∨ d.final.length ≤ d.start then 4
 else if d.next.all (rowD d.letters d.final.length) then 0 else 4
structure VD (d : DfaV) (n k : Nat) : Prop where
 hk : d.letters = k
 k1 : 1 ≤ k
 k6 : k ≤ 6
 hn : d.final.length = n
 n1 : 1 ≤ n
 n512 : n ≤ 512
 nl : d.next.length = n
 s0 : 0 ≤ d.start
 sn : d.start < n
 row : ∀ q, q < n → (d.next.getD q []).length = k
 lo : ∀ q a, q < n → a < k → 0 ≤ ent d.next q a
 hi : ∀ q a, q < n → a < k → ent d.next q a < n
theorem rowD_iff {k : Int} {n : Nat} {r : List Int} : rowD k n r = true ↔ (r.length : Int) = k ∧ ∀ y, y < r.length → 0 ≤ r.getD y 0 ∧ r.getD y 0 < n := by
 simp only [rowD, Bool.and_eq_true, decide_eq_true_eq, List.all_eq_true]
 refine and_congr_right fun _ => ⟨fun h y hy => ?_, fun h x hx => ?_⟩
 ·have := h (r[y]) (List.getElem_mem hy)
  rwa [← zN (d := 0) hy] at this
 ·obtain ⟨y, hy, rfl⟩ := List.getElem_of_mem hx
  have := h y hy
  rwa [zN hy] at this
theorem vd_of {d : DfaV} (h : tF d = 0) : VD d d.final.length d.letters.toNat := by
 unfold tF at h
 split at h
 ·omega
 rename_i h1
 split at h
 ·omega
 rename_i h2
 split at h
 ·omega
 rename_i h3
 split at h
 ·rename_i h4
  rw [List.all_eq_true] at h4
  have hr : ∀ q, q < d.next.length → rowD d.letters d.final.length (d.next.getD q []) = true := fun q hq => by
   rw [zN hq]; exact h4 _ (List.getElem_mem hq)
  have hnl : d.next.length = d.final.length := by
   apply Classical.byContradiction; intro hh; exact h3 (.inr (.inl hh))
  refine ⟨by omega, by omega, by omega, rfl, by omega, by omega, hnl, by omega, by omega, fun q hq => ?_, fun q a hq ha => ?_, fun q a hq ha => ?_⟩
  ·have := (rowD_iff.1 (hr q (by omega))).1; omega
  ·obtain ⟨e, h⟩ := rowD_iff.1 (hr q (by omega))
   exact (h a (by omega)).1
  ·obtain ⟨e, h⟩ := rowD_iff.1 (hr q (by omega))
   exact (h a (by omega)).2
 ·omega
def nx (d : DfaV) (q a : Nat) : Nat := entN d.next q a
theorem nx_cast {d : DfaV} {n k : Nat} (h : VD d n k) {q a : Nat} (hq : q < n) (ha : a < k) : (nx d q a : Int) = ent d.next q a := Int.toNat_of_nonneg (h.lo q a hq ha)
theorem nx_lt {d : DfaV} {n k : Nat} (h : VD d n k) {q a : Nat} (hq : q < n) (ha : a < k) : nx d q a < n := by
 have h1 := nx_cast h hq ha
 have h2 := h.hi q a hq ha
 omega
def st0 (d : DfaV) : Nat := d.start.toNat
theorem st0_cast {d : DfaV} {n k : Nat} (h : VD d n k) : (st0 d : Int) = d.start := Int.toNat_of_nonneg h.s0
theorem st0_lt {d : DfaV} {n k : Nat} (h : VD d n k) : st0 d < n := by have := st0_cast h; have := h.sn; omega
def finB (b : Bool) : Int := if b then 1 else 0
def part0 (d : DfaV) : List Nat := numb (d.final.map finB)
def colTo (d : DfaV) (p : List Nat) (a : Nat) : List Nat := (List.range p.length).map fun q => p.getD (nx d q a) 0
def pairNo (m : Nat) (a b : Nat) : Int := (a : Int) * (m + 1) + b
def bothL (p q : List Nat) : List Int := List.zipWith (pairNo p.length) p q
def both8 (p q : List Nat) : List Nat := numb (bothL p q)
def refTo (d : DfaV) (p : List Nat) : Nat → List Nat
 | 0 => p
 | k + 1 => both8 (refTo d p k) (colTo d p k)
theorem part0_length (d : DfaV) : (part0 d).length = d.final.length := by simp [part0, xH]
theorem tI (d : DfaV) (p : List Nat) (a : Nat) : (colTo d p a).length = p.length := by simp [colTo]
theorem sQ {p q : List Nat} (h : q.length = p.length) : (bothL p q).length = p.length := by simp [bothL, h]
theorem both8_length {p q : List Nat} (h : q.length = p.length) : (both8 p q).length = p.length := by rw [both8, xH, sQ h]
theorem yV (d : DfaV) (p : List Nat) : ∀ k, (refTo d p k).length = p.length
 | 0 => rfl
 | k + 1 => by rw [refTo, both8_length (by rw [tI, yV d p k]), yV d p k]
theorem norm_lt {p : List Nat} (h : Norm p) : ∀ c ∈ p, c < p.length := by
 intro c hc
 have h1 := numb_lt (l := p)
 rw [h] at h1
 have := h1 c hc
 have := tK p
 omega
theorem pairNo_inj {m a b a' b' : Nat} (hb : b ≤ m) (hb' : b' ≤ m) : pairNo m a b = pairNo m a' b' ↔ a = a' ∧ b = b' := by
 unfold pairNo
 constructor
 ·intro h
  have h' : a * (m + 1) + b = a' * (m + 1) + b' := by exact_mod_cast h
  have e1 : (a * (m + 1) + b) / (m + 1) = a := by rw [Nat.mul_comm, Nat.mul_add_div (by omega), Nat.div_eq_of_lt (by omega)]; omega
  have e2 : (a' * (m + 1) + b') / (m + 1) = a' := by rw [Nat.mul_comm, Nat.mul_add_div (by omega), Nat.div_eq_of_lt (by omega)]; omega
  have ha : a = a' := by rw [← e1, ← e2, h']
  subst ha
  exact ⟨rfl, by omega⟩
 ·rintro ⟨rfl, rfl⟩; rfl
theorem both8_iff {p q : List Nat} (h : q.length = p.length) (hq : ∀ c ∈ q, c < p.length) {i j : Nat} (hi : i < p.length) (hj : j < p.length) :
  (both8 p q).getD i 0 = (both8 p q).getD j 0 ↔ p.getD i 0 = p.getD j 0 ∧ q.getD i 0 = q.getD j 0 := by
 have hi' : i < (bothL p q).length := by rw [sQ h]; exact hi
 have hj' : j < (bothL p q).length := by rw [sQ h]; exact hj
 rw [both8, numb_eq_iff hi' hj']
 simp only [bothL, List.getElem_zipWith]
 rw [pairNo_inj (Nat.le_of_lt (hq _ (List.getElem_mem _))) (Nat.le_of_lt (hq _ (List.getElem_mem _))), zN hi, zN hj, zN (show i < q.length by omega), zN (show j < q.length by omega)]
theorem colTo_get {d : DfaV} {p : List Nat} {a i : Nat} (hi : i < p.length) : (colTo d p a).getD i 0 = p.getD (nx d i a) 0 := by
 rw [zN (by rw [tI]; exact hi)]; simp [colTo]
theorem getD_lt_of {p : List Nat} {n i : Nat} (h : ∀ c ∈ p, c < n) (hn : 0 < n) : p.getD i 0 < n := by
 by_cases hi : i < p.length
 ·rw [zN hi]; exact h _ (List.getElem_mem hi)
 ·rw [List.getD, List.getElem?_eq_none (by omega)]; exact hn
theorem refTo_iff {d : DfaV} {n k : Nat} (hd : VD d n k) {p : List Nat} (hp : p.length = n) (hlt : ∀ c ∈ p, c < n) {i j : Nat} (hi : i < n) (hj : j < n) :
  ∀ m, m ≤ k → ((refTo d p m).getD i 0 = (refTo d p m).getD j 0 ↔ p.getD i 0 = p.getD j 0 ∧ ∀ a, a < m → p.getD (nx d i a) 0 = p.getD (nx d j a) 0)
 | 0, _ => by simp [refTo]
 | m + 1, hm => by
  rw [refTo, both8_iff (by rw [tI, yV]) (fun c hc => ?_) (by rw [yV]; omega) (by rw [yV]; omega), refTo_iff hd hp hlt hi hj m (by omega), colTo_get (by omega), colTo_get (by omega)]
  ·constructor
   ·rintro ⟨⟨h1, h2⟩, h3⟩
    refine ⟨h1, fun a ha => ?_⟩
    rcases Nat.lt_succ_iff_lt_or_eq.1 ha with ha | rfl
    ·exact h2 a ha
    ·exact h3
   ·rintro ⟨h1, h2⟩
    exact ⟨⟨h1, fun a ha => h2 a (by omega)⟩, h2 m (by omega)⟩
  ·rw [yV, hp]
   obtain ⟨q, hq, rfl⟩ := List.mem_map.1 hc
   exact getD_lt_of hlt hd.n1
theorem refTo_norm {d : DfaV} {p : List Nat} (hp : Norm p) : ∀ m, Norm (refTo d p m)
 | 0 => hp
 | m + 1 => numb_norm _
def cls (p : List Nat) : Nat := (yF p).length
theorem cls_mono {p q : List Nat} (hl : q.length = p.length) (h : ∀ i j, i < p.length → j < p.length → q.getD i 0 = q.getD j 0 → p.getD i 0 = p.getD j 0) :
  cls p ≤ cls q ∧ (cls p = cls q → ∀ i j, i < p.length → j < p.length → p.getD i 0 = p.getD j 0 → q.getD i 0 = q.getD j 0) := by
 -- the classes of q are mapped onto those of p
 let f : Nat → Nat := fun c => p.getD (q.idxOf c) 0
 have hf : ∀ i, i < p.length → f (q.getD i 0) = p.getD i 0 := by
  intro i hi
  have hi' : i < q.length := by omega
  have hm : q.getD i 0 ∈ q := by rw [zN hi']; exact List.getElem_mem _
  have hlt := List.idxOf_lt_length_of_mem hm
  refine h _ i (by omega) hi ?_
  rw [zN hlt, List.getElem_idxOf]
 have hsub : ∀ c ∈ yF p, c ∈ (yF q).map f := by
  intro c hc
  obtain ⟨i, hi, rfl⟩ := List.getElem_of_mem (xZ.1 hc)
  rw [List.mem_map]
  refine ⟨q.getD i 0, xZ.2 (by rw [zN (by omega)]; exact List.getElem_mem _), ?_⟩
  rw [hf i hi, zN hi]
 have hle : (yF p).length ≤ ((yF q).map f).length := (sM p).length_le_of_subset hsub
 rw [List.length_map] at hle
 refine ⟨hle, fun e i j hi hj hp => ?_⟩
 have hinj : ∀ x ∈ yF q, ∀ y ∈ yF q, f x = f y → x = y := by
  intro x hx y hy hxy
  apply Classical.byContradiction
  intro hne
  have hsub2 : ∀ c ∈ yF p, c ∈ ((yF q).erase x).map f := by
   intro c hc
   obtain ⟨z, hz, rfl⟩ := List.mem_map.1 (hsub c hc)
   by_cases e : z = x
   ·subst e
    exact List.mem_map.2 ⟨y, (List.mem_erase_of_ne (Ne.symm hne)).2 hy, hxy.symm⟩
   ·exact List.mem_map.2 ⟨z, (List.mem_erase_of_ne e).2 hz, rfl⟩
  have h1 := (sM p).length_le_of_subset hsub2
  rw [List.length_map, List.length_erase_of_mem hx] at h1
  have h2 := List.length_pos_of_mem hx
  unfold cls at e
  omega
 have mem : ∀ i, i < p.length → q.getD i 0 ∈ yF q := fun i hi => xZ.2 (by rw [zN (by omega)]; exact List.getElem_mem _)
 exact hinj _ (mem i hi) _ (mem j hj) (by rw [hf i hi, hf j hj, hp])
end Go.Proofs.YtdjhoadoiknaoaaDoor
