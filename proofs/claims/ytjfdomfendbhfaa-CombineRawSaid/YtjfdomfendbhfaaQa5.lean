/- Part 5 of the proof: DfaPlain. -/
import Derived.Test.YtjfdomfendbhfaaQa4
set_option linter.unusedVariables false
set_option linter.unusedSimpArgs false
namespace Go.Proofs.Ytjfdomfendbhfaa
structure DfaV where
 letters : Int
 start : Int
 final : List Bool
 next : List (List Int)
def rowD (letters : Int) (n : Nat) (r : List Int) : Bool := decide ((r.length : Int) = letters) && r.all fun x => decide (0 ≤ x ∧ x < n)
def xR (d : DfaV) : Int :=
 if d.letters < 1 ∨ 6 < d.letters then 1 else if 512 < d.final.length then 3
 else if d.final.length = 0 ∨ d.next.length ≠ d.final.length ∨ d.start < 0 ∨ d.final.length ≤ d.start then 4
 else if d.next.all (rowD d.letters d.final.length) then 0 else 4
structure VD (d : DfaV) (n k : Nat) : Prop where
 hk : d.letters = k
 k1 : 1 ≤ k
 k6 : k ≤ 6
 hn : d.final.length = n
 n1 : 1 ≤ n
 nbig : n ≤ 4194304
 nl : d.next.length = n
 s0 : 0 ≤ d.start
 sn : d.start < n
 row : ∀ q, q < n → (d.next.getD q []).length = k
 lo : ∀ q a, q < n → a < k → 0 ≤ ent d.next q a
 hi : ∀ q a, q < n → a < k → ent d.next q a < n
theorem rW {k : Int} {n : Nat} {r : List Int} : rowD k n r = true ↔ (r.length : Int) = k ∧ ∀ y, y < r.length → 0 ≤ r.getD y 0 ∧ r.getD y 0 < n := by
 simp only [rowD, Bool.and_eq_true, decide_eq_true_eq, List.all_eq_true]
 refine and_congr_right fun _ => ⟨fun h y hy => ?_, fun h x hx => ?_⟩
 ·have := h (r[y]) (List.getElem_mem hy)
  rwa [← zF (d := 0) hy] at this
 ·obtain ⟨y, hy, rfl⟩ := List.getElem_of_mem hx
  have := h y hy
  rwa [zF hy] at this
theorem vd_of {d : DfaV} (h : xR d = 0) : VD d d.final.length d.letters.toNat := by
 unfold xR at h
 split at h
 ·omega
 rename_i h1
 split at h
 ·omega
 rename_i h2
 split at h
 ·omega
 rename_i h3
 split at h
 ·rename_i h4
  rw [List.all_eq_true] at h4
  have hr : ∀ q, q < d.next.length → rowD d.letters d.final.length (d.next.getD q []) = true := fun q hq => by
   rw [zF hq]; exact h4 _ (List.getElem_mem hq)
  have hnl : d.next.length = d.final.length := by
   apply Classical.byContradiction; intro hh; exact h3 (.inr (.inl hh))
  refine ⟨by omega, by omega, by omega, rfl, by omega, by omega, hnl, by omega, by omega, fun q hq => ?_, fun q a hq ha => ?_, fun q a hq ha => ?_⟩
  ·have := (rW.1 (hr q (by omega))).1; omega
  ·obtain ⟨e, h⟩ := rW.1 (hr q (by omega))
   exact (h a (by omega)).1
  ·obtain ⟨e, h⟩ := rW.1 (hr q (by omega))
   exact (h a (by omega)).2
 ·omega
theorem mD {d : DfaV} {n k : Nat} (h : VD d n k) (h5 : n ≤ 512) : xR d = 0 := by
 unfold xR
 rw [if_neg (by have := h.hk; have := h.k1; have := h.k6; omega), if_neg (by have := h.hn; omega),
  if_neg (by have := h.hn; have := h.n1; have := h.nl; have := h.s0; have := h.sn; omega), if_pos]
 rw [List.all_eq_true]
 intro r hr
 obtain ⟨q, hq, rfl⟩ := List.getElem_of_mem hr
 have hq' : q < n := by have := h.nl; omega
 rw [rW]
 have hl := h.row q hq'
 rw [zF hq] at hl
 refine ⟨by rw [hl, h.hk], fun y hy => ?_⟩
 have h1 := h.lo q y hq' (by omega)
 have h2 := h.hi q y hq' (by omega)
 unfold ent at h1 h2
 rw [zF hq] at h1 h2
 rw [h.hn]
 exact ⟨h1, h2⟩
def nx (d : DfaV) (q a : Nat) : Nat := entN d.next q a
theorem nx_cast {d : DfaV} {n k : Nat} (h : VD d n k) {q a : Nat} (hq : q < n) (ha : a < k) : (nx d q a : Int) = ent d.next q a := Int.toNat_of_nonneg (h.lo q a hq ha)
theorem nO {d : DfaV} {n k : Nat} (h : VD d n k) {q a : Nat} (hq : q < n) (ha : a < k) : nx d q a < n := by
 have h1 := nx_cast h hq ha
 have h2 := h.hi q a hq ha
 omega
def st0 (d : DfaV) : Nat := d.start.toNat
theorem st0_cast {d : DfaV} {n k : Nat} (h : VD d n k) : (st0 d : Int) = d.start := Int.toNat_of_nonneg h.s0
theorem qI {d : DfaV} {n k : Nat} (h : VD d n k) : st0 d < n := by have := st0_cast h; have := h.sn; omega
def finB (b : Bool) : Int := if b then 1 else 0
def nN (d : DfaV) : List Nat := numb (d.final.map finB)
def colTo (d : DfaV) (p : List Nat) (a : Nat) : List Nat := (List.range p.length).map fun q => p.getD (nx d q a) 0
def pairNo (m : Nat) (a b : Nat) : Int := (a : Int) * (m + 1) + b
def bothL (p q : List Nat) : List Int := List.zipWith (pairNo p.length) p q
def both8 (p q : List Nat) : List Nat := numb (bothL p q)
def tC (d : DfaV) (p : List Nat) : Nat → List Nat
 | 0 => p
 | k + 1 => both8 (tC d p k) (colTo d p k)
theorem oZ (d : DfaV) : (nN d).length = d.final.length := by simp [nN, yI]
theorem rR (d : DfaV) (p : List Nat) (a : Nat) : (colTo d p a).length = p.length := by simp [colTo]
theorem rS {p q : List Nat} (h : q.length = p.length) : (bothL p q).length = p.length := by simp [bothL, h]
theorem both8_length {p q : List Nat} (h : q.length = p.length) : (both8 p q).length = p.length := by rw [both8, yI, rS h]
theorem yU (d : DfaV) (p : List Nat) : ∀ k, (tC d p k).length = p.length
 | 0 => rfl
 | k + 1 => by rw [tC, both8_length (by rw [rR, yU d p k]), yU d p k]
theorem lH {p : List Nat} (h : Norm p) : ∀ c ∈ p, c < p.length := by
 intro c hc
 have h1 := numb_lt (l := p)
 rw [h] at h1
 have := h1 c hc
 have := uC p
 omega
theorem pairNo_inj {m a b a' b' : Nat} (hb : b ≤ m) (hb' : b' ≤ m) : pairNo m a b = pairNo m a' b' ↔ a = a' ∧ b = b' := by
 unfold pairNo
 constructor
 ·intro h
  have h' : a * (m + 1) + b = a' * (m + 1) + b' := by exact_mod_cast h
  have e1 : (a * (m + 1) + b) / (m + 1) = a := by rw [Nat.mul_comm, Nat.mul_add_div (by omega), Nat.div_eq_of_lt (by omega)]; omega
  have e2 : (a' * (m + 1) + b') / (m + 1) = a' := by rw [Nat.mul_comm, Nat.mul_add_div (by omega), Nat.div_eq_of_lt (by omega)]; omega
  have ha : a = a' := by rw [← e1, ← e2, h']
  subst ha
  exact ⟨rfl, by omega⟩
 ·rintro ⟨rfl, rfl⟩; rfl
theorem both8_iff {p q : List Nat} (h : q.length = p.length) (hq : ∀ c ∈ q, c < p.length) {i j : Nat} (hi : i < p.length) (hj : j < p.length) :
  (both8 p q).getD i 0 = (both8 p q).getD j 0 ↔ p.getD i 0 = p.getD j 0 ∧ q.getD i 0 = q.getD j 0 := by
 have hi' : i < (bothL p q).length := by rw [rS h]; exact hi
 have hj' : j < (bothL p q).length := by rw [rS h]; exact hj
 rw [both8, sQ hi' hj']
 simp only [bothL, List.getElem_zipWith]
 rw [pairNo_inj (Nat.le_of_lt (hq _ (List.getElem_mem _))) (Nat.le_of_lt (hq _ (List.getElem_mem _))), zF hi, zF hj, zF (show i < q.length by omega), zF (show j < q.length by omega)]
theorem colTo_get {d : DfaV} {p : List Nat} {a i : Nat} (hi : i < p.length) : (colTo d p a).getD i 0 = p.getD (nx d i a) 0 := by
 rw [zF (by rw [rR]; exact hi)]; simp [colTo]
theorem oM {p : List Nat} {n i : Nat} (h : ∀ c ∈ p, c < n) (hn : 0 < n) : p.getD i 0 < n := by
 by_cases hi : i < p.length
 ·rw [zF hi]; exact h _ (List.getElem_mem hi)
 ·rw [List.getD, List.getElem?_eq_none (by omega)]; exact hn
theorem uS {d : DfaV} {n k : Nat} (hd : VD d n k) {p : List Nat} (hp : p.length = n) (hlt : ∀ c ∈ p, c < n) {i j : Nat} (hi : i < n) (hj : j < n) :
  ∀ m, m ≤ k → ((tC d p m).getD i 0 = (tC d p m).getD j 0 ↔ p.getD i 0 = p.getD j 0 ∧ ∀ a, a < m → p.getD (nx d i a) 0 = p.getD (nx d j a) 0)
 | 0, _ => by simp [tC]
 | m + 1, hm => by
  rw [tC, both8_iff (by rw [rR, yU]) (fun c hc => ?_) (by rw [yU]; omega) (by rw [yU]; omega), uS hd hp hlt hi hj m (by omega), colTo_get (by omega), colTo_get (by omega)]
  ·constructor
   ·rintro ⟨⟨h1, h2⟩, h3⟩
    refine ⟨h1, fun a ha => ?_⟩
    rcases Nat.lt_succ_iff_lt_or_eq.1 ha with ha | rfl
    ·exact h2 a ha
    ·exact h3
   ·rintro ⟨h1, h2⟩
    exact ⟨⟨h1, fun a ha => h2 a (by omega)⟩, h2 m (by omega)⟩
  ·rw [yU, hp]
   obtain ⟨q, hq, rfl⟩ := List.mem_map.1 hc
   exact oM hlt hd.n1
theorem oH {d : DfaV} {p : List Nat} (hp : Norm p) : ∀ m, Norm (tC d p m)
 | 0 => hp
 | m + 1 => lG _
def cls (p : List Nat) : Nat := (zY p).length
theorem cls_mono {p q : List Nat} (hl : q.length = p.length) (h : ∀ i j, i < p.length → j < p.length → q.getD i 0 = q.getD j 0 → p.getD i 0 = p.getD j 0) :
  cls p ≤ cls q ∧ (cls p = cls q → ∀ i j, i < p.length → j < p.length → p.getD i 0 = p.getD j 0 → q.getD i 0 = q.getD j 0) := by
 -- the classes of q are mapped onto those of p
 let f : Nat → Nat := fun c => p.getD (q.idxOf c) 0
 have hf : ∀ i, i < p.length → f (q.getD i 0) = p.getD i 0 := by
  intro i hi
  have hi' : i < q.length := by omega
  have hm : q.getD i 0 ∈ q := by rw [zF hi']; exact List.getElem_mem _
  have hlt := List.idxOf_lt_length_of_mem hm
  refine h _ i (by omega) hi ?_
  rw [zF hlt, List.getElem_idxOf]
 have hsub : ∀ c ∈ zY p, c ∈ (zY q).map f := by
  intro c hc
  obtain ⟨i, hi, rfl⟩ := List.getElem_of_mem (xD.1 hc)
  rw [List.mem_map]
  refine ⟨q.getD i 0, xD.2 (by rw [zF (by omega)]; exact List.getElem_mem _), ?_⟩
  rw [hf i hi, zF hi]
 have hle : (zY p).length ≤ ((zY q).map f).length := (vY p).length_le_of_subset hsub
 rw [List.length_map] at hle
 refine ⟨hle, fun e i j hi hj hp => ?_⟩
 have hinj : ∀ x ∈ zY q, ∀ y ∈ zY q, f x = f y → x = y := by
  intro x hx y hy hxy
  apply Classical.byContradiction
  intro hne
  have hsub2 : ∀ c ∈ zY p, c ∈ ((zY q).erase x).map f := by
   intro c hc
   obtain ⟨z, hz, rfl⟩ := List.mem_map.1 (hsub c hc)
   by_cases e : z = x
   ·subst e
    exact List.mem_map.2 ⟨y, (List.mem_erase_of_ne (Ne.symm hne)).2 hy, hxy.symm⟩
   ·exact List.mem_map.2 ⟨z, (List.mem_erase_of_ne e).2 hz, rfl⟩
  have h1 := (vY p).length_le_of_subset hsub2
  rw [List.length_map, List.length_erase_of_mem hx] at h1
  have h2 := List.length_pos_of_mem hx
  unfold cls at e
  omega
 have mem : ∀ i, i < p.length → q.getD i 0 ∈ zY q := fun i hi => xD.2 (by rw [zF (by omega)]; exact List.getElem_mem _)
 exact hinj _ (mem i hi) _ (mem j hj) (by rw [hf i hi, hf j hj, hp])
end Go.Proofs.Ytjfdomfendbhfaa
