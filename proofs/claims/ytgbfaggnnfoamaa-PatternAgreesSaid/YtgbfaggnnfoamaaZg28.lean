/- Part 28 of the proof: ExplP. -/
import Derived.Test.YtgbfaggnnfoamaaZg27
set_option linter.unusedVariables false
set_option linter.unusedSimpArgs false
namespace Go.Proofs.Ytgbfaggnnfoamaa
def tB (d : DfaV) (k q x : Nat) : List Nat := (List.range x).map (fun a => (zL d k).idxOf (nx d q a)) ++ List.replicate (k - x) 0
theorem tA {d : DfaV} {k q x : Nat} (h : x ≤ k) : (tB d k q x).length = k := by simp [tB]; omega
theorem exRow_set {d : DfaV} {k q x : Nat} (h : x < k) : (tB d k q x).set x ((zL d k).idxOf (nx d q x)) = tB d k q (x + 1) := by
 unfold tB
 rw [List.set_append_right _ _ (by simp), List.range_succ, List.map_append, show k - x = (k - (x + 1)) + 1 by omega, List.replicate_succ]
 simp
theorem exRow_zero (d : DfaV) (k q : Nat) : tB d k q 0 = List.replicate k 0 := by simp [tB]
theorem exRow_full {d : DfaV} {n k q : Nat} (hd : VD d n k) (hA : ∀ a, a < k → nx d q a ∈ zL d k) (hq : q < n) : zl (tB d k q k) = vA (zL d k) (d.next.getD q []) := by
 have hr := hd.row q hq
 refine List.ext_getElem (by rw [lT, tA (Nat.le_refl k), vA, List.length_map, hr]) fun a h1 h2 => ?_
 have ha : a < k := by simpa [zl, tB] using h1
 have e2 : (vA (zL d k) (d.next.getD q []))[a] = uC (zL d k) ((d.next.getD q [])[a]'(by rw [hr]; exact ha)).toNat := by simp [vA]
 rw [e2]
 have e3 : ((d.next.getD q [])[a]'(by rw [hr]; exact ha)).toNat = nx d q a := by
  show _ = (ent d.next q a).toNat
  unfold ent
  rw [zG (show a < (d.next.getD q []).length by rw [hr]; exact ha)]
 rw [e3, uC, if_pos (hA a ha)]
 simp [zl, tB]
structure ExL (d : DfaV) (n k i : Nat) (l : List Nat) : Prop where
 acc : AccI d n k i l
 go : vS d k (n - i) i l = zL d k
theorem ExL.start {d : DfaV} {n k : Nat} (hd : VD d n k) : ExL d n k 0 [st0 d] := ⟨AccI.start hd, by rw [zL, hd.hn]; rfl⟩
theorem ExL.le {d : DfaV} {n k i : Nat} {l : List Nat} (h : ExL d n k i l) : l.length ≤ n := rU h.acc.nd h.acc.lt
theorem ExL.next {d : DfaV} {n k i : Nat} {l : List Nat} (hd : VD d n k) (h : ExL d n k i l) (hi : i < l.length) : ExL d n k (i + 1) (xG d l i k) := by
 refine ⟨h.acc.row hd hi, ?_⟩
 have := h.le
 have e : n - i = (n - (i + 1)) + 1 := by omega
 have g := h.go
 rw [e, vS, if_pos hi] at g
 exact g
theorem ExL.done {d : DfaV} {n k i : Nat} {l : List Nat} (h : ExL d n k i l) (hi : ¬ i < l.length) : l = zL d k := by
 have g := h.go
 rw [nK hi] at g
 exact g
theorem rO (d : DfaV) (k : Nat) : ∀ f i l, l <+: vS d k f i l
 | 0, _, l => List.prefix_refl l
 | f + 1, i, l => by
  rw [vS]
  split
  ·exact (xZ d l i k).trans (rO d k f (i + 1) _)
  ·exact List.prefix_refl l
theorem sE (d : DfaV) (l : List Nat) (i : Nat) : ∀ {a b}, a ≤ b → xG d l i a <+: xG d l i b
 | a, 0, h => by rw [show a = 0 by omega]; exact List.prefix_refl _
 | a, b + 1, h => by
  by_cases e : a = b + 1
  ·rw [e]; exact List.prefix_refl _
  ·exact (sE d l i (by omega)).trans (uM _ _)
theorem ExL.pre {d : DfaV} {n k i : Nat} {l : List Nat} (hd : VD d n k) (h : ExL d n k i l) (hi : i < l.length) {x : Nat} (hx : x ≤ k) : xG d l i x <+: zL d k := by
 have h2 := (h.next hd hi).go
 exact (sE d l i hx).trans (h2 ▸ rO d k _ _ _)
theorem ExL.idx {d : DfaV} {n k i : Nat} {l : List Nat} (hd : VD d n k) (h : ExL d n k i l) (hi : i < l.length) {x : Nat} (hx : x < k) : (xG d l i (x + 1)).idxOf (nx d (l.getD i 0) x) = (zL d k).idxOf (nx d (l.getD i 0) x) :=
 (rJ (h.pre hd hi (show x + 1 ≤ k by omega)) (wE.2 (.inr ⟨x, by omega, rfl⟩))).symm
theorem ExL.done_mem {d : DfaV} {n k i : Nat} {l : List Nat} (hd : VD d n k) (h : ExL d n k i l) (hi : i < l.length) {a : Nat} (ha : a < k) : nx d (l.getD i 0) a ∈ zL d k :=
 (h.pre hd hi (show a + 1 ≤ k by omega)).subset (wE.2 (.inr ⟨a, by omega, rfl⟩))
theorem ExL.rowLen {d : DfaV} {n k i : Nat} {l : List Nat} (hd : VD d n k) (h : ExL d n k i l) (hi : i < l.length) {x : Nat} (hx : x ≤ k) : (xG d l i x).length ≤ n := by
 have h1 := (sE d l i hx).length_le
 have h2 := (h.next hd hi).le
 omega
theorem uS {l m : List Nat} (h : l <+: m) {i : Nat} (hi : i ≤ l.length) : m.take i = l.take i := by
 obtain ⟨r, rfl⟩ := h
 rw [List.take_append_of_le_length hi]
end Go.Proofs.Ytgbfaggnnfoamaa
