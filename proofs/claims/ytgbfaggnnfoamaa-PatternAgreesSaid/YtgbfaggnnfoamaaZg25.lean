/- Part 25 of the proof: PatMap. -/
import Derived.Test.YtgbfaggnnfoamaaZg24
set_option linter.unusedVariables false
set_option linter.unusedSimpArgs false
namespace Go.Proofs.Ytgbfaggnnfoamaa
open Go.RowKit
def midN (k : Nat) : Nat → List (List Nat) → List (List Nat)
 | _, [] => []
 | c, u :: us => yN k c u u.length ++ midN k (c + u.length) us
theorem wG (u : List Nat) (us : List (List Nat)) : zR (u :: us) = u.length + zR us := by simp [zR]
theorem lenSum_append (us vs : List (List Nat)) : zR (us ++ vs) = zR us + zR vs := by simp [zR]
theorem uF (k : Nat) : ∀ (us : List (List Nat)) (c : Nat), (midN k c us).length = zR us
 | [], c => rfl
 | u :: us, c => by rw [midN, List.length_append, yU, uF k us, wG]
theorem oX (k : Nat) (u : List Nat) : ∀ (us : List (List Nat)) (c : Nat), midN k c (us ++ [u]) = midN k c us ++ yN k (c + zR us) u u.length
 | [], c => by simp [midN, zR]
 | v :: us, c => by
  rw [List.cons_append, midN, midN, oX k u us, wG, List.append_assoc, Nat.add_assoc]
theorem kmpRow_map (k c : Nat) (u : List Nat) (j : Nat) : zl (kmpN k c u j) = pI k c u j := by simp [zl, kmpN, pI]
theorem tS (k c : Nat) (u : List Nat) (m : Nat) : (yN k c u m).map zl = yC k c u m := by
 simp only [yN, yC, List.map_map]
 exact List.map_congr_left fun j _ => kmpRow_map k c u j
theorem nX (k : Nat) (v : List Nat) : ∀ (us : List (List Nat)) (c : Nat), (midN k c us ++ sufN k (c + zR us) v).map zl = yG k c (us ++ [v])
 | [], c => by
  show (sufN k (c + 0) v).map zl = _
  rw [sufN, tS]; rfl
 | u :: us, c => by
  have := nX k v us (c + u.length)
  rw [List.map_append] at this
  rw [midN, List.append_assoc, List.map_append, tS, wG, ← Nat.add_assoc, List.map_append, this]
  cases us with
  | nil => rfl
  | cons w us => rfl
theorem qE (k : Nat) (b : List Nat) (m : Nat) : (vK k b m).map zl = xV k b m := by
 simp only [vK, xV, List.map_map]
 refine List.map_congr_left fun j _ => ?_
 simp [preN, oU, zl]
def yI (k : Nat) (bs : List (List Nat)) : List (List Nat) := match bs with
 | [] => []
 | [b] => [List.replicate k 0] ++ vK k b b.length ++ [List.replicate k 0]
 | b :: us => [List.replicate k 0] ++ vK k b b.length ++ midN k (1 + b.length) us.dropLast ++ sufN k (1 + b.length + zR us.dropLast) (us.getLastD [])
theorem mW (k : Nat) : zl (List.replicate k 0) = List.replicate k 0 := by simp [zl]
theorem nL (k : Nat) : ∀ (bs : List (List Nat)), (yI k bs).map zl = xX k bs
 | [] => rfl
 | [b] => by
  simp only [yI, xX, yG, List.map_append, qE, List.map_cons, List.map_nil, mW]
  simp
 | b :: c :: us => by
  have h : (c :: us) = (c :: us).dropLast ++ [(c :: us).getLastD []] := by
   rw [List.getLastD_eq_getLast?, List.getLast?_eq_some_getLast (List.cons_ne_nil c us)]
   exact (List.dropLast_concat_getLast (List.cons_ne_nil c us)).symm
  have ht := nX k ((c :: us).getLastD []) (c :: us).dropLast (1 + b.length)
  rw [← h] at ht
  simp only [yI, xX, List.append_assoc]
  rw [List.map_append, List.map_append, ht, qE]
  simp [mW]
theorem uV (k : Nat) (b : List Nat) (us : List (List Nat)) : (yI k (b :: us)).length = 2 + b.length + zR us := by
 have := congrArg List.length (nL k (b :: us))
 rwa [List.length_map, vO] at this
theorem wI (bs : List ByteArray) : wB bs = zR (bs.map zD) := by
 simp only [wB, zR, List.map_map]
 congr 1
 exact List.map_congr_left fun s _ => (zT s).symm
theorem vQ (us : List (List Nat)) (i : Nat) : zR (us.take i) ≤ zR us := by
 have h : us.take i ++ us.drop i = us := List.take_append_drop i us
 have := lenSum_append (us.take i) (us.drop i)
 rw [h] at this
 omega
theorem vW {n : Nat} {letters : Int} : ∀ {bs : List ByteArray} {i : Nat}, yP n letters i bs = true → ∀ j (h : j < bs.length), xF n letters (i + j) bs[j] = true
 | [], _, _, j, h => by simp at h
 | u :: us, i, h, j, hj => by
  rw [yP, Bool.and_eq_true] at h
  cases j with
  | zero => exact h.1
  | succ j =>
   have := vW h.2 j (by simpa using hj)
   rw [show i + (j + 1) = i + 1 + j by omega]
   simpa using this
theorem rH {n i : Nat} {letters : Int} {u : ByteArray} (h : xF n letters i u = true) : zM u letters = true ∧ (0 < i → i + 1 < n → 0 < u.size) := by
 rw [xF, Bool.and_eq_true, Bool.not_eq_true', Bool.and_eq_false_iff] at h
 refine ⟨h.1, fun h0 h1 => ?_⟩
 rcases h.2 with h2 | h2
 ·rw [decide_eq_false_iff_not] at h2; exact absurd ⟨h0, h1⟩ h2
 ·rw [ByteArray.toList_eq, List.isEmpty_eq_false_iff] at h2
  have := List.length_pos_iff.2 h2
  rwa [Array.length_toList] at this
theorem mT {bs : List ByteArray} {letters : Int} (h : zN bs letters = 0) : 1 ≤ letters ∧ letters ≤ 6 ∧ 0 < bs.length ∧ bs.length ≤ 8 ∧ wB bs ≤ 64 ∧ (∀ i (hi : i < bs.length), zM bs[i] letters = true) ∧ ∀ i (hi : i < bs.length), 0 < i → i + 1 < bs.length → 0 < bs[i].size := by
 obtain ⟨h1, h2, h3, h4, h5, h6⟩ := xD h
 refine ⟨h1, h2, h5, h3, h4, fun i hi => ?_, fun i hi h0 h1' => ?_⟩
 ·have := vW h6 i hi
  exact (rH this).1
 ·have := vW h6 i hi
  rw [Nat.zero_add] at this
  exact (rH this).2 h0 h1'
theorem uW {k : Nat} {bs : List ByteArray} (h0 : 0 < bs.length) (ht : wB bs ≤ 64) : 2 ≤ (yI k (bs.map zD)).length ∧ (yI k (bs.map zD)).length ≤ 66 := by
 match bs, h0 with
 | b :: rest, _ =>
  rw [wI, List.map_cons, wG] at ht
  rw [List.map_cons, uV]
  omega
theorem oK {bs : List ByteArray} {i : Nat} (hi : i < bs.length) : bs[i].size ≤ wB bs := by
 have h := tE bs i hi
 have h2 : wB (bs.take (i + 1)) ≤ wB bs := by
  rw [wI, wI, List.map_take]
  exact vQ _ _
 omega
end Go.Proofs.Ytgbfaggnnfoamaa
