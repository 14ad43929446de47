/- Part 15 of the proof: Upto, Byte1. -/
import Derived.Test.YtgbfaggnnfoamaaZf14
set_option linter.unusedVariables false
set_option linter.unusedSimpArgs false
namespace Go.Proofs.Ytgbfaggnnfoamaa
open Go.RowKit
theorem yP (letters : Nat) (u : List Int) : (block letters u 0).length = letters := by simp [block]
theorem block_get {letters c : Nat} (u : List Int) (h : c < letters) : (block letters u 0)[c]'(by rw [yP]; exact h) = u ++ [97 + (c : Int)] := by simp [block]
theorem wR (letters : Nat) : ∀ n, upTo letters (n + 1) = [[]] ++ (upTo letters n).flatMap fun u => block letters u 0
 | 0 => by simp [upTo, lex]
 | n + 1 => by
  have ih := wR letters n
  rw [zM letters (n + 1), wS]
  conv => rhs; rw [zM letters n, List.flatMap_append, ← List.append_assoc, ← ih]
def grown (letters n i : Nat) : List (List Int) := [[]] ++ ((upTo letters n).take i).flatMap fun u => block letters u 0
theorem grown_all {letters n i : Nat} (h : (upTo letters n).length ≤ i) : grown letters n i = upTo letters (n + 1) := by
 rw [grown, List.take_of_length_le h, wR]
theorem wU {letters n i : Nat} (h : i < (upTo letters n).length) : grown letters n (i + 1) = grown letters n i ++ block letters (upTo letters n)[i] 0 := by
 rw [grown, List.take_succ_eq_append_getElem h, List.flatMap_append, ← List.append_assoc]; simp [grown]
theorem grown_pre (letters n i : Nat) : grown letters n i <+: upTo letters (n + 1) := by
 have e : upTo letters (n + 1) = grown letters n i ++ ((upTo letters n).drop i).flatMap fun u => block letters u 0 := by
  rw [wR, grown, List.append_assoc, ← List.flatMap_append, List.take_append_drop]
 rw [e]; exact List.prefix_append _ _
theorem grown_length {letters n : Nat} (h1 : 1 ≤ letters) : ∀ i, i ≤ (upTo letters n).length → i + 1 ≤ (grown letters n i).length
 | 0, _ => by simp [grown]
 | i + 1, h => by
  have := grown_length (n := n) h1 i (by omega)
  rw [wU (by omega), List.length_append, yP]; omega
theorem upTo_pre (letters n : Nat) : upTo letters n <+: upTo letters (n + 1) := by rw [zM]; exact List.prefix_append _ _
theorem pre_get {α : Type} {a b : List α} (h : a <+: b) {i : Nat} (hi : i < a.length) : a[i] = b[i]'(Nat.lt_of_lt_of_le hi h.length_le) := by
 obtain ⟨c, rfl⟩ := h
 rw [List.getElem_append_left]
theorem wM {letters n : Nat} {u : List Int} (h : u ∈ upTo letters n) : u.length < n := by
 simp only [upTo, List.mem_flatMap, List.mem_range] at h
 obtain ⟨m, hm, hu⟩ := h
 rw [(yU hu).1]; exact hm
theorem upTo_last {letters n i : Nat} (h : (upTo letters n).length ≤ i) (hi : i < (upTo letters (n + 1)).length) : ((upTo letters (n + 1))[i]).length = n := by
 have e : (upTo letters (n + 1))[i] = (lex letters n)[i - (upTo letters n).length]'(by rw [zM, List.length_append] at hi; omega) := by
  simp only [zM]
  rw [List.getElem_append_right h]
 rw [e]
 exact (yU (List.getElem_mem _)).1
theorem grown_step {letters n i x : Nat} (h : i < (upTo letters n).length) (hx : x < letters) : grown letters n i ++ (block letters (upTo letters n)[i] 0).take (x + 1) = (grown letters n i ++ (block letters (upTo letters n)[i] 0).take x) ++ [(upTo letters n)[i] ++ [97 + (x : Int)]] := by
 rw [List.take_succ_eq_append_getElem (by rw [yP]; exact hx), block_get _ hx, List.append_assoc]
theorem grown_part (letters n i x : Nat) (h : i < (upTo letters n).length) : grown letters n i ++ (block letters (upTo letters n)[i] 0).take x <+: upTo letters (n + 1) := by
 refine List.IsPrefix.trans ?_ (grown_pre letters n (i + 1))
 rw [wU h]
 exact List.prefix_append_right_inj _ |>.2 (List.take_prefix _ _)
theorem run_byte1 {P : Program} {W : World} {g : Nat} {c : Int} (src e : TypeId) (hs : P.underlying src = some (.slice e)) (he : P.underlying e = some (.int .u8)) (dst : TypeId) (hd : P.underlying dst = some .string)
  (h : W.cell? ⟨g, 0, none⟩ = some (.int .u8 c)) : (convert src dst (.slice (some ⟨g, 0, none⟩) 1 1)).run P W = .ok (.string (strOfNums [c])) W := by
 refine run_convert_bytes_arg W src e hs he g 0 1 1 [c] rfl (fun i hi => ?_) dst hd
 have : i = 0 := by simp at hi; omega
 subst this
 simpa using h
end Go.Proofs.Ytgbfaggnnfoamaa
