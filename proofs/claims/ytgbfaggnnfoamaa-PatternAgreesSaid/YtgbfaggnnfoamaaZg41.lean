/- Part 41 of the proof: Lex. -/
import Derived.Test.YtgbfaggnnfoamaaZg40
set_option linter.unusedVariables false
set_option linter.unusedSimpArgs false
namespace Go.Proofs.Ytgbfaggnnfoamaa
open Go.RowKit
def lex (letters : Nat) : Nat → List (List Int)
 | 0 => [[]]
 | n + 1 => (lex letters n).flatMap fun w => (List.range letters).map fun (c : Nat) => w ++ [97 + (c : Int)]
def sO (letters : Nat) (l : List Int) : List Int × Bool := wJ letters l.length l
def Run (letters : Nat) : List (List Int) → Prop
 | [] => False
 | [w] => (sO letters w).2 = false
 | w :: v :: r => sO letters w = (v, true) ∧ Run letters (v :: r)
theorem lC {letters : Nat} : ∀ {L : List (List Int)} (_ : Run letters L) (i : Nat) (hi : i < L.length), (sO letters L[i]).2 = decide (i + 1 < L.length) ∧ ∀ h : i + 1 < L.length, (sO letters L[i]).1 = L[i + 1]
 | [w], h, 0, _ => by
  have h' : (sO letters w).2 = false := h
  exact ⟨by simpa using h', by simp⟩
 | w :: v :: r, h, 0, _ => ⟨by simp [h.1], fun _ => by simp [h.1]⟩
 | w :: v :: r, h, i + 1, hi => by
  have := lC h.2 i (by simpa using hi)
  simpa using this
theorem nextAt_front (letters : Int) (c : Int) : ∀ (i : Nat) (w : List Int), i ≤ w.length → wJ letters i (w ++ [c]) = ((wJ letters i w).1 ++ [c], (wJ letters i w).2) := by
 intro i
 induction i with
 | zero => intro w _; rfl
 | succ i ih =>
  intro w hi
  have h1 : (w ++ [c]).getD i 0 = w.getD i 0 := by simp [List.getD, List.getElem?_append_left (show i < w.length by omega)]
  unfold wJ
  rw [h1, List.set_append_left _ _ (by omega), List.set_append_left _ _ (by omega)]
  split
  ·rfl
  ·exact ih _ (by simpa using (show i ≤ w.length by omega))
theorem pG (letters : Nat) (w : List Int) (c : Nat) (hc : c < letters) : sO letters (w ++ [97 + (c : Int)]) = if c + 1 < letters then (w ++ [97 + ((c + 1 : Nat) : Int)], true) else ((sO letters w).1 ++ [97], (sO letters w).2) := by
 unfold sO
 rw [List.length_append, List.length_singleton]
 have h1 : (w ++ [97 + (c : Int)]).getD w.length 0 = 97 + (c : Int) := by simp [List.getD]
 rw [wJ, h1]
 by_cases h : c + 1 < letters
 ·rw [if_pos (by omega), if_pos h]
  simp; omega
 ·rw [if_neg (by omega), if_neg h, List.set_append_right _ _ (Nat.le_refl _)]
  simp only [Nat.sub_self, List.set_cons_zero]
  exact nextAt_front _ _ _ _ (Nat.le_refl _)
def block (letters : Nat) (w : List Int) (c : Nat) : List (List Int) := (List.range' c (letters - c)).map fun (c : Nat) => w ++ [97 + (c : Int)]
theorem tN {letters c : Nat} (w : List Int) (h : c < letters) : block letters w c = (w ++ [97 + (c : Int)]) :: block letters w (c + 1) := by
 unfold block
 rw [show letters - c = (letters - (c + 1)) + 1 by omega, List.range'_succ]
 rfl
theorem block_nil {letters c : Nat} (w : List Int) (h : letters ≤ c) : block letters w c = [] := by
 unfold block
 rw [show letters - c = 0 by omega]; rfl
theorem oC (letters n : Nat) : lex letters (n + 1) = (lex letters n).flatMap fun w => block letters w 0 := by
 simp [lex, block, List.range_eq_range']
theorem oS {letters : Nat} (w : List Int) (rest : List (List Int)) (hend : (rest = [] ∧ (sO letters w).2 = false) ∨ ∃ v r, rest = (v ++ [97]) :: r ∧ sO letters w = (v, true) ∧ Run letters rest) :
  ∀ (d c : Nat), letters = c + d → 0 < d → Run letters (block letters w c ++ rest) := by
 intro d
 induction d with
 | zero => intro c _ h; omega
 | succ d ih =>
  intro c hc _
  rw [tN w (by omega)]
  by_cases hd : d = 0
  ·subst hd
   rw [block_nil w (by omega), List.cons_append, List.nil_append]
   have hs := pG letters w c (by omega)
   rw [if_neg (by omega)] at hs
   rcases hend with ⟨rfl, h⟩ | ⟨v, r, rfl, h, hr⟩
   ·show (sO letters _).2 = false
    rw [hs]; exact h
   ·refine ⟨?_, hr⟩
    rw [hs, h]
  ·have hi := ih (c + 1) (by omega) (by omega)
   rw [tN w (by omega)] at hi ⊢
   refine ⟨?_, hi⟩
   rw [pG letters w c (by omega), if_pos (by omega)]
theorem mB {letters : Nat} (h1 : 0 < letters) : ∀ {L : List (List Int)}, Run letters L → Run letters (L.flatMap fun w => block letters w 0)
 | [w], h => by
  have := oS w [] (.inl ⟨rfl, h⟩) letters 0 (by omega) h1
  simpa using this
 | w :: v :: r, h => by
  have hr := mB h1 h.2
  rw [List.flatMap_cons]
  refine oS w _ (.inr ⟨v, block letters v 1 ++ r.flatMap fun w => block letters w 0, ?_, h.1, hr⟩) letters 0 (by omega) h1
  rw [List.flatMap_cons, tN v h1]
  simp
theorem lB {letters : Nat} (h1 : 0 < letters) : ∀ n, Run letters (lex letters n)
 | 0 => rfl
 | n + 1 => by rw [oC]; exact mB h1 (lB h1 n)
theorem nP {letters : Nat} : ∀ {n : Nat} {w : List Int}, w ∈ lex letters n → w.length = n ∧ ∀ x ∈ w, tP letters x
 | 0, w, h => by simp [lex] at h; subst h; simp
 | n + 1, w, h => by
  simp only [lex, List.mem_flatMap, List.mem_map, List.mem_range] at h
  obtain ⟨v, hv, c, hc, rfl⟩ := h
  obtain ⟨h1, h2⟩ := nP hv
  refine ⟨by simp [h1], fun x hx => ?_⟩
  rcases List.mem_append.1 hx with hx | hx
  ·exact h2 x hx
  ·simp at hx; subst hx; unfold tP; omega
theorem vY (letters : Nat) : ∀ n, (lex letters n).length = letters ^ n
 | 0 => rfl
 | n + 1 => by
  rw [oC, List.length_flatMap]
  have : (lex letters n).map (fun w => (block letters w 0).length) = List.replicate (letters ^ n) letters := by
   rw [← vY letters n, ← List.map_const']
   refine List.map_congr_left fun w _ => ?_
   simp [block]
  rw [this, List.sum_replicate_nat, Nat.pow_succ]
theorem mJ {letters : Nat} (h1 : 0 < letters) : ∀ n, ∃ r, lex letters n = List.replicate n 97 :: r
 | 0 => ⟨[], rfl⟩
 | n + 1 => by
  obtain ⟨r, hr⟩ := mJ h1 n
  rw [oC, hr, List.flatMap_cons, tN _ h1]
  refine ⟨block letters (List.replicate n 97) (0 + 1) ++ List.flatMap (fun w => block letters w 0) r, ?_⟩
  rw [List.cons_append, List.replicate_succ']
  simp
end Go.Proofs.Ytgbfaggnnfoamaa
