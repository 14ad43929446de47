/- pattern.next: the next word of the same length, in place. -/
import Derived.Test.YtgbfaggnnfoamaaMadeWord
namespace Go.Proofs.Ytgbfaggnnfoamaa
open Go.RowKit

/-- The loop of next: the first i digits are still to be looked at. -/
def nextAt (letters : Int) : Nat → List Int → List Int × Bool
  | 0, l => (l, false)
  | i + 1, l => if l.getD i 0 - 97 < letters - 1 then (l.set i (l.getD i 0 + 1), true) else nextAt letters i (l.set i 97)

theorem nextAt_ok (letters : Int) (h1 : 1 ≤ letters) : ∀ (i : Nat) (l : List Int), (∀ n ∈ l, okNum letters n) → ∀ n ∈ (nextAt letters i l).1, okNum letters n := by
  intro i
  induction i with
  | zero => intro l h; exact h
  | succ i ih =>
    intro l h
    unfold nextAt
    split
    · intro n hn
      by_cases hi : i < l.length
      · rcases List.mem_or_eq_of_mem_set hn with hn | hn
        · exact h n hn
        · subst hn
          have h2 := h _ (List.getElem_mem hi)
          have h3 : l.getD i 0 = l[i] := by simp [List.getD, hi]
          unfold okNum at h2 ⊢; omega
      · rw [List.set_eq_of_length_le (by omega)] at hn; exact h n hn
    · refine ih _ ?_
      intro n hn
      rcases List.mem_or_eq_of_mem_set hn with hn | hn
      · exact h n hn
      · subst hn; unfold okNum; omega
theorem nextAt_length (letters : Int) : ∀ (i : Nat) (l : List Int), (nextAt letters i l).1.length = l.length := by
  intro i
  induction i with
  | zero => intro l; rfl
  | succ i ih =>
    intro l
    unfold nextAt
    split
    · simp
    · rw [ih]; simp

theorem nextAt_stop {letters : Int} {j : Nat} {c : List Int} (hj : j < c.length) (h : c[j] - 97 < letters - 1) : nextAt letters (j + 1) c = (c.set j (c[j] + 1), true) := by
  have h3 : c.getD j 0 = c[j] := by simp [List.getD, hj]
  unfold nextAt; rw [h3, if_pos h]
theorem nextAt_go {letters : Int} {j : Nat} {c : List Int} (hj : j < c.length) (h : ¬ c[j] - 97 < letters - 1) : nextAt letters (j + 1) c = nextAt letters j (c.set j 97) := by
  have h3 : c.getD j 0 = c[j] := by simp [List.getD, hj]
  rw [nextAt, h3, if_neg h]
set_option maxRecDepth 100000 in
set_option maxHeartbeats 400000 in
theorem next_word (g cap : Nat) (l : List Int) (letters : Int) (w : World) (h1 : 1 ≤ letters) (h6 : letters ≤ 6) (hok : ∀ n ∈ l, okNum letters n) (hlen : l.length ≤ 1000)
    (hown : Arr w g 5 (l.map (Value.int .u8))) :
    Calls Try.prog 66 #[.slice (some ⟨g, 0, none⟩) l.length cap, .int .i64 letters] w fun e w' =>
      e = .returned (.bool (nextAt letters l.length l).2) ∧ Arr w' g 5 ((nextAt letters l.length l).1.map (Value.int .u8)) ∧ w.grownBy w' (some g) := by
  go_enter Try.func66, Try.ntmps66
  go_wp2
  go_loopw [5] (fun i wr => ∃ (c : List Int) (k : Nat), i = .int .i64 ((k : Int) - 1) ∧ k ≤ l.length ∧ c.length = l.length ∧ (∀ n ∈ c, okNum letters n) ∧ nextAt letters k c = nextAt letters l.length l ∧
      Arr wr g 5 (c.map (Value.int .u8)) ∧ w.grownBy wr (some g))
    (fun i _ => (intOf i + 1).toNat)
  case atStart => exact ⟨l, l.length, rfl, Nat.le_refl _, rfl, hok, rfl, hown, grownBy_refl _ _⟩
  case round =>
    clear hown
    obtain ⟨c, k, rfl, hk, hcl, hco, hn, hown, hg⟩ := hrel
    have CL := Lib.hid hcl; have NX := Lib.hid hn; clear hcl hn
    by_cases hp : 0 < k
    · obtain ⟨j, rfl⟩ : ∃ j, k = j + 1 := ⟨k - 1, by omega⟩
      have hj : j < c.length := by rw [CL.out]; omega
      have hc := hown.cell j (by simpa using hj)
      have hf := hown.frozen j
      rw [List.getElem_map] at hc
      have hm := hco _ (List.getElem_mem hj)
      have hm1 := hm.1
      have hm2 := hm.2
      have hst := hown.set j (by simpa using hj) (.int .u8 (c[j] + 1))
      have hst' := hown.set j (by simpa using hj) (.int .u8 97)
      have e1 : ((j + 1 : Nat) : Int) - 1 = j := by omega
      rw [e1]
      have OW := Lib.hid hown; have S1 := Lib.hid hst; have S2 := Lib.hid hst'; clear hown hst hst' e1 hm
      by_cases hlt : c[j] - 97 < letters - 1
      · go_wp2
        go_ret
        rw [← NX.out, nextAt_stop hj (by omega)]
        exact ⟨rfl, by rw [List.map_set]; exact S1.out, grownBy_trans' hg (grownBy_setCell _ _ _)⟩
      · go_wp2
        go_roundw
        case rel =>
          refine ⟨c.set j 97, j, rfl, by omega, by simp [CL.out], ?_, by rw [← NX.out, nextAt_go hj (by omega)], by rw [List.map_set]; exact S2.out, grownBy_trans' hg (grownBy_setCell _ _ _)⟩
          intro n hn
          rcases List.mem_or_eq_of_mem_set hn with hn | hn
          · exact hco n hn
          · subst hn; unfold okNum; omega
        case measure => simp [intOf]
    · obtain rfl : k = 0 := by omega
      go_wp2
      go_ret
      rw [← NX.out]
      exact ⟨rfl, hown, hg⟩
end Go.Proofs.Ytgbfaggnnfoamaa
