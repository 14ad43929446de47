/- Part 34 of the proof: Pat. -/
import Derived.Test.YtgbfaggnnfoamaaZf33
set_option linter.unusedVariables false
set_option linter.unusedSimpArgs false
namespace Go.Proofs.Ytgbfaggnnfoamaa
open Go.RowKit
def total (bs : List ByteArray) : Nat := (bs.map (·.size)).sum
def xR (n : Nat) (letters : Int) (i : Nat) (u : ByteArray) : Bool := zW u letters && !(decide (0 < i ∧ i + 1 < n) && u.toList.isEmpty)
def xE (n : Nat) (letters : Int) : Nat → List ByteArray → Bool
 | _, [] => true
 | i, u :: us => xR n letters i u && xE n letters (i + 1) us
def zP (bs : List ByteArray) (letters : Int) : Int :=
 if letters < 1 ∨ 6 < letters then 1 else if 8 < bs.length then 3 else if 64 < total bs then 3
 else if bs.length = 0 then 22 else if xE bs.length letters 0 bs then 0 else 22
theorem total_succ (bs : List ByteArray) (k : Nat) (hk : k < bs.length) : total (bs.take (k + 1)) = total (bs.take k) + bs[k].size := by
 rw [List.take_succ_eq_append_getElem hk]; simp only [total, List.map_append, List.sum_append]; simp
theorem total_take (bs : List ByteArray) (hs : ∀ i (h : i < bs.length), bs[i].size ≤ 140737488351232) (k : Nat) (hk : k ≤ bs.length) : total (bs.take k) ≤ k * 140737488351232 := by
 induction k with
 | zero => simp [total]
 | succ k ih => rw [total_succ bs k (by omega)]; have := hs k (by omega); have := ih (by omega); omega
theorem okFrom_drop (bs : List ByteArray) (letters : Int) (j : Nat) (hj : j < bs.length) : xE bs.length letters j (bs.drop j) = (xR bs.length letters j bs[j] && xE bs.length letters (j + 1) (bs.drop (j + 1))) := by
 rw [List.drop_eq_getElem_cons hj]; rfl
theorem okFrom_step {bs : List ByteArray} {letters : Int} {j : Nat} (hj : j < bs.length) (hb : xR bs.length letters j bs[j] = true) (h : xE bs.length letters j (bs.drop j) = xE bs.length letters 0 bs) :
  xE bs.length letters (j + 1) (bs.drop (j + 1)) = xE bs.length letters 0 bs := by
 rw [← h, okFrom_drop bs letters j hj, hb, Bool.true_and]
theorem okFrom_bad {bs : List ByteArray} {letters : Int} {j : Nat} (hj : j < bs.length) (hb : xR bs.length letters j bs[j] = false) (h : xE bs.length letters j (bs.drop j) = xE bs.length letters 0 bs) :
  xE bs.length letters 0 bs = false := by
 rw [← h, okFrom_drop bs letters j hj, hb, Bool.false_and]
theorem okBlock_yes {n j : Nat} {letters : Int} {u : ByteArray} (h1 : zW u letters = true) (h2 : (j = 0 ∨ ¬ (j : Int) < n - 1) ∨ u.toList.isEmpty = false) : xR n letters j u = true := by
 unfold xR
 rcases h2 with h2 | h2
 ·have : decide (0 < j ∧ j + 1 < n) = false := by simp; omega
  simp [h1, this]
 ·simp [h1, h2]
theorem okBlock_no1 {n j : Nat} {letters : Int} {u : ByteArray} (h1 : ¬ zW u letters = true) : xR n letters j u = false := by
 simp [xR, h1]
theorem okBlock_no2 {n j : Nat} {letters : Int} {u : ByteArray} (h : 0 < j) (h1 : (j : Int) < n - 1) (h2 : u.toList.isEmpty = true) : xR n letters j u = false := by
 have : decide (0 < j ∧ j + 1 < n) = true := by simp; omega
 simp [xR, this, h2]
theorem patValidate_ok {bs : List ByteArray} {letters : Int} (h1 : ¬ letters < 1) (h2 : ¬ 6 < letters) (h3 : ¬ 8 < bs.length) (h4 : ¬ 64 < total bs) (h5 : ¬ bs.length = 0) :
  zP bs letters = if xE bs.length letters 0 bs then 0 else 22 := by
 unfold zP
 rw [if_neg (by omega), if_neg h3, if_neg h4, if_neg h5]
set_option maxHeartbeats 400000 in
theorem validate_any (b off cap : Nat) (bs : List ByteArray) (letters : Int) (w : World)
    (hcap : bs.length ≤ cap) (hcm : cap ≤ maxLen) (hc : ∀ i (h : i < bs.length), w.cell? ⟨b, off + i, none⟩ = some (.string bs[i])) (hb : b < w.heap.size)
    (hs : ∀ i (h : i < bs.length), bs[i].size ≤ 140737488351232) :
    Calls Try.prog 35 #[.agg #[.slice (some ⟨b, off, none⟩) bs.length cap], .int .i64 letters] w fun e w' => e = .returned (.int .i64 (zP bs letters)) ∧ w.grownBy w' none := by
  unfold maxLen at hcm
  by_cases h1 : letters < 1
  · go_enter Try.func35, Try.ntmps35
    go_wp2
    go_ret
    exact ⟨yO (by simp [zP, h1]), World.grownBy_alloc _ _ _⟩
  by_cases h2 : 6 < letters
  · go_enter Try.func35, Try.ntmps35
    go_wp2
    go_ret
    exact ⟨yO (by simp [zP, h2]), World.grownBy_alloc _ _ _⟩
  by_cases h3 : 8 < bs.length
  · go_enter Try.func35, Try.ntmps35
    go_wp2
    go_ret
    exact ⟨yO (by simp [zP, h1, h2, h3]), World.grownBy_alloc _ _ _⟩
  go_enter Try.func35, Try.ntmps35
  go_wp2
  go_loop [5, 24] (fun t i => ∃ k : Nat, k ≤ bs.length ∧ i = .int .i64 k ∧ t = .int .i64 (total (bs.take k))) (fun _ i => bs.length - (intOf i).toNat)
  case atStart => exact ⟨0, Nat.zero_le _, rfl, rfl⟩
  case round =>
    obtain ⟨k, hk, rfl, rfl⟩ := hrel
    have hT := total_take bs hs k hk
    by_cases hlt : k < bs.length
    · have hck := hc k hlt
      have hsk := hs k hlt
      have HS := Kh (total_succ bs k hlt)
      go_wp2
      go_round
      case rel => exact ⟨k + 1, by omega, by go_num, by rw [HS.out]; go_num⟩
      case measure => simp [intOf]; omega
    · have HK := Kh (show total (bs.take k) = total bs by rw [List.take_of_length_le (by omega)])
      by_cases h4 : 64 < total (bs.take k)
      · go_wp2
        go_ret
        exact ⟨yO (by rw [HK.out] at h4; simp [zP, h1, h2, h3, h4]), World.grownBy_alloc _ _ _⟩
      by_cases h5 : bs.length = 0
      · have h5' : ((bs.length : Int) == 0) = true := by simp [h5]
        have H5 := Kh h5; clear h5
        go_wp2
        go_ret
        exact ⟨yO (by rw [HK.out] at h4; simp [zP, h1, h2, h4, H5.out]), World.grownBy_alloc _ _ _⟩
      have h5' : ((bs.length : Int) == 0) = false := by rw [beq_eq_false_iff_ne]; omega
      go_wp2
      go_loop [42] (fun i => ∃ k : Nat, k ≤ bs.length ∧ i = .int .i64 k ∧ xE bs.length letters k (bs.drop k) = xE bs.length letters 0 bs) (fun i => bs.length - (intOf i).toNat)
      case atStart => exact ⟨0, Nat.zero_le _, rfl, rfl⟩
      case round =>
        obtain ⟨j, hj, rfl, hrel⟩ := hrel
        have HR := Kh hrel; clear hrel
        by_cases hlt : j < bs.length
        · have hcj := hc j hlt
          have hsj := hs j hlt
          go_wp2_with (go_at_call 36; refine (wordValid_any _ _ _ (by unfold maxLen; omega)).mono ?_; rintro e w' ⟨rfl, rfl⟩)
          all_goals first
            | (go_ret
               exact ⟨yO (by rw [patValidate_ok (by omega) (by omega) (by omega) (by rw [← HK.out]; omega) (by omega), okFrom_bad hlt (by first | exact okBlock_no2 (by assumption) (by assumption) (by assumption) | exact okBlock_no1 (by assumption)) HR.out]; rfl), World.grownBy_alloc _ _ _⟩)
            | (go_round
               case rel => exact ⟨j + 1, by omega, by go_num, okFrom_step hlt (okBlock_yes (by assumption) (by first | (left; omega) | (right; assumption))) HR.out⟩
               case measure => simp [intOf]; omega)
        · go_wp2
          go_ret
          have e : xE bs.length letters j (bs.drop j) = true := by rw [List.drop_eq_nil_of_le (by omega)]; rfl
          exact ⟨yO (by rw [patValidate_ok (by omega) (by omega) (by omega) (by rw [← HK.out]; omega) (by omega), ← HR.out, e]; rfl), World.grownBy_alloc _ _ _⟩
end Go.Proofs.Ytgbfaggnnfoamaa
