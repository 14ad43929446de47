/- Part 2 of the proof: Word, Pat. -/
import Derived.Test.YtgbfaggnnfoamaaZg1
set_option linter.unusedVariables false
set_option linter.unusedSimpArgs false
namespace Go.Proofs.Ytgbfaggnnfoamaa
open Go.RowKit
def wQ (letters : Int) (c : UInt8) : Bool := decide (97 ≤ (c.toNat : Int) ∧ (c.toNat : Int) - 97 < letters)
def zM (s : ByteArray) (letters : Int) : Bool := decide (1 ≤ letters ∧ letters ≤ 6 ∧ s.size ≤ 2048) && s.data.toList.all (wQ letters)
theorem rD (s : ByteArray) (letters : Int) (k : Nat) (hk : k < s.size) (h : (s[k].toNat : Int) < 97 ∨ letters ≤ ((s[k].toNat : Int) - 97) % 256) : zM s letters = false := by
 have hm : s[k] ∈ s.data.toList := by
  have : s[k] = s.data[k]'(by simpa using hk) := rfl
  rw [this]; simp
 have h2 : wQ letters s[k] = false := by
  have := UInt8.toNat_lt s[k]
  simp [wQ]; omega
 unfold zM
 rw [Bool.and_eq_false_iff]; right
 rw [List.all_eq_false]; exact ⟨_, hm, by simp [h2]⟩
theorem all_succ (s : ByteArray) (letters : Int) (k : Nat) (hk : k < s.size) (h : (s.data.toList.take k).all (wQ letters) = true)
  (h1 : 97 ≤ (s[k].toNat : Int) ∧ ((s[k].toNat : Int) - 97) % 256 < letters) : (s.data.toList.take (k + 1)).all (wQ letters) = true := by
 rw [List.take_succ_eq_append_getElem (by simpa using hk), List.all_append, h]
 have : s.data.toList[k]'(by simpa using hk) = s[k] := rfl
 have h3 := UInt8.toNat_lt s[k]
 simp [this, wQ]; omega
theorem wordValid_yes (s : ByteArray) (letters : Int) (k : Nat) (hk : s.size ≤ k) (h : 1 ≤ letters ∧ letters ≤ 6 ∧ s.size ≤ 2048) (ha : (s.data.toList.take k).all (wQ letters) = true) : zM s letters = true := by
 rw [List.take_of_length_le (by simpa using hk)] at ha
 simp [zM, ha, h]
set_option maxHeartbeats 400000 in
theorem wR (s : ByteArray) (letters : Int) (w : World) (hs : s.size ≤ maxLen) :
  Calls Try.prog 36 #[.string s, .int .i64 letters] w fun e w' => e = .returned (.bool (zM s letters)) ∧ w = w' := by
 unfold maxLen at hs
 by_cases h1 : letters < 1
 ·go_enter Try.func36, Try.ntmps36
  go_wp2
  go_ret
  exact ⟨yY (by simp [zM]; omega), rfl⟩
 by_cases h2 : 6 < letters
 ·go_enter Try.func36, Try.ntmps36
  go_wp2
  go_ret
  exact ⟨yY (by simp [zM]; omega), rfl⟩
 by_cases h3 : 2048 < s.size
 ·go_enter Try.func36, Try.ntmps36
  go_wp2
  go_ret
  exact ⟨yY (by simp [zM]; omega), rfl⟩
 go_enter Try.func36, Try.ntmps36
 go_wp2
 go_loop [19] (fun i => ∃ k : Nat, k ≤ s.size ∧ i = .int .i64 k ∧ (s.data.toList.take k).all (wQ letters) = true) (fun i => s.size - (intOf i).toNat)
 case atStart => exact ⟨0, Nat.zero_le _, rfl, rfl⟩
 case round =>
  obtain ⟨k, hk, rfl, hall⟩ := hrel
  have HA := Kh hall; clear hall
  by_cases hlt : k < s.size
  ·go_wp2
   ·go_ret
    exact ⟨yY (by rw [eq_comm]; exact rD s letters k hlt (by omega)), rfl⟩
   ·go_round
    case rel => exact ⟨k + 1, by omega, by go_num, all_succ s letters k hlt HA.out (by omega)⟩
    case measure => simp [intOf]; omega
   ·go_ret
    exact ⟨yY (by rw [eq_comm]; exact rD s letters k hlt (by omega)), rfl⟩
  ·go_wp2
   go_ret
   exact ⟨yY (by rw [eq_comm]; exact wordValid_yes s letters k (by omega) (by omega) HA.out), rfl⟩
def wB (bs : List ByteArray) : Nat := (bs.map (·.size)).sum
def xF (n : Nat) (letters : Int) (i : Nat) (u : ByteArray) : Bool := zM u letters && !(decide (0 < i ∧ i + 1 < n) && u.toList.isEmpty)
def yP (n : Nat) (letters : Int) : Nat → List ByteArray → Bool
 | _, [] => true
 | i, u :: us => xF n letters i u && yP n letters (i + 1) us
def zN (bs : List ByteArray) (letters : Int) : Int :=
 if letters < 1 ∨ 6 < letters then 1 else if 8 < bs.length then 3 else if 64 < wB bs then 3
 else if bs.length = 0 then 22 else if yP bs.length letters 0 bs then 0 else 22
theorem tE (bs : List ByteArray) (k : Nat) (hk : k < bs.length) : wB (bs.take (k + 1)) = wB (bs.take k) + bs[k].size := by
 rw [List.take_succ_eq_append_getElem hk]; simp only [wB, List.map_append, List.sum_append]; simp
theorem total_take (bs : List ByteArray) (hs : ∀ i (h : i < bs.length), bs[i].size ≤ 140737488351232) (k : Nat) (hk : k ≤ bs.length) : wB (bs.take k) ≤ k * 140737488351232 := by
 induction k with
 | zero => simp [wB]
 | succ k ih => rw [tE bs k (by omega)]; have := hs k (by omega); have := ih (by omega); omega
theorem qJ (bs : List ByteArray) (letters : Int) (j : Nat) (hj : j < bs.length) : yP bs.length letters j (bs.drop j) = (xF bs.length letters j bs[j] && yP bs.length letters (j + 1) (bs.drop (j + 1))) := by
 rw [List.drop_eq_getElem_cons hj]; rfl
theorem qI {bs : List ByteArray} {letters : Int} {j : Nat} (hj : j < bs.length) (hb : xF bs.length letters j bs[j] = true) (h : yP bs.length letters j (bs.drop j) = yP bs.length letters 0 bs) :
  yP bs.length letters (j + 1) (bs.drop (j + 1)) = yP bs.length letters 0 bs := by
 rw [← h, qJ bs letters j hj, hb, Bool.true_and]
theorem pD {bs : List ByteArray} {letters : Int} {j : Nat} (hj : j < bs.length) (hb : xF bs.length letters j bs[j] = false) (h : yP bs.length letters j (bs.drop j) = yP bs.length letters 0 bs) :
  yP bs.length letters 0 bs = false := by
 rw [← h, qJ bs letters j hj, hb, Bool.false_and]
theorem qK {n j : Nat} {letters : Int} {u : ByteArray} (h1 : zM u letters = true) (h2 : (j = 0 ∨ ¬ (j : Int) < n - 1) ∨ u.toList.isEmpty = false) : xF n letters j u = true := by
 unfold xF
 rcases h2 with h2 | h2
 ·have : decide (0 < j ∧ j + 1 < n) = false := by simp; omega
  simp [h1, this]
 ·simp [h1, h2]
theorem qM {n j : Nat} {letters : Int} {u : ByteArray} (h1 : ¬ zM u letters = true) : xF n letters j u = false := by
 simp [xF, h1]
theorem qL {n j : Nat} {letters : Int} {u : ByteArray} (h : 0 < j) (h1 : (j : Int) < n - 1) (h2 : u.toList.isEmpty = true) : xF n letters j u = false := by
 have : decide (0 < j ∧ j + 1 < n) = true := by simp; omega
 simp [xF, this, h2]
theorem xK {bs : List ByteArray} {letters : Int} (h1 : ¬ letters < 1) (h2 : ¬ 6 < letters) (h3 : ¬ 8 < bs.length) (h4 : ¬ 64 < wB bs) (h5 : ¬ bs.length = 0) :
  zN bs letters = if yP bs.length letters 0 bs then 0 else 22 := by
 unfold zN
 rw [if_neg (by omega), if_neg h3, if_neg h4, if_neg h5]
set_option maxHeartbeats 400000 in
theorem validate_any (b off cap : Nat) (bs : List ByteArray) (letters : Int) (w : World)
    (hcap : bs.length ≤ cap) (hcm : cap ≤ maxLen) (hc : ∀ i (h : i < bs.length), w.cell? ⟨b, off + i, none⟩ = some (.string bs[i])) (hb : b < w.heap.size)
    (hs : ∀ i (h : i < bs.length), bs[i].size ≤ 140737488351232) :
    Calls Try.prog 35 #[.agg #[.slice (some ⟨b, off, none⟩) bs.length cap], .int .i64 letters] w fun e w' => e = .returned (.int .i64 (zN bs letters)) ∧ w.grownBy w' none := by
  unfold maxLen at hcm
  by_cases h1 : letters < 1
  · go_enter Try.func35, Try.ntmps35
    go_wp2
    go_ret
    exact ⟨zY (by simp [zN, h1]), World.grownBy_alloc _ _ _⟩
  by_cases h2 : 6 < letters
  · go_enter Try.func35, Try.ntmps35
    go_wp2
    go_ret
    exact ⟨zY (by simp [zN, h2]), World.grownBy_alloc _ _ _⟩
  by_cases h3 : 8 < bs.length
  · go_enter Try.func35, Try.ntmps35
    go_wp2
    go_ret
    exact ⟨zY (by simp [zN, h1, h2, h3]), World.grownBy_alloc _ _ _⟩
  go_enter Try.func35, Try.ntmps35
  go_wp2
  go_loop [5, 24] (fun t i => ∃ k : Nat, k ≤ bs.length ∧ i = .int .i64 k ∧ t = .int .i64 (wB (bs.take k))) (fun _ i => bs.length - (intOf i).toNat)
  case atStart => exact ⟨0, Nat.zero_le _, rfl, rfl⟩
  case round =>
    obtain ⟨k, hk, rfl, rfl⟩ := hrel
    have hT := total_take bs hs k hk
    by_cases hlt : k < bs.length
    · have hck := hc k hlt
      have hsk := hs k hlt
      have HS := Kh (tE bs k hlt)
      go_wp2
      go_round
      case rel => exact ⟨k + 1, by omega, by go_num, by rw [HS.out]; go_num⟩
      case measure => simp [intOf]; omega
    · have HK := Kh (show wB (bs.take k) = wB bs by rw [List.take_of_length_le (by omega)])
      by_cases h4 : 64 < wB (bs.take k)
      · go_wp2
        go_ret
        exact ⟨zY (by rw [HK.out] at h4; simp [zN, h1, h2, h3, h4]), World.grownBy_alloc _ _ _⟩
      by_cases h5 : bs.length = 0
      · have h5' : ((bs.length : Int) == 0) = true := by simp [h5]
        have H5 := Kh h5; clear h5
        go_wp2
        go_ret
        exact ⟨zY (by rw [HK.out] at h4; simp [zN, h1, h2, h4, H5.out]), World.grownBy_alloc _ _ _⟩
      have h5' : ((bs.length : Int) == 0) = false := by rw [beq_eq_false_iff_ne]; omega
      go_wp2
      go_loop [42] (fun i => ∃ k : Nat, k ≤ bs.length ∧ i = .int .i64 k ∧ yP bs.length letters k (bs.drop k) = yP bs.length letters 0 bs) (fun i => bs.length - (intOf i).toNat)
      case atStart => exact ⟨0, Nat.zero_le _, rfl, rfl⟩
      case round =>
        obtain ⟨j, hj, rfl, hrel⟩ := hrel
        have HR := Kh hrel; clear hrel
        by_cases hlt : j < bs.length
        · have hcj := hc j hlt
          have hsj := hs j hlt
          go_wp2_with (go_at_call 36; refine (wR _ _ _ (by unfold maxLen; omega)).mono ?_; rintro e w' ⟨rfl, rfl⟩)
          all_goals first
            | (go_ret
               exact ⟨zY (by rw [xK (by omega) (by omega) (by omega) (by rw [← HK.out]; omega) (by omega), pD hlt (by first | exact qL (by assumption) (by assumption) (by assumption) | exact qM (by assumption)) HR.out]; rfl), World.grownBy_alloc _ _ _⟩)
            | (go_round
               case rel => exact ⟨j + 1, by omega, by go_num, qI hlt (qK (by assumption) (by first | (left; omega) | (right; assumption))) HR.out⟩
               case measure => simp [intOf]; omega)
        · go_wp2
          go_ret
          have e : yP bs.length letters j (bs.drop j) = true := by rw [List.drop_eq_nil_of_le (by omega)]; rfl
          exact ⟨zY (by rw [xK (by omega) (by omega) (by omega) (by rw [← HK.out]; omega) (by omega), ← HR.out, e]; rfl), World.grownBy_alloc _ _ _⟩
end Go.Proofs.Ytgbfaggnnfoamaa
