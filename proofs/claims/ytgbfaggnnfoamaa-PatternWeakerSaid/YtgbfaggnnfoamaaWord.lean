/- word.Valid. -/
import Derived.Test.YtgbfaggnnfoamaaBase
namespace Go.Proofs.Ytgbfaggnnfoamaa
open Go.RowKit

def okByte (letters : Int) (c : UInt8) : Bool := decide (97 ≤ (c.toNat : Int) ∧ (c.toNat : Int) - 97 < letters)
def wordValid (s : ByteArray) (letters : Int) : Bool := decide (1 ≤ letters ∧ letters ≤ 6 ∧ s.size ≤ 2048) && s.data.toList.all (okByte letters)

theorem wordValid_no (s : ByteArray) (letters : Int) (k : Nat) (hk : k < s.size) (h : (s[k].toNat : Int) < 97 ∨ letters ≤ ((s[k].toNat : Int) - 97) % 256) : wordValid s letters = false := by
  have hm : s[k] ∈ s.data.toList := by
    have : s[k] = s.data[k]'(by simpa using hk) := rfl
    rw [this]; simp
  have h2 : okByte letters s[k] = false := by
    have := UInt8.toNat_lt s[k]
    simp [okByte]; omega
  unfold wordValid
  rw [Bool.and_eq_false_iff]; right
  rw [List.all_eq_false]; exact ⟨_, hm, by simp [h2]⟩

theorem all_succ (s : ByteArray) (letters : Int) (k : Nat) (hk : k < s.size) (h : (s.data.toList.take k).all (okByte letters) = true)
    (h1 : 97 ≤ (s[k].toNat : Int) ∧ ((s[k].toNat : Int) - 97) % 256 < letters) : (s.data.toList.take (k + 1)).all (okByte letters) = true := by
  rw [List.take_succ_eq_append_getElem (by simpa using hk), List.all_append, h]
  have : s.data.toList[k]'(by simpa using hk) = s[k] := rfl
  have h3 := UInt8.toNat_lt s[k]
  simp [this, okByte]; omega

theorem wordValid_yes (s : ByteArray) (letters : Int) (k : Nat) (hk : s.size ≤ k) (h : 1 ≤ letters ∧ letters ≤ 6 ∧ s.size ≤ 2048) (ha : (s.data.toList.take k).all (okByte letters) = true) : wordValid s letters = true := by
  rw [List.take_of_length_le (by simpa using hk)] at ha
  simp [wordValid, ha, h]

set_option maxHeartbeats 400000 in
theorem valid_any (s : ByteArray) (letters : Int) (w : World) (hs : s.size ≤ maxLen) :
    Calls Try.prog 36 #[.string s, .int .i64 letters] w fun e w' => e = .returned (.bool (wordValid s letters)) ∧ w = w' := by
  unfold maxLen at hs
  by_cases h1 : letters < 1
  · go_enter Try.func36, Try.ntmps36
    go_wp2
    go_ret
    exact ⟨ret_bool (by simp [wordValid]; omega), rfl⟩
  by_cases h2 : 6 < letters
  · go_enter Try.func36, Try.ntmps36
    go_wp2
    go_ret
    exact ⟨ret_bool (by simp [wordValid]; omega), rfl⟩
  by_cases h3 : 2048 < s.size
  · go_enter Try.func36, Try.ntmps36
    go_wp2
    go_ret
    exact ⟨ret_bool (by simp [wordValid]; omega), rfl⟩
  go_enter Try.func36, Try.ntmps36
  go_wp2
  go_loop [19] (fun i => ∃ k : Nat, k ≤ s.size ∧ i = .int .i64 k ∧ (s.data.toList.take k).all (okByte letters) = true) (fun i => s.size - (intOf i).toNat)
  case atStart => exact ⟨0, Nat.zero_le _, rfl, rfl⟩
  case round =>
    obtain ⟨k, hk, rfl, hall⟩ := hrel
    have HA := Lib.hid hall; clear hall
    by_cases hlt : k < s.size
    · go_wp2
      · go_ret
        exact ⟨ret_bool (by rw [eq_comm]; exact wordValid_no s letters k hlt (by omega)), rfl⟩
      · go_round
        case rel => exact ⟨k + 1, by omega, by go_num, all_succ s letters k hlt HA.out (by omega)⟩
        case measure => simp [intOf]; omega
      · go_ret
        exact ⟨ret_bool (by rw [eq_comm]; exact wordValid_no s letters k hlt (by omega)), rfl⟩
    · go_wp2
      go_ret
      exact ⟨ret_bool (by rw [eq_comm]; exact wordValid_yes s letters k (by omega) (by omega) HA.out), rfl⟩

end Go.Proofs.Ytgbfaggnnfoamaa
