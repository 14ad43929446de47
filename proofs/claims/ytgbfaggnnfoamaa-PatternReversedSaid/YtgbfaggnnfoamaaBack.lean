/- back: a word backwards. -/
import Derived.Test.YtgbfaggnnfoamaaPieces
import Derived.Test.YtgbfaggnnfoamaaFits
namespace Go.Proofs.Ytgbfaggnnfoamaa
open Go.RowKit

theorem strOfNums_append' (a b : List Int) : strOfNums (a ++ b) = strOfNums a ++ strOfNums b := by
  have h : (strOfNums (a ++ b)).data = (strOfNums a ++ strOfNums b).data := by
    rw [ByteArray.data_append]
    simp [strOfNums]
  exact ByteArray.ext h
def backTo (l : List Int) (k : Nat) : List Int := (l.drop k).reverse
theorem backTo_step (l : List Int) (k : Nat) (hk : k < l.length) : backTo l k = backTo l (k + 1) ++ [l[k]] := by
  rw [backTo, List.drop_eq_getElem_cons hk, List.reverse_cons]; rfl

set_option maxHeartbeats 400000 in
theorem back_any (l : List Int) (w : World) (hl : l.length ≤ 1000) :
    Calls Try.prog 20 #[.string (strOfNums l)] w fun e w' => e = .returned (.string (strOfNums l.reverse)) ∧ w = w' := by
  have hs : (strOfNums l).size = l.length := strOfNums_size l
  go_enter Try.func20, Try.ntmps20
  go_wp2
  go_loop [3, 4] (fun o i => ∃ k : Nat, k ≤ l.length ∧ i = .int .i64 ((k : Int) - 1) ∧ o = .string (strOfNums (backTo l k))) (fun _ i => (intOf i + 1).toNat)
  case atStart => exact ⟨l.length, Nat.le_refl _, rfl, by rw [backTo, List.drop_length]; rfl⟩
  case round =>
    obtain ⟨k, hk, rfl, rfl⟩ := hrel
    have ho : (strOfNums (backTo l k)).size ≤ 1000 := by rw [strOfNums_size]; simp [backTo]; omega
    by_cases hp : 0 < k
    · obtain ⟨j, rfl⟩ : ∃ j, k = j + 1 := ⟨k - 1, by omega⟩
      have hj : j < l.length := by omega
      have hex := extract_one l j hj
      have h1 : (strOfNums [l[j]]).size ≤ 1000 := by rw [strOfNums_size]; simp
      have e1 : ((j + 1 : Nat) : Int) - 1 = j := by omega
      rw [e1]
      have HS := Lib.hid (backTo_step l j hj)
      clear e1
      go_wp2
      go_round
      case rel => exact ⟨j, by omega, by go_num, by rw [HS.out, strOfNums_append']⟩
      case measure => simp [intOf]
    · obtain rfl : k = 0 := by omega
      go_wp2
      go_ret
      exact ⟨rfl, rfl⟩
end Go.Proofs.Ytgbfaggnnfoamaa
