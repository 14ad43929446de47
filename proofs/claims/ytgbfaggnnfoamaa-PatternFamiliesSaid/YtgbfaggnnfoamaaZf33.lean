/- Part 33 of the proof: RFam, Same. -/
import Derived.Test.YtgbfaggnnfoamaaZf26
import Derived.Test.YtgbfaggnnfoamaaZf27
import Derived.Test.YtgbfaggnnfoamaaZf28
import Derived.Test.YtgbfaggnnfoamaaZf29
import Derived.Test.YtgbfaggnnfoamaaZf30
import Derived.Test.YtgbfaggnnfoamaaZf31
import Derived.Test.YtgbfaggnnfoamaaZf32
set_option linter.unusedVariables false
set_option linter.unusedSimpArgs false
namespace Go.Proofs.Ytgbfaggnnfoamaa
open Go.RowKit
theorem xW (kind letters k m : Int) (w : World) :
  Calls Try.prog 12 #[.int .i64 kind, .int .i64 letters, .int .i64 k, .int .i64 m] w (zN w (famE kind letters k m) (famL kind letters k m)) := by
 cases ho : zU kind letters k m with
 | false =>
  have e1 : famE kind letters k m = 1 := by rw [famE, if_pos ho]
  have e2 : famL kind letters k m = [] := by rw [famL, e1]; rfl
  rw [e1, e2]
  exact rfam_err _ _ _ _ _ ho
 | true =>
  simp only [zU, decide_eq_true_eq] at ho
  obtain ⟨hk1, hk7, hl1, hl6, hk, hk8, hm⟩ := ho
  have hm0 : 0 ≤ m ∧ m ≤ 4 := by split at hm <;> omega
  have hk0 : 0 ≤ k := by split at hk <;> omega
  obtain ⟨L, rfl⟩ : ∃ L : Nat, letters = (L : Int) := ⟨letters.toNat, by omega⟩
  obtain ⟨K, rfl⟩ : ∃ K : Nat, k = (K : Int) := ⟨k.toNat, by omega⟩
  obtain ⟨M, rfl⟩ : ∃ M : Nat, m = (M : Int) := ⟨m.toNat, by omega⟩
  have hcase : kind = 1 ∨ kind = 2 ∨ kind = 3 ∨ kind = 4 ∨ kind = 5 ∨ kind = 6 ∨ kind = 7 := by omega
  rcases hcase with rfl | rfl | rfl | rfl | rfl | rfl | rfl
  ·exact rfam1_any L K M w (by omega) (by omega) (by omega) (by omega) (by simp at hm; omega)
  ·exact rfam2_any L K M w (by omega) (by omega) (by simp at hk; omega) (by omega) (by simp at hm; omega)
  ·exact rfam3_any L K M w (by omega) (by omega) (by simp at hk; omega) (by omega) (by simp at hm; omega)
  ·exact rfam4_any L K M w (by omega) (by omega) (by simp at hk; omega) (by omega) (by simp at hm; omega)
  ·exact rfam5_any L K M w (by omega) (by omega) (by simp at hk; omega) (by omega) (by simp at hm; omega)
  ·exact rfam6_any L K M w (by omega) (by omega) (by simp at hk; omega) (by omega) (by simp at hm; omega)
  ·exact rfam7_any L K M w (by omega) (by omega) (by simp at hk; omega) (by omega) (by omega)
theorem Row.found {B : Nat} {w : World} {v : Value} {xs : List Value} (h : Row B w v xs) (hx : 0 < xs.length) : ∃ b off cap, v = .slice (some ⟨b, off, none⟩) xs.length cap ∧ xs.length ≤ cap ∧ cap ≤ maxLen ∧ RowAt w b off xs := by
 rcases h with ⟨a, c, rfl, rfl⟩ | ⟨b, off, cap, rfl, _, h1, h2, h3⟩
 ·simp at hx
 ·exact ⟨b, off, cap, rfl, h1, h2, h3⟩
set_option maxHeartbeats 400000 in
theorem same1_any (B1 B2 : Nat) (v1 v2 : Value) (ls : List (List Int)) (w : World) (h1 : Row B1 w v1 (strs ls)) (h2 : Row B2 w v2 (strs ls)) (hl : ls.length ≤ 9223372036854775807) :
  Calls Try.prog 34 #[v1, v2] w fun e w' => e = .returned (.bool true) ∧ ∃ m, w' = w.drewN m := by
 by_cases h0 : 0 < ls.length
 ·obtain ⟨b1, o1, c1, rfl, hc1, hm1, r1⟩ := h1.found (by simpa [strs] using h0)
  obtain ⟨b2, o2, c2, rfl, hc2, hm2, r2⟩ := h2.found (by simpa [strs] using h0)
  rw [show (strs ls).length = ls.length by simp [strs]] at *
  have hn : ((ls.length : Int) != ls.length) = false := by simp
  clear h1 h2
  go_enter Try.func34, Try.ntmps34
  go_wp2
  go_loopw [13] (fun i wr => ∃ k m : Nat, i = .int .i64 k ∧ k ≤ ls.length ∧ wr = w.drewN m) (fun i _ => ls.length - (intOf i).toNat)
  case atStart => exact ⟨0, 0, rfl, Nat.zero_le _, rfl⟩
  case round =>
   obtain ⟨k, m, rfl, hk, rfl⟩ := hrel
   by_cases hlt : k < ls.length
   ·have q1 := r1.map k hlt
    have q2 := r2.map k hlt
    have hlt' : (k : Int) < ls.length := by omega
    go_wp2
    go_quiet (fail)
    go_wp2
    go_roundw
    case rel => exact ⟨k + 1, _, by go_num, by omega, rfl⟩
    case measure => simp [intOf]; omega
   ·go_wp2
    go_ret
    exact ⟨rfl, m, rfl⟩
 ·have hz : ls = [] := List.eq_nil_of_length_eq_zero (by omega)
  subst hz
  obtain ⟨a1, c1, rfl⟩ := h1.shape
  obtain ⟨a2, c2, rfl⟩ := h2.shape
  rw [show (strs []).length = 0 by rfl] at *
  clear h1 h2
  go_enter Try.func34, Try.ntmps34
  go_wp2
  refine wp_loop_rounds 1 ?_
  rw [rounds_succ]
  go_wp2
  go_ret
  exact ⟨rfl, 0, rfl⟩
set_option maxHeartbeats 400000 in
theorem xS (B1 B2 : Nat) (v1 v2 : Value) (s1 s2 : List Value) (ps : List (List (List Int))) (w : World) (h1 : Row B1 w v1 s1) (h2 : Row B2 w v2 s2) (k1 : RowsT B1 9 strs w s1 ps) (k2 : RowsT B2 9 strs w s2 ps)
  (hl : ps.length ≤ 9223372036854775807) (hl2 : ∀ p ∈ ps, p.length ≤ 9223372036854775807) :
  Calls Try.prog 13 #[v1, v2] w fun e w' => e = .returned (.bool true) ∧ ∃ m, w' = w.drewN m := by
 have e1 := k1.1
 have e2 := k2.1
 by_cases h0 : 0 < ps.length
 ·obtain ⟨b1, o1, c1, rfl, hc1, hm1, r1⟩ := h1.found (by omega)
  obtain ⟨b2, o2, c2, rfl, hc2, hm2, r2⟩ := h2.found (by omega)
  rw [e1] at hc1 ⊢
  rw [e2] at hc2 ⊢
  have hn : ((ps.length : Int) != ps.length) = false := by simp
  have E1 := Kh e1; have E2 := Kh e2
  clear h1 h2 e1 e2
  go_enter Try.func13, Try.ntmps13
  go_wp2
  go_loopw [13] (fun i wr => ∃ k m : Nat, i = .int .i64 k ∧ k ≤ ps.length ∧ wr = w.drewN m) (fun i _ => ps.length - (intOf i).toNat)
  case atStart => exact ⟨0, 0, rfl, Nat.zero_le _, rfl⟩
  case round =>
   obtain ⟨k, m, rfl, hk, rfl⟩ := hrel
   by_cases hlt : k < ps.length
   ·have i1 : k < s1.length := by rw [E1.out]; exact hlt
    have i2 : k < s2.length := by rw [E2.out]; exact hlt
    have q1 := r1.2 k i1
    have q2 := r2.2 k i2
    have t1 := fun n => ((k1.2 k i1 hlt).row.of_heap (w' := w.drewN n) rfl)
    have t2 := fun n => ((k2.2 k i2 hlt).row.of_heap (w' := w.drewN n) rfl)
    obtain ⟨x1, y1, z1⟩ := (k1.2 k i1 hlt).row.shape
    obtain ⟨x2, y2, z2⟩ := (k2.2 k i2 hlt).row.shape
    have hlt' : (k : Int) < ps.length := by omega
    have hpl := hl2 ps[k] (List.getElem_mem hlt)
    rw [z1] at q1 t1
    rw [z2] at q2 t2
    have T1 := Kh t1; have T2 := Kh t2
    clear t1 t2 z1 z2
    go_wp2
    go_quiet ((go_at_call 34; first | exact Calls.quiet_of (same1_any _ _ _ _ _ _ (T1.out _) (T2.out _) hpl) | exact quiet_add (same1_any _ _ _ _ _ _ (T1.out _) (T2.out _) hpl)))
    go_wp2
    go_roundw
    case rel => exact ⟨k + 1, _, by go_num, by omega, rfl⟩
    case measure => simp [intOf]; omega
   ·go_wp2
    go_ret
    exact ⟨rfl, m, rfl⟩
 ·have hz : ps = [] := List.eq_nil_of_length_eq_zero (by omega)
  subst hz
  have z1 : s1 = [] := List.eq_nil_of_length_eq_zero e1
  have z2 : s2 = [] := List.eq_nil_of_length_eq_zero e2
  subst z1 z2
  obtain ⟨a1, c1, rfl⟩ := h1.shape
  obtain ⟨a2, c2, rfl⟩ := h2.shape
  rw [show ([] : List Value).length = 0 by rfl] at *
  clear h1 h2 k1 k2 e1 e2
  go_enter Try.func13, Try.ntmps13
  go_wp2
  refine wp_loop_rounds 1 ?_
  rw [rounds_succ]
  go_wp2
  go_ret
  exact ⟨rfl, 0, rfl⟩
end Go.Proofs.Ytgbfaggnnfoamaa
