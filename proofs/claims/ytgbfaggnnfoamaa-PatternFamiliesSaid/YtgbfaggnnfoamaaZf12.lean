/- Part 12 of the proof: Size. -/
import Derived.Test.YtgbfaggnnfoamaaZf11
set_option linter.unusedVariables false
set_option linter.unusedSimpArgs false
namespace Go.Proofs.Ytgbfaggnnfoamaa
open Go.RowKit
def cnt (letters : Nat) : Nat → Int × Int
 | 0 => (0, 1)
 | r + 1 => (min ((cnt letters r).1 + (cnt letters r).2) 900, min ((cnt letters r).2 * letters) 900)
theorem vR (letters : Nat) : ∀ r, 0 ≤ (cnt letters r).1 ∧ (cnt letters r).1 ≤ 900 ∧ 0 ≤ (cnt letters r).2 ∧ (cnt letters r).2 ≤ 900
 | 0 => by simp [cnt]
 | r + 1 => by
  have h := vR letters r
  have h2 : 0 ≤ (cnt letters r).2 * (letters : Int) := Int.mul_nonneg h.2.2.1 (by omega)
  simp only [cnt]; omega
set_option maxHeartbeats 400000 in
theorem wJ (n : Int) (w : World) : Calls Try.prog 51 #[.int .i64 n] w fun e w' => e = .returned (.int .i64 (min n 900)) ∧ w = w' := by
 go_enter Try.func51, Try.ntmps51
 go_wp2
 all_goals (go_ret; exact ⟨yO (by omega), rfl⟩)
set_option maxHeartbeats 400000 in
theorem count_any (letters : Nat) (k : Int) (w : World) (h6 : letters ≤ 6) (hk : -1 ≤ k) (hk8 : k ≤ 8) :
  Calls Try.prog 50 #[.int .i64 letters, .int .i64 k] w fun e w' => e = .returned (.int .i64 (cnt letters (k + 1).toNat).1) ∧ w = w' := by
 obtain ⟨r, hr⟩ : ∃ r : Nat, k + 1 = r := ⟨(k + 1).toNat, by omega⟩
 have hr9 : r ≤ 9 := by omega
 have HR := Kh hr
 have e0 : (k + 1).toNat = r := by omega
 rw [e0]
 obtain rfl : k = (r : Int) - 1 := by omega
 clear e0 hr
 go_enter Try.func50, Try.ntmps50
 go_wp2
 go_loop [5, 6, 9] (fun t p i => ∃ n : Nat, n ≤ r ∧ i = .int .i64 n ∧ t = .int .i64 (cnt letters n).1 ∧ p = .int .i64 (cnt letters n).2) (fun _ _ i => r - (intOf i).toNat)
 case atStart => exact ⟨0, Nat.zero_le _, rfl, rfl, rfl⟩
 case round =>
  obtain ⟨n, hn, rfl, rfl, rfl⟩ := hrel
  have hb := vR letters n
  obtain ⟨t, ht⟩ : ∃ t, t = (cnt letters n).1 := ⟨_, rfl⟩
  obtain ⟨p, hp⟩ : ∃ p, p = (cnt letters n).2 := ⟨_, rfl⟩
  rw [← ht, ← hp] at hb ⊢
  have h1 : cnt letters (n + 1) = (min (t + p) 900, min (p * letters) 900) := by rw [ht, hp]; rfl
  have HT := Kh ht; have HP := Kh hp; have H1 := Kh h1
  obtain ⟨b1, b2, b3, b4⟩ := hb
  have hm1 : 0 ≤ p * (letters : Int) := Int.mul_nonneg b3 (by omega)
  have hm2 : p * (letters : Int) ≤ 5400 := by
   have := Int.mul_le_mul b4 (show (letters : Int) ≤ 6 by omega) (by omega) (by omega)
   omega
  clear ht hp h1
  by_cases hlt : n < r
  ·go_wp2_with fail
   refine (wJ _ _).mono ?_
   rintro e w' ⟨rfl, rfl⟩
   go_wp2_with fail
   refine (wJ _ _).mono ?_
   rintro e w' ⟨rfl, rfl⟩
   go_wp2
   go_round
   case rel => exact ⟨n + 1, by omega, by go_num, by rw [H1.out], by rw [H1.out]⟩
   case measure => simp [intOf]; omega
  ·go_wp2
   go_ret
   obtain rfl : n = r := by omega
   exact ⟨by rw [← HT.out]; rfl, rfl⟩
def chn (ne : Int) : Nat → Int × Int
 | 0 => (ne + 1, (ne + 1) * (ne + 1))
 | r + 1 => (min ((chn ne r).1 + (chn ne r).2) 900, min (chn ne r).2 900 * ne)
theorem vT (ne : Int) (h : 0 ≤ ne) (h9 : ne ≤ 900) : ∀ r, 0 ≤ (chn ne r).1 ∧ (chn ne r).1 ≤ 901 ∧ 0 ≤ (chn ne r).2 ∧ (chn ne r).2 ≤ 811801
 | 0 => by
  have h2 : (ne + 1) * (ne + 1) ≤ 901 * 901 := Int.mul_le_mul (by omega) (by omega) (by omega) (by omega)
  have h3 : 0 ≤ (ne + 1) * (ne + 1) := Int.mul_nonneg (by omega) (by omega)
  simp only [chn]; omega
 | r + 1 => by
  have hb := vT ne h h9 r
  have h2 : min (chn ne r).2 900 * ne ≤ 900 * 900 := Int.mul_le_mul (by omega) h9 h (by omega)
  have h3 : 0 ≤ min (chn ne r).2 900 * ne := Int.mul_nonneg (by omega) h
  simp only [chn]; omega
def sizeV (kind : Int) (letters : Nat) (k m : Int) : Int :=
 let ne := (cnt letters (k + 1).toNat).1 - 1
 let sh := (cnt letters k.toNat).1
 if kind = 1 then ne + 1 else if kind = 2 ∨ kind = 3 then sh + ne else if kind = 4 then sh + 2 * ne else if kind = 5 then sh + 3 * ne else if kind = 6 then ne else (chn ne (m + 1).toNat).1
theorem cnt_pos (letters r : Nat) : 1 ≤ (cnt letters (r + 1)).1 := by
 induction r with
 | zero => show (1 : Int) ≤ min (0 + 1) 900; decide
 | succ r ih =>
  have := vR letters (r + 1)
  rw [cnt]; simp only; omega
set_option maxHeartbeats 1000000 in
theorem size_any (kind : Int) (letters : Nat) (k m : Int) (w : World) (h1 : 1 ≤ kind) (h7 : kind ≤ 7) (h6 : letters ≤ 6) (hk : 0 ≤ k) (hk8 : k ≤ 8) (hm : 0 ≤ m) (hm4 : m ≤ 4) :
  Calls Try.prog 26 #[.int .i64 kind, .int .i64 letters, .int .i64 k, .int .i64 m] w fun e w' => e = .returned (.int .i64 (sizeV kind letters k m)) ∧ w = w' := by
 have hb1 := vR letters (k + 1).toNat
 have hb2 := vR letters k.toNat
 have hp : 1 ≤ (cnt letters (k + 1).toNat).1 := by
  rw [show (k + 1).toNat = k.toNat + 1 by omega]; exact cnt_pos _ _
 have c1 := fun w => count_any letters k w h6 (by omega) hk8
 have c2 := fun w => count_any letters (k - 1) w h6 (by omega) (by omega)
 rw [show k - 1 + 1 = k by omega] at c2
 have hz : ∀ a b, (cnt letters (k + 1).toNat).1 = a → (cnt letters k.toNat).1 = b → sizeV kind letters k m = if kind = 1 then a - 1 + 1 else if kind = 2 ∨ kind = 3 then b + (a - 1) else if kind = 4 then b + 2 * (a - 1) else if kind = 5 then b + 3 * (a - 1) else if kind = 6 then a - 1 else (chn (a - 1) (m + 1).toNat).1 := by
  intro a b h h'; unfold sizeV; rw [h, h']
 generalize (cnt letters (k + 1).toNat).1 = a at *
 generalize (cnt letters k.toNat).1 = b at *
 have hz := hz a b rfl rfl
 obtain ⟨a1, a2, _, _⟩ := hb1
 obtain ⟨b1, b2, _, _⟩ := hb2
 have C1 := Kh c1; have C2 := Kh c2; have HZ := Kh hz; clear c1 c2 hz
 have hkind : kind = 1 ∨ kind = 2 ∨ kind = 3 ∨ kind = 4 ∨ kind = 5 ∨ kind = 6 ∨ kind = 7 := by omega
 rcases hkind with rfl | rfl | rfl | rfl | rfl | rfl | rfl
 case inr.inr.inr.inr.inr.inr =>
  obtain ⟨q, rfl⟩ : ∃ q : Nat, m = q := ⟨m.toNat, by omega⟩
  obtain ⟨ne, rfl⟩ : ∃ ne, a = ne + 1 := ⟨a - 1, by omega⟩
  have hmul1 : 0 ≤ (ne + 1) * (ne + 1) := Int.mul_nonneg (by omega) (by omega)
  have hmul2 : (ne + 1) * (ne + 1) ≤ 901 * 901 := Int.mul_le_mul (by omega) (by omega) (by omega) (by omega)
  go_enter Try.func26, Try.ntmps26
  go_wp2_with fail
  refine (C1.out _).mono ?_
  rintro e w' ⟨rfl, rfl⟩
  go_wp2_with fail
  refine (C2.out _).mono ?_
  rintro e w' ⟨rfl, rfl⟩
  go_wp2
  go_loop [11, 12, 56] (fun t p i => ∃ n : Nat, n ≤ q + 1 ∧ i = .int .i64 n ∧ t = .int .i64 (chn ne n).1 ∧ p = .int .i64 (chn ne n).2) (fun _ _ i => q + 1 - (intOf i).toNat)
  case atStart => exact ⟨0, Nat.zero_le _, rfl, rfl, rfl⟩
  case round =>
   obtain ⟨n, hn, rfl, rfl, rfl⟩ := hrel
   have hb := vT ne (by omega) (by omega) n
   obtain ⟨t, ht⟩ : ∃ t, t = (chn ne n).1 := ⟨_, rfl⟩
   obtain ⟨p, hp⟩ : ∃ p, p = (chn ne n).2 := ⟨_, rfl⟩
   rw [← ht, ← hp] at hb ⊢
   have h1 : chn ne (n + 1) = (min (t + p) 900, min p 900 * ne) := by rw [ht, hp]; rfl
   have HT := Kh ht; have HP := Kh hp; have H1 := Kh h1
   obtain ⟨b1, b2, b3, b4⟩ := hb
   have hm1 : 0 ≤ min p 900 * ne := Int.mul_nonneg (by omega) (by omega)
   have hm2 : min p 900 * ne ≤ 900 * 900 := Int.mul_le_mul (by omega) (by omega) (by omega) (by omega)
   clear ht hp h1 hmul1 hmul2
   by_cases hlt : n < q + 1
   ·go_wp2_with fail
    refine (wJ _ _).mono ?_
    rintro e w' ⟨rfl, rfl⟩
    go_wp2_with fail
    refine (wJ _ _).mono ?_
    rintro e w' ⟨rfl, rfl⟩
    go_wp2
    go_round
    case rel => exact ⟨n + 1, by omega, by go_num, by rw [H1.out], by rw [H1.out]⟩
    case measure => simp [intOf]; omega
   ·go_wp2
    go_ret
    obtain rfl : n = q + 1 := by omega
    exact ⟨yO (by first | exact HT.out | (rw [HZ.out]; simp only [Int.reduceEq, if_false, or_self, show ne + 1 - 1 = ne by omega, show ((q : Int) + 1).toNat = q + 1 by omega]; exact HT.out)), rfl⟩
 all_goals
  go_enter Try.func26, Try.ntmps26
  go_wp2_with fail
  refine (C1.out _).mono ?_
  rintro e w' ⟨rfl, rfl⟩
  go_wp2_with fail
  refine (C2.out _).mono ?_
  rintro e w' ⟨rfl, rfl⟩
  go_wp2
  go_ret
  exact ⟨yO (by rw [HZ.out]; simp), rfl⟩
def zU (kind letters k m : Int) : Bool :=
 decide (1 ≤ kind ∧ kind ≤ 7 ∧ 1 ≤ letters ∧ letters ≤ 6 ∧ (if kind = 1 then 0 else 1) ≤ k ∧ k ≤ 8 ∧ (if kind = 7 then 0 ≤ m ∧ m ≤ 4 else m = 0))
set_option maxHeartbeats 400000 in
theorem validOrder_any (kind letters k m : Int) (w : World) :
  Calls Try.prog 25 #[.int .i64 kind, .int .i64 letters, .int .i64 k, .int .i64 m] w fun e w' => e = .returned (.bool (zU kind letters k m)) ∧ w = w' := by
 by_cases h1 : kind = 1
 ·subst h1
  go_enter Try.func25, Try.ntmps25
  go_wp2
  all_goals (go_ret; refine ⟨zV ?_, rfl⟩; unfold zU; first | (symm; rw [decide_eq_false_iff_not]; simp; omega) | (rw [eq_comm, Bool.eq_iff_iff]; simp; omega))
 ·by_cases h7 : kind = 7
  ·subst h7
   go_enter Try.func25, Try.ntmps25
   go_wp2
   all_goals (go_ret; refine ⟨zV ?_, rfl⟩; unfold zU; first | (symm; rw [decide_eq_false_iff_not]; simp; omega) | (rw [eq_comm, Bool.eq_iff_iff]; simp; omega))
  ·have h1' : (kind == 1) = false := by simpa using h1
   have h7' : (kind == 7) = false := by simpa using h7
   have H1 := Kh h1; have H7 := Kh h7; clear h1 h7
   go_enter Try.func25, Try.ntmps25
   go_wp2
   all_goals (go_ret; refine ⟨zV ?_, rfl⟩; unfold zU; simp only [if_neg H1.out, if_neg H7.out]; first | (symm; rw [decide_eq_false_iff_not]; omega) | (rw [eq_comm, Bool.eq_iff_iff]; simp; omega))
end Go.Proofs.Ytgbfaggnnfoamaa
