/- Part 44 of the proof: Size, Same, Known, LawAgr, SomeLen. -/
import Derived.Test.YtgbfaggnnfoamaaZg43
import Derived.Shelf.Vars
set_option linter.unusedVariables false
set_option linter.unusedSimpArgs false
namespace Go.Proofs.Ytgbfaggnnfoamaa
open Go.RowKit
def cnt (letters : Nat) : Nat → Int × Int
 | 0 => (0, 1)
 | r + 1 => (min ((cnt letters r).1 + (cnt letters r).2) 900, min ((cnt letters r).2 * letters) 900)
theorem nI (letters : Nat) : ∀ r, 0 ≤ (cnt letters r).1 ∧ (cnt letters r).1 ≤ 900 ∧ 0 ≤ (cnt letters r).2 ∧ (cnt letters r).2 ≤ 900
 | 0 => by simp [cnt]
 | r + 1 => by
  have h := nI letters r
  have h2 : 0 ≤ (cnt letters r).2 * (letters : Int) := Int.mul_nonneg h.2.2.1 (by omega)
  simp only [cnt]; omega
set_option maxHeartbeats 400000 in
theorem tM (n : Int) (w : World) : Calls Try.prog 51 #[.int .i64 n] w fun e w' => e = .returned (.int .i64 (min n 900)) ∧ w = w' := by
 go_enter Try.func51, Try.ntmps51
 go_wp2
 all_goals (go_ret; exact ⟨zY (by omega), rfl⟩)
set_option maxHeartbeats 400000 in
theorem nG (letters : Nat) (k : Int) (w : World) (h6 : letters ≤ 6) (hk : -1 ≤ k) (hk8 : k ≤ 8) :
  Calls Try.prog 50 #[.int .i64 letters, .int .i64 k] w fun e w' => e = .returned (.int .i64 (cnt letters (k + 1).toNat).1) ∧ w = w' := by
 obtain ⟨r, hr⟩ : ∃ r : Nat, k + 1 = r := ⟨(k + 1).toNat, by omega⟩
 have hr9 : r ≤ 9 := by omega
 have HR := Kh hr
 have e0 : (k + 1).toNat = r := by omega
 rw [e0]
 obtain rfl : k = (r : Int) - 1 := by omega
 clear e0 hr
 go_enter Try.func50, Try.ntmps50
 go_wp2
 go_loop [5, 6, 9] (fun t p i => ∃ n : Nat, n ≤ r ∧ i = .int .i64 n ∧ t = .int .i64 (cnt letters n).1 ∧ p = .int .i64 (cnt letters n).2) (fun _ _ i => r - (intOf i).toNat)
 case atStart => exact ⟨0, Nat.zero_le _, rfl, rfl, rfl⟩
 case round =>
  obtain ⟨n, hn, rfl, rfl, rfl⟩ := hrel
  have hb := nI letters n
  obtain ⟨t, ht⟩ : ∃ t, t = (cnt letters n).1 := ⟨_, rfl⟩
  obtain ⟨p, hp⟩ : ∃ p, p = (cnt letters n).2 := ⟨_, rfl⟩
  rw [← ht, ← hp] at hb ⊢
  have h1 : cnt letters (n + 1) = (min (t + p) 900, min (p * letters) 900) := by rw [ht, hp]; rfl
  have HT := Kh ht; have HP := Kh hp; have H1 := Kh h1
  obtain ⟨b1, b2, b3, b4⟩ := hb
  have hm1 : 0 ≤ p * (letters : Int) := Int.mul_nonneg b3 (by omega)
  have hm2 : p * (letters : Int) ≤ 5400 := by
   have := Int.mul_le_mul b4 (show (letters : Int) ≤ 6 by omega) (by omega) (by omega)
   omega
  clear ht hp h1
  by_cases hlt : n < r
  ·go_wp2_with fail
   refine (tM _ _).mono ?_
   rintro e w' ⟨rfl, rfl⟩
   go_wp2_with fail
   refine (tM _ _).mono ?_
   rintro e w' ⟨rfl, rfl⟩
   go_wp2
   go_round
   case rel => exact ⟨n + 1, by omega, by go_num, by rw [H1.out], by rw [H1.out]⟩
   case measure => simp [intOf]; omega
  ·go_wp2
   go_ret
   obtain rfl : n = r := by omega
   exact ⟨by rw [← HT.out]; rfl, rfl⟩
def chn (ne : Int) : Nat → Int × Int
 | 0 => (ne + 1, (ne + 1) * (ne + 1))
 | r + 1 => (min ((chn ne r).1 + (chn ne r).2) 900, min (chn ne r).2 900 * ne)
theorem lV (ne : Int) (h : 0 ≤ ne) (h9 : ne ≤ 900) : ∀ r, 0 ≤ (chn ne r).1 ∧ (chn ne r).1 ≤ 901 ∧ 0 ≤ (chn ne r).2 ∧ (chn ne r).2 ≤ 811801
 | 0 => by
  have h2 : (ne + 1) * (ne + 1) ≤ 901 * 901 := Int.mul_le_mul (by omega) (by omega) (by omega) (by omega)
  have h3 : 0 ≤ (ne + 1) * (ne + 1) := Int.mul_nonneg (by omega) (by omega)
  simp only [chn]; omega
 | r + 1 => by
  have hb := lV ne h h9 r
  have h2 : min (chn ne r).2 900 * ne ≤ 900 * 900 := Int.mul_le_mul (by omega) h9 h (by omega)
  have h3 : 0 ≤ min (chn ne r).2 900 * ne := Int.mul_nonneg (by omega) h
  simp only [chn]; omega
def lQ (kind : Int) (letters : Nat) (k m : Int) : Int :=
 let ne := (cnt letters (k + 1).toNat).1 - 1
 let sh := (cnt letters k.toNat).1
 if kind = 1 then ne + 1 else if kind = 2 ∨ kind = 3 then sh + ne else if kind = 4 then sh + 2 * ne else if kind = 5 then sh + 3 * ne else if kind = 6 then ne else (chn ne (m + 1).toNat).1
theorem cnt_pos (letters r : Nat) : 1 ≤ (cnt letters (r + 1)).1 := by
 induction r with
 | zero => show (1 : Int) ≤ min (0 + 1) 900; decide
 | succ r ih =>
  have := nI letters (r + 1)
  rw [cnt]; simp only; omega
set_option maxHeartbeats 1000000 in
theorem size_any (kind : Int) (letters : Nat) (k m : Int) (w : World) (h1 : 1 ≤ kind) (h7 : kind ≤ 7) (h6 : letters ≤ 6) (hk : 0 ≤ k) (hk8 : k ≤ 8) (hm : 0 ≤ m) (hm4 : m ≤ 4) :
  Calls Try.prog 26 #[.int .i64 kind, .int .i64 letters, .int .i64 k, .int .i64 m] w fun e w' => e = .returned (.int .i64 (lQ kind letters k m)) ∧ w = w' := by
 have hb1 := nI letters (k + 1).toNat
 have hb2 := nI letters k.toNat
 have hp : 1 ≤ (cnt letters (k + 1).toNat).1 := by
  rw [show (k + 1).toNat = k.toNat + 1 by omega]; exact cnt_pos _ _
 have c1 := fun w => nG letters k w h6 (by omega) hk8
 have c2 := fun w => nG letters (k - 1) w h6 (by omega) (by omega)
 rw [show k - 1 + 1 = k by omega] at c2
 have hz : ∀ a b, (cnt letters (k + 1).toNat).1 = a → (cnt letters k.toNat).1 = b → lQ kind letters k m = if kind = 1 then a - 1 + 1 else if kind = 2 ∨ kind = 3 then b + (a - 1) else if kind = 4 then b + 2 * (a - 1) else if kind = 5 then b + 3 * (a - 1) else if kind = 6 then a - 1 else (chn (a - 1) (m + 1).toNat).1 := by
  intro a b h h'; unfold lQ; rw [h, h']
 generalize (cnt letters (k + 1).toNat).1 = a at *
 generalize (cnt letters k.toNat).1 = b at *
 have hz := hz a b rfl rfl
 obtain ⟨a1, a2, _, _⟩ := hb1
 obtain ⟨b1, b2, _, _⟩ := hb2
 have C1 := Kh c1; have C2 := Kh c2; have HZ := Kh hz; clear c1 c2 hz
 have hkind : kind = 1 ∨ kind = 2 ∨ kind = 3 ∨ kind = 4 ∨ kind = 5 ∨ kind = 6 ∨ kind = 7 := by omega
 rcases hkind with rfl | rfl | rfl | rfl | rfl | rfl | rfl
 case inr.inr.inr.inr.inr.inr =>
  obtain ⟨q, rfl⟩ : ∃ q : Nat, m = q := ⟨m.toNat, by omega⟩
  obtain ⟨ne, rfl⟩ : ∃ ne, a = ne + 1 := ⟨a - 1, by omega⟩
  have hmul1 : 0 ≤ (ne + 1) * (ne + 1) := Int.mul_nonneg (by omega) (by omega)
  have hmul2 : (ne + 1) * (ne + 1) ≤ 901 * 901 := Int.mul_le_mul (by omega) (by omega) (by omega) (by omega)
  go_enter Try.func26, Try.ntmps26
  go_wp2_with fail
  refine (C1.out _).mono ?_
  rintro e w' ⟨rfl, rfl⟩
  go_wp2_with fail
  refine (C2.out _).mono ?_
  rintro e w' ⟨rfl, rfl⟩
  go_wp2
  go_loop [11, 12, 56] (fun t p i => ∃ n : Nat, n ≤ q + 1 ∧ i = .int .i64 n ∧ t = .int .i64 (chn ne n).1 ∧ p = .int .i64 (chn ne n).2) (fun _ _ i => q + 1 - (intOf i).toNat)
  case atStart => exact ⟨0, Nat.zero_le _, rfl, rfl, rfl⟩
  case round =>
   obtain ⟨n, hn, rfl, rfl, rfl⟩ := hrel
   have hb := lV ne (by omega) (by omega) n
   obtain ⟨t, ht⟩ : ∃ t, t = (chn ne n).1 := ⟨_, rfl⟩
   obtain ⟨p, hp⟩ : ∃ p, p = (chn ne n).2 := ⟨_, rfl⟩
   rw [← ht, ← hp] at hb ⊢
   have h1 : chn ne (n + 1) = (min (t + p) 900, min p 900 * ne) := by rw [ht, hp]; rfl
   have HT := Kh ht; have HP := Kh hp; have H1 := Kh h1
   obtain ⟨b1, b2, b3, b4⟩ := hb
   have hm1 : 0 ≤ min p 900 * ne := Int.mul_nonneg (by omega) (by omega)
   have hm2 : min p 900 * ne ≤ 900 * 900 := Int.mul_le_mul (by omega) (by omega) (by omega) (by omega)
   clear ht hp h1 hmul1 hmul2
   by_cases hlt : n < q + 1
   ·go_wp2_with fail
    refine (tM _ _).mono ?_
    rintro e w' ⟨rfl, rfl⟩
    go_wp2_with fail
    refine (tM _ _).mono ?_
    rintro e w' ⟨rfl, rfl⟩
    go_wp2
    go_round
    case rel => exact ⟨n + 1, by omega, by go_num, by rw [H1.out], by rw [H1.out]⟩
    case measure => simp [intOf]; omega
   ·go_wp2
    go_ret
    obtain rfl : n = q + 1 := by omega
    exact ⟨zY (by first | exact HT.out | (rw [HZ.out]; simp only [Int.reduceEq, if_false, or_self, show ne + 1 - 1 = ne by omega, show ((q : Int) + 1).toNat = q + 1 by omega]; exact HT.out)), rfl⟩
 all_goals
  go_enter Try.func26, Try.ntmps26
  go_wp2_with fail
  refine (C1.out _).mono ?_
  rintro e w' ⟨rfl, rfl⟩
  go_wp2_with fail
  refine (C2.out _).mono ?_
  rintro e w' ⟨rfl, rfl⟩
  go_wp2
  go_ret
  exact ⟨zY (by rw [HZ.out]; simp), rfl⟩
def qH (kind letters k m : Int) : Bool :=
 decide (1 ≤ kind ∧ kind ≤ 7 ∧ 1 ≤ letters ∧ letters ≤ 6 ∧ (if kind = 1 then 0 else 1) ≤ k ∧ k ≤ 8 ∧ (if kind = 7 then 0 ≤ m ∧ m ≤ 4 else m = 0))
set_option maxHeartbeats 400000 in
theorem validOrder_any (kind letters k m : Int) (w : World) :
  Calls Try.prog 25 #[.int .i64 kind, .int .i64 letters, .int .i64 k, .int .i64 m] w fun e w' => e = .returned (.bool (qH kind letters k m)) ∧ w = w' := by
 by_cases h1 : kind = 1
 ·subst h1
  go_enter Try.func25, Try.ntmps25
  go_wp2
  all_goals (go_ret; refine ⟨yY ?_, rfl⟩; unfold qH; first | (symm; rw [decide_eq_false_iff_not]; simp; omega) | (rw [eq_comm, Bool.eq_iff_iff]; simp; omega))
 ·by_cases h7 : kind = 7
  ·subst h7
   go_enter Try.func25, Try.ntmps25
   go_wp2
   all_goals (go_ret; refine ⟨yY ?_, rfl⟩; unfold qH; first | (symm; rw [decide_eq_false_iff_not]; simp; omega) | (rw [eq_comm, Bool.eq_iff_iff]; simp; omega))
  ·have h1' : (kind == 1) = false := by simpa using h1
   have h7' : (kind == 7) = false := by simpa using h7
   have H1 := Kh h1; have H7 := Kh h7; clear h1 h7
   go_enter Try.func25, Try.ntmps25
   go_wp2
   all_goals (go_ret; refine ⟨yY ?_, rfl⟩; unfold qH; simp only [if_neg H1.out, if_neg H7.out]; first | (symm; rw [decide_eq_false_iff_not]; omega) | (rw [eq_comm, Bool.eq_iff_iff]; simp; omega))
theorem Row.found {B : Nat} {w : World} {v : Value} {xs : List Value} (h : Row B w v xs) (hx : 0 < xs.length) : ∃ b off cap, v = .slice (some ⟨b, off, none⟩) xs.length cap ∧ xs.length ≤ cap ∧ cap ≤ maxLen ∧ xN w b off xs := by
 rcases h with ⟨a, c, rfl, rfl⟩ | ⟨b, off, cap, rfl, _, h1, h2, h3⟩
 ·simp at hx
 ·exact ⟨b, off, cap, rfl, h1, h2, h3⟩
set_option maxHeartbeats 400000 in
theorem oP (B1 B2 : Nat) (v1 v2 : Value) (ls : List (List Int)) (w : World) (h1 : Row B1 w v1 (strs ls)) (h2 : Row B2 w v2 (strs ls)) (hl : ls.length ≤ 9223372036854775807) :
  Calls Try.prog 34 #[v1, v2] w fun e w' => e = .returned (.bool true) ∧ ∃ m, w' = w.drewN m := by
 by_cases h0 : 0 < ls.length
 ·obtain ⟨b1, o1, c1, rfl, hc1, hm1, r1⟩ := h1.found (by simpa [strs] using h0)
  obtain ⟨b2, o2, c2, rfl, hc2, hm2, r2⟩ := h2.found (by simpa [strs] using h0)
  rw [show (strs ls).length = ls.length by simp [strs]] at *
  have hn : ((ls.length : Int) != ls.length) = false := by simp
  clear h1 h2
  go_enter Try.func34, Try.ntmps34
  go_wp2
  go_loopw [13] (fun i wr => ∃ k m : Nat, i = .int .i64 k ∧ k ≤ ls.length ∧ wr = w.drewN m) (fun i _ => ls.length - (intOf i).toNat)
  case atStart => exact ⟨0, 0, rfl, Nat.zero_le _, rfl⟩
  case round =>
   obtain ⟨k, m, rfl, hk, rfl⟩ := hrel
   by_cases hlt : k < ls.length
   ·have q1 := r1.map k hlt
    have q2 := r2.map k hlt
    have hlt' : (k : Int) < ls.length := by omega
    go_wp2
    go_quiet (fail)
    go_wp2
    go_roundw
    case rel => exact ⟨k + 1, _, by go_num, by omega, rfl⟩
    case measure => simp [intOf]; omega
   ·go_wp2
    go_ret
    exact ⟨rfl, m, rfl⟩
 ·have hz : ls = [] := List.eq_nil_of_length_eq_zero (by omega)
  subst hz
  obtain ⟨a1, c1, rfl⟩ := h1.shape
  obtain ⟨a2, c2, rfl⟩ := h2.shape
  rw [show (strs []).length = 0 by rfl] at *
  clear h1 h2
  go_enter Try.func34, Try.ntmps34
  go_wp2
  refine wp_loop_rounds 1 ?_
  rw [rounds_succ]
  go_wp2
  go_ret
  exact ⟨rfl, 0, rfl⟩
set_option maxHeartbeats 400000 in
theorem same33_any (B1 B2 : Nat) (v1 v2 : Value) (s1 s2 : List Value) (ps : List (List (List Int))) (w : World) (h1 : Row B1 w v1 s1) (h2 : Row B2 w v2 s2) (k1 : wX B1 9 strs w s1 ps) (k2 : wX B2 9 strs w s2 ps)
  (hl : ps.length ≤ 9223372036854775807) (hl2 : ∀ p ∈ ps, p.length ≤ 9223372036854775807) :
  Calls Try.prog 13 #[v1, v2] w fun e w' => e = .returned (.bool true) ∧ ∃ m, w' = w.drewN m := by
 have e1 := k1.1
 have e2 := k2.1
 by_cases h0 : 0 < ps.length
 ·obtain ⟨b1, o1, c1, rfl, hc1, hm1, r1⟩ := h1.found (by omega)
  obtain ⟨b2, o2, c2, rfl, hc2, hm2, r2⟩ := h2.found (by omega)
  rw [e1] at hc1 ⊢
  rw [e2] at hc2 ⊢
  have hn : ((ps.length : Int) != ps.length) = false := by simp
  have E1 := Kh e1; have E2 := Kh e2
  clear h1 h2 e1 e2
  go_enter Try.func13, Try.ntmps13
  go_wp2
  go_loopw [13] (fun i wr => ∃ k m : Nat, i = .int .i64 k ∧ k ≤ ps.length ∧ wr = w.drewN m) (fun i _ => ps.length - (intOf i).toNat)
  case atStart => exact ⟨0, 0, rfl, Nat.zero_le _, rfl⟩
  case round =>
   obtain ⟨k, m, rfl, hk, rfl⟩ := hrel
   by_cases hlt : k < ps.length
   ·have i1 : k < s1.length := by rw [E1.out]; exact hlt
    have i2 : k < s2.length := by rw [E2.out]; exact hlt
    have q1 := r1.2 k i1
    have q2 := r2.2 k i2
    have t1 := fun n => ((k1.2 k i1 hlt).row.of_heap (w' := w.drewN n) rfl)
    have t2 := fun n => ((k2.2 k i2 hlt).row.of_heap (w' := w.drewN n) rfl)
    obtain ⟨x1, y1, z1⟩ := (k1.2 k i1 hlt).row.shape
    obtain ⟨x2, y2, z2⟩ := (k2.2 k i2 hlt).row.shape
    have hlt' : (k : Int) < ps.length := by omega
    have hpl := hl2 ps[k] (List.getElem_mem hlt)
    rw [z1] at q1 t1
    rw [z2] at q2 t2
    have T1 := Kh t1; have T2 := Kh t2
    clear t1 t2 z1 z2
    go_wp2
    go_quiet ((go_at_call 34; first | exact Calls.quiet_of (oP _ _ _ _ _ _ (T1.out _) (T2.out _) hpl) | exact quiet_add (oP _ _ _ _ _ _ (T1.out _) (T2.out _) hpl)))
    go_wp2
    go_roundw
    case rel => exact ⟨k + 1, _, by go_num, by omega, rfl⟩
    case measure => simp [intOf]; omega
   ·go_wp2
    go_ret
    exact ⟨rfl, m, rfl⟩
 ·have hz : ps = [] := List.eq_nil_of_length_eq_zero (by omega)
  subst hz
  have z1 : s1 = [] := List.eq_nil_of_length_eq_zero e1
  have z2 : s2 = [] := List.eq_nil_of_length_eq_zero e2
  subst z1 z2
  obtain ⟨a1, c1, rfl⟩ := h1.shape
  obtain ⟨a2, c2, rfl⟩ := h2.shape
  rw [show ([] : List Value).length = 0 by rfl] at *
  clear h1 h2 k1 k2 e1 e2
  go_enter Try.func13, Try.ntmps13
  go_wp2
  refine wp_loop_rounds 1 ?_
  rw [rounds_succ]
  go_wp2
  go_ret
  exact ⟨rfl, 0, rfl⟩
def rX : List (List (List Int)) := [[[], [97], []], [[], [97], [97], []]]
theorem famKnown_eq : ((upTo 1 (2 + 1)).drop 1).map vE = rX := by decide
def FamKnown (w : World) (e : Ending) (w' : World) : Prop :=
 ∃ (sa : Option Addr) (sc : Nat) (svs : List Value), e = .returned (.tuple #[.slice sa 2 sc, .int .i64 0]) ∧ RowT w'.heap.size 36 w' (.slice sa 2 sc) svs ∧ wX w'.heap.size 9 strs w' svs rX ∧ w.grownBy w' none
set_option maxHeartbeats 400000 in
theorem family_known (w : World) : Calls Try.prog 11 #[.int .i64 6, .int .i64 1, .int .i64 2, .int .i64 0] w (FamKnown w) := by
 have c1 := fun w => validOrder_any 6 1 2 0 w
 have c2 := fun w => size_any 6 1 2 0 w (by omega) (by omega) (by omega) (by omega) (by omega) (by omega) (by omega)
 have c3 := fun w => pieces_any 1 2 w (by omega) (by omega) (by omega) (by omega)
 rw [show qH 6 1 2 0 = true by decide] at c1
 rw [show lQ 6 1 2 0 = 2 by decide] at c2
 rw [famKnown_eq] at c3
 have C1 := Kh c1; have C2 := Kh c2; have C3 := Kh c3; clear c1 c2 c3
 go_enter Try.func11, Try.ntmps11
 go_wp2_with fail
 refine (C1.out _).mono ?_
 rintro e w1 ⟨rfl, rfl⟩
 go_wp2_with fail
 refine (C2.out _).mono ?_
 rintro e w1 ⟨rfl, rfl⟩
 go_wp2_with fail
 refine (C3.out _).mono ?_
 rintro e w1 ⟨sa, sc, svs, rfl, h1, h2, h3⟩
 go_wp2
 go_ret2
 exact ⟨sa, sc, svs, rfl, h1, h2, h3⟩
theorem match_yes : yH [⟨#[97]⟩, ⟨#[98]⟩, ⟨#[]⟩] ⟨#[97, 97, 98]⟩ = true := by decide +kernel
theorem match_no : yH [⟨#[97, 98]⟩, ⟨#[98, 97]⟩] ⟨#[97, 98, 97]⟩ = false := by decide +kernel
def xY (w : World) : World :=
  ((w.alloc (.cells #[.string ⟨#[]⟩, .string ⟨#[97]⟩, .string ⟨#[]⟩] 9)).alloc (.cells #[.string ⟨#[]⟩, .string ⟨#[97]⟩, .string ⟨#[97]⟩, .string ⟨#[]⟩] 9)).alloc
    (.cells #[.slice (some ⟨w.heap.size, 0, none⟩) 3 3, .slice (some ⟨w.heap.size + 1, 0, none⟩) 4 4] 36)
theorem RowT.litK {B : Nat} {e : TypeId} {w : World} {b : Nat} {cs : Array Value} {m : Nat × Nat} {n : Nat} (h : w.heap[b]? = some (.cells cs e m)) (hb : b < B) (hn : cs.size = n) (hm : n ≤ maxLen) : RowT B e w (.slice (some ⟨b, 0, none⟩) n n) cs.toList :=
 .inr ⟨b, 0, n, cs, m, by rw [Array.length_toList, hn], hb, by rw [Array.length_toList, hn]; exact Nat.le_refl _, hm, h, fun i hi => by rw [Nat.zero_add, ← Array.getElem?_toList, List.getElem?_eq_getElem hi]⟩
theorem lit_known (w : World) :
  Row (xY w).heap.size (xY w) (.slice (some ⟨w.heap.size + 1 + 1, 0, none⟩) 2 2) [.slice (some ⟨w.heap.size, 0, none⟩) 3 3, .slice (some ⟨w.heap.size + 1, 0, none⟩) 4 4] ∧
  wX (xY w).heap.size 9 strs (xY w) [.slice (some ⟨w.heap.size, 0, none⟩) 3 3, .slice (some ⟨w.heap.size + 1, 0, none⟩) 4 4] rX := by
 have hs : (xY w).heap.size = w.heap.size + 3 := by simp [xY]
 have b0 : (xY w).heap[w.heap.size]? = some (.cells #[.string ⟨#[]⟩, .string ⟨#[97]⟩, .string ⟨#[]⟩] 9 (0, 0)) :=
  zA (heap_alloc_new w _) (yO (World.grownBy_alloc _ _ none) _) (by simp)
 have b1 : (xY w).heap[w.heap.size + 1]? = some (.cells #[.string ⟨#[]⟩, .string ⟨#[97]⟩, .string ⟨#[97]⟩, .string ⟨#[]⟩] 9 (0, 0)) :=
  zA (by simpa using heap_alloc_new (w.alloc (.cells #[.string ⟨#[]⟩, .string ⟨#[97]⟩, .string ⟨#[]⟩] 9)) (.cells #[.string ⟨#[]⟩, .string ⟨#[97]⟩, .string ⟨#[97]⟩, .string ⟨#[]⟩] 9)) (World.grownBy_alloc _ _ none) (by simp)
 have b2 : (xY w).heap[w.heap.size + 1 + 1]? = some (.cells #[.slice (some ⟨w.heap.size, 0, none⟩) 3 3, .slice (some ⟨w.heap.size + 1, 0, none⟩) 4 4] 36 (0, 0)) := by
  have := heap_alloc_new ((w.alloc (.cells #[.string ⟨#[]⟩, .string ⟨#[97]⟩, .string ⟨#[]⟩] 9)).alloc (.cells #[.string ⟨#[]⟩, .string ⟨#[97]⟩, .string ⟨#[97]⟩, .string ⟨#[]⟩] 9)) (.cells #[.slice (some ⟨w.heap.size, 0, none⟩) 3 3, .slice (some ⟨w.heap.size + 1, 0, none⟩) 4 4] 36)
  simpa [xY] using this
 refine ⟨(RowT.litK (n := 2) b2 (by omega) rfl (by unfold maxLen; omega)).row, rfl, fun i h h' => ?_⟩
 match i, h with
 | 0, _ => exact RowT.litK (n := 3) b0 (by omega) rfl (by unfold maxLen; omega)
 | 1, _ => exact RowT.litK (n := 4) b1 (by omega) rfl (by unfold maxLen; omega)
theorem small3 (a b c : ByteArray) (ha : a.size ≤ 140737488351232) (hb : b.size ≤ 140737488351232) (hc : c.size ≤ 140737488351232) : ∀ i (h : i < [a, b, c].length), [a, b, c][i].size ≤ 140737488351232
 | 0, _ => ha
 | 1, _ => hb
 | 2, _ => hc
theorem small2 (a b : ByteArray) (ha : a.size ≤ 140737488351232) (hb : b.size ≤ 140737488351232) : ∀ i (h : i < [a, b].length), [a, b][i].size ≤ 140737488351232
 | 0, _ => ha
 | 1, _ => hb
set_option maxRecDepth 100000 in
set_option maxHeartbeats 400000 in
theorem known_any (w : World) (hL : SomeLen w) : Calls Try.prog 14 #[] w fun e w' => e = .returned (.bool true) ∧ w.grownBy w' none := by
 go_enter Try.func14, Try.ntmps14
 go_wp2_with fail
 refine (family_known _).mono ?_
 rintro e w1 ⟨sa, sc, svs, rfl, hT, hS, hg1⟩
 have hL1 := hL.kept hg1 (by simp)
 go_wp2_with fail
 refine (qR w1.heap.size 0 3 [⟨#[97]⟩, ⟨#[98]⟩, ⟨#[]⟩] ⟨#[97, 97, 98]⟩ _ (by decide) (by unfold maxLen; omega) (Arr.new w1 _ _).row (small3 _ _ _ (by decide) (by decide) (by decide)) (by decide) (hL1.kept (World.grownBy_alloc _ _ none) (by simp))).mono ?_
 rw [match_yes]
 rintro e w2 ⟨rfl, hg2⟩
 have hg2' := zH (World.grownBy_alloc w1 (.cells #[.string ⟨#[97]⟩, .string ⟨#[98]⟩, .string ⟨#[]⟩] 9) none) hg2
 have hL2 := hL1.kept hg2' (by simp)
 go_wp2_with fail
 refine (qR w2.heap.size 0 2 [⟨#[97, 98]⟩, ⟨#[98, 97]⟩] ⟨#[97, 98, 97]⟩ _ (by decide) (by unfold maxLen; omega) (Arr.new w2 _ _).row (small2 _ _ (by decide) (by decide)) (by decide) (hL2.kept (World.grownBy_alloc _ _ none) (by simp))).mono ?_
 rw [match_no]
 rintro e w3 ⟨rfl, hg3⟩
 have hg3' := zH (World.grownBy_alloc w2 (.cells #[.string ⟨#[97, 98]⟩, .string ⟨#[98, 97]⟩] 9) none) hg3
 have hg13 := zH hg2' hg3'
 have hT3 := hT.kept hg13 (by simp)
 have hS3 := hS.kept hg13 (by simp)
 have hgw := zH hg1 hg13
 have HS3 := Kh hS3
 clear hT hS hg2 hg2' hg3 hg3' hg13 hS3
 go_wp2_with fail
 obtain ⟨r2, k2⟩ := lit_known w3
 have g3 : w3.grownBy (xY w3) none := yO (yO (World.grownBy_alloc w3 _ _) _) _
 have gw3 := zH hgw g3
 have hsz := (zH (row := none) (World.grownBy_alloc w3 (.cells #[] 0) none) (yJ _ _)).size
 refine (same33_any _ _ _ _ svs _ rX _ (hT3.kept g3 (by simp)).row r2 (HS3.out.kept g3 (by simp)) k2 (by decide) (by decide)).mono ?_
 rintro e w4 ⟨rfl, m, rfl⟩
 go_wp2
 go_ret
 exact ⟨rfl, wK gw3 rfl rfl rfl rfl⟩
set_option maxRecDepth 100000 in
set_option maxHeartbeats 1000000 in
theorem agrees_walk (w : World) (v0 v1 : Value) (z0 z1 : List Int) (h0 : Row w.heap.size w v0 (z0.map (Value.int .i64))) (h1 : Row w.heap.size w v1 (z1.map (Value.int .i64))) (hL : SomeLen w) :
  Calls Try.prog 9 #[v0, v1] w fun e w' => e = .returned (.bool true) ∧ w.grownBy w' none := by
 have HL := Kh hL; have H1 := Kh h1
 clear hL
 go_enter Try.func9, Try.ntmps9
 go_wp2_with fail
 refine (lH w.heap.size w v0 z0 h0 (Nat.le_refl _)).mono ?_
 rintro e w1 ⟨rfl, hT1, hg1⟩
 go_wp2_with fail
 refine (rV w.heap.size w.heap.size w1 2 (by omega) hT1).mono ?_
 rintro e w2 ⟨r, rfl, hr0, hr2, hT2, hg2⟩
 replace hr2 := hr2 (by omega)
 have gw2 : w.grownBy w2 none := zB hg1 hg2 (by simp)
 obtain ⟨k, hk⟩ : ∃ k : Nat, 1 + r = (k : Int) := ⟨(1 + r).toNat, by omega⟩
 have hk1 : 1 ≤ k := by omega
 have hk2 : k ≤ 2 := by omega
 have hkl1 : (1 : Int) ≤ k := by omega
 have hkl6 : (k : Int) ≤ 6 := by omega
 clear hT1 hg1
 go_wp2_with fail
 refine (pattern_any w.heap.size w.heap.size w2 (k : Int) hkl1 hkl6 hT2).mono ?_
 rintro e w3 ⟨pv, bs, rfl, hrow, hgood, hT3, hg3⟩
 have gw3 : w.grownBy w3 none := zB gw2 hg3 (by simp)
 have hb0 : 0 < (strs bs).length := by rw [vB]; exact List.length_pos_iff.2 hgood.2.1
 obtain ⟨b, off, cap, rfl, hbB, hbc, hbm, hra⟩ := hrow.some_ hb0
 rw [vB] at *
 obtain ⟨bl, hbl⟩ : ∃ bl, bl = bs.length := ⟨_, rfl⟩
 rw [← hbl] at hrow hbc ⊢
 have HBL := Kh hbl
 have HROW := Kh hrow; have HGD := Kh hgood; have GW3 := Kh gw3
 have HRA3 := Kh hra; have HBM := Kh hbm
 have hcm' : cap ≤ 9223372036854775807 := by unfold maxLen at hbm; omega
 clear hT2 hg2 hg3 hrow hgood hT3 gw2 hk hr0 hr2 hra hbm hbB hbl hb0
 obtain ⟨P, hP⟩ : ∃ P, P = w3.heap.size := ⟨_, rfl⟩
 obtain ⟨wp, hwp⟩ : ∃ wp, wp = w3.alloc (.cells #[.slice (some ⟨b, off, none⟩) bl cap] 36) := ⟨_, rfl⟩
 have hgp := World.grownBy_alloc w3 (.cells #[.slice (some ⟨b, off, none⟩) bl cap] 36) none
 have hbp := heap_alloc_new w3 (.cells #[.slice (some ⟨b, off, none⟩) bl cap] 36)
 rw [← hwp] at hgp hbp
 rw [← hP] at hbp
 have GWP := Kh (zB GW3.out hgp (by simp)); have HG3P := Kh hgp
 have HRP := Kh (HROW.out.kept hgp (by simp))
 have HBP := Kh hbp; have HWP := Kh hwp; have HPE := Kh hP
 have hwz := GW3.out.size
 have hPz := zJ hbp
 have hP3 : w3.heap.size ≤ P := by omega
 clear hgp hbp hwp hP
 go_upto_region 4 with fail
 rw [← HWP.out, ← HPE.out]
 go_wp2_with fail
 refine (lH w.heap.size wp v1 z1 (H1.out.kept GWP.out (by simp)) GWP.out.size).mono ?_
 rintro e w4 ⟨rfl, hT4, hg4⟩
 have GW4 := Kh (zB GWP.out hg4 (by simp)); have HG34 := Kh (zB HG3P.out hg4 (by simp))
 have HB4 := Kh (zA HBP.out hg4 (by simp)); have HR4 := Kh (HRP.out.kept hg4 (by simp))
 have hz4 := hg4.size
 have hTne : wp.heap.size ≠ P := by omega
 have hTge : w3.heap.size ≤ wp.heap.size := by omega
 clear hg4 HBP HRP
 go_wp2_with fail
 refine (pN w.heap.size wp.heap.size w4 (k : Int) 14 hkl1 hkl6 (by omega) (by omega) hT4).mono ?_
 rintro e w5 ⟨l, rfl, hl14, hlok, hT5, hg5⟩
 have GW5 := Kh (zB GW4.out hg5 (fun q e => by have e : wp.heap.size = q := Option.some.inj e; omega))
 have HG35 := Kh (zB HG34.out hg5 (fun q e => by have e : wp.heap.size = q := Option.some.inj e; omega))
 have HB5 := Kh (zA HB4.out hg5 (fun e => hTne (Option.some.inj e))); have HR5 := Kh (HR4.out.kept hg5 (fun q e => by have e : wp.heap.size = q := Option.some.inj e; omega))
 have hz5 := hg5.size
 have hsl : (strOfNums l).size ≤ 14 := by rw [strOfNums_size]; omega
 have HWV : Hid (zM (strOfNums l) (k : Int) = true) := Kh (sG hlok hkl1 hkl6 (by omega))
 obtain ⟨s, hs⟩ : ∃ s, s = strOfNums l := ⟨_, rfl⟩
 rw [← hs] at HWV hsl ⊢
 clear hT4 hT5 hg5 hlok hl14 hs HB4 HR4 HWP HPE
 obtain ⟨ps, hps⟩ : ∃ ps, ps = bs.map strOfNums := ⟨_, rfl⟩
 have hpl : ps.length = bl := by rw [hps, List.length_map, HBL.out]
 have hstr : strs bs = txtV ps := by rw [hps]; simp [strs, txtV]
 have HPV : Hid (zN ps (k : Int) = 0) := Kh (by rw [hps]; exact patValidate_ofL HGD.out hkl1 hkl6)
 rw [hstr] at HR5
 obtain ⟨hq1, hq6, hp0, hp8, hpt, hpw, _⟩ := mT HPV.out
 have HSZ : Hid (∀ i (hi : i < ps.length), ps[i].size ≤ 64) := Kh (fun i hi => by have := oK hi; omega)
 have HROW5 := Kh HR5.out
 have G35 := Kh (show w3.grownBy w5 none from HG35.out)
 have hra5 := HRA3.out.kept G35.out (by simp)
 rw [hstr] at hra5
 have HRA := Kh hra5
 have hcp : w5.cell? ⟨P, 0, none⟩ = some (.slice (some ⟨b, off, none⟩) bl cap) := by simpa using zO HB5.out 0 (by simp)
 have HPL := Kh hpl
 rw [← hpl] at HROW5
 clear hpl hpw hpt hq1 hq6 hps hstr hra5 HROW HGD
 have HPD := Kh (pdfa_any w3.heap.size w5 _ ps (k : Int) HROW5.out (by omega) (fun i hi => by have := HSZ.out i hi; unfold maxLen; omega))
 rw [HPL.out] at HPD
 go_wp2_with fail
 refine HPD.out.mono ?_
 rintro e w6 ⟨v6, rfl, hd6, hg6⟩
 rw [sN.2 HPV.out]
 obtain ⟨n, hn66, hvd⟩ := patDfa_vd HPV.out
 obtain ⟨D, hD⟩ : ∃ D, D = tT ps (k : Int) := ⟨_, rfl⟩
 rw [← hD] at hd6 hvd
 have HDE := Kh hD; have HVD := Kh hvd; have HD6 := Kh hd6
 obtain ⟨fv, nv, rfl, hfv, hnv⟩ := hd6
 obtain ⟨fa, fc, rfl⟩ := hfv.shape
 obtain ⟨na, nc, rfl⟩ := hnv.shape
 obtain ⟨fl, hfl⟩ : ∃ fl, fl = (bls D.final).length := ⟨_, rfl⟩
 obtain ⟨nl, hnl⟩ : ∃ nl, nl = D.next.length := ⟨_, rfl⟩
 rw [← hfl, ← hnl] at HD6 ⊢
 obtain ⟨LT, hLT⟩ : ∃ LT, LT = D.letters := ⟨_, rfl⟩
 obtain ⟨ST, hST⟩ : ∃ ST, ST = D.start := ⟨_, rfl⟩
 rw [← hLT, ← hST] at HD6 ⊢
 obtain ⟨Q, hQ⟩ : ∃ Q, Q = w6.heap.size := ⟨_, rfl⟩
 obtain ⟨wo, hwo⟩ : ∃ wo, wo = w6.alloc (.cells #[.int .i64 LT, .int .i64 ST, .slice fa fl fc, .slice na nl nc] 49) := ⟨_, rfl⟩
 have hgo := World.grownBy_alloc w6 (.cells #[.int .i64 LT, .int .i64 ST, .slice fa fl fc, .slice na nl nc] 49) none
 have hbo := heap_alloc_new w6 (.cells #[.int .i64 LT, .int .i64 ST, .slice fa fl fc, .slice na nl nc] 49)
 rw [← hwo] at hgo hbo
 rw [← hQ] at hbo
 have HWO := Kh hwo; have HQE := Kh hQ; have HBO := Kh hbo
 have G5o := Kh (zB hg6 hgo (by simp))
 have GWo := Kh (zB GW5.out G5o.out (by simp))
 have HDo := Kh (HD6.out.kept hgo (by simp))
 have HLo := Kh (HL.out.kept GWo.out (by simp))
 have hz6 := hgo.size
 have HA : Hid (∀ W : World, wo.grownBy W none → Calls Try.prog 24 #[.agg #[.int .i64 LT, .int .i64 ST, .slice fa fl fc, .slice na nl nc], .string s] W fun e w' => e = .returned (.bool (yH ps s)) ∧ wo.grownBy w' none) := Kh (fun W hW => by
  refine (accepts_any w6.heap.size W _ D n k s (Nat.le_trans hz6 hW.size) (HDo.out.kept hW (by simp)) HVD.out (by omega) HWV.out).mono fun e w' ⟨he, hg⟩ => ⟨?_, zH hW hg⟩
  rw [he, HDE.out, patDfa_acc HPV.out HWV.out])
 have HM : Hid (∀ W : World, wo.grownBy W none → Calls Try.prog 19 #[.agg #[.slice (some ⟨b, off, none⟩) bl cap], .string s] W fun e w' => e = .returned (.bool (yH ps s)) ∧ wo.grownBy w' none) := Kh (fun W hW => by
  have hm9 := qR b off cap ps s W (by rw [HPL.out]; exact hbc) HBM.out ((HRA.out.kept G5o.out (by simp)).kept hW (by simp)) (fun i hi => by have := HSZ.out i hi; omega) (by omega) (HLo.out.kept hW (by simp))
  rw [HPL.out] at hm9
  exact hm9.mono fun e w' ⟨he, hg⟩ => ⟨he, zH hW hg⟩)
 have HK : Hid (∀ W : World, wo.grownBy W none → Calls Try.prog 14 #[] W fun e w' => e = .returned (.bool true) ∧ wo.grownBy w' none) := Kh (fun W hW =>
  (known_any W (HLo.out.kept hW (by simp))).mono fun e w' ⟨he, hg⟩ => ⟨he, zH hW hg⟩)
 have HC : Hid (∀ W : World, wo.grownBy W none → W.cell? ⟨P, 0, none⟩ = some (.slice (some ⟨b, off, none⟩) bl cap) ∧ W.cell? ⟨Q, 0, none⟩ = some (.int .i64 LT) ∧ W.cell? ⟨Q, 1, none⟩ = some (.int .i64 ST) ∧ W.cell? ⟨Q, 2, none⟩ = some (.slice fa fl fc) ∧ W.cell? ⟨Q, 3, none⟩ = some (.slice na nl nc)) := Kh (fun W hW => by
  have q1 := zO (zA (zA HB5.out G5o.out (by simp)) hW (by simp)) 0 (by simp)
  exact ⟨by simpa using q1, zF (zA HBO.out hW (by simp))⟩)
 obtain ⟨mm, hmm⟩ : ∃ m, m = yH ps s := ⟨_, rfl⟩
 rw [← hmm] at HA HM
 obtain ⟨y0, y1, y2, y3, y4⟩ := HC.out wo (yJ _ _)
 have GA : wo.grownBy wo.drew none := zW _ _
 have emm : (mm == mm) = true := by simp
 clear hmm hvd hD hfv hnv hfl hnl hLT hST hQ hwo hgo hbo hg6 hcp HPD HDo HD6 HVD HDE
 go_upto_region 6 with fail
 rw [← HWO.out, ← HQE.out]
 go_region_held3 (fun w' => w'.cell? ⟨P, 0, none⟩ = some (.slice (some ⟨b, off, none⟩) bl cap) ∧ w'.cell? ⟨Q, 0, none⟩ = some (.int .i64 LT) ∧ w'.cell? ⟨Q, 1, none⟩ = some (.int .i64 ST) ∧ w'.cell? ⟨Q, 2, none⟩ = some (.slice fa fl fc) ∧ w'.cell? ⟨Q, 3, none⟩ = some (.slice na nl nc))
  (first | go_keep | exact HC.out _ hG7 | exact HC.out _ hG8 | exact HC.out _ hG9 | fail)
  (first | (go_at_call 24; (with_reducible refine (HA.out _ GA).mono ?_); rintro e w7 ⟨rfl, hG7⟩) | (go_at_call 19; (with_reducible refine (HM.out _ hG7).mono ?_); rintro e w8 ⟨rfl, hG8⟩) | (go_at_call 14; refine (HK.out _ hG8).mono ?_; rintro e w9 ⟨rfl, hG9⟩) | fail)
 go_wp2
 go_ret
 exact ⟨rfl, zB GWo.out hG9 (by simp)⟩
theorem someLen_of_shaped {w : World} (h : w.ShapedOpen Try.prog) : SomeLen w := by
 obtain ⟨m, hm⟩ := Go.Proofs.cell_of_shapedOpen_int (P := Try.prog) (w := w) (g := 0) (t := 3) (zero := #[.int .i64 0]) (k := .i64) h (of_decide_eq_true (by kernel_rfl)) (by kernel_rfl) rfl (by kernel_rfl) (by kernel_rfl) Try.underlying3
 exact ⟨World.block_lt_of_cell? w _ hm, m, hm⟩
end Go.Proofs.Ytgbfaggnnfoamaa
