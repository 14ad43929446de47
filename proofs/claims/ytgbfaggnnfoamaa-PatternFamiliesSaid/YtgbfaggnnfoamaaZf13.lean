/- Part 13 of the proof: FamCnt. -/
import Derived.Test.YtgbfaggnnfoamaaZf12
set_option linter.unusedVariables false
set_option linter.unusedSimpArgs false
namespace Go.Proofs.Ytgbfaggnnfoamaa
def zQ (letters k : Nat) : List (List Int) := upTo letters (k + 1)
def famP (kind : Int) (letters k m : Nat) : List (List (List Int)) :=
 let W := zQ letters k
 let S := upTo letters k
 if kind = 1 then W.map oneB else if kind = 2 then S.map oneB ++ (W.drop 1).map preB else if kind = 3 then S.map oneB ++ (W.drop 1).map sufB
 else if kind = 4 then S.map oneB ++ (W.drop 1).map sufB ++ (W.drop 1).map preB else if kind = 5 then S.map oneB ++ (W.drop 1).map sufB ++ (W.drop 1).map preB ++ (W.drop 1).map facB
 else if kind = 6 then (W.drop 1).map zY else chL W (m + 1)
theorem min_add (a b : Int) (ha : 0 ≤ a) (hb : 0 ≤ b) : min (min a 900 + min b 900) 900 = min (a + b) 900 := by omega
theorem min_mul (b : Nat) (L : Nat) (h : 1 ≤ L) : min (min (b : Int) 900 * L) 900 = min ((b * L : Nat) : Int) 900 := by
 rcases Nat.lt_or_ge b 900 with hb | hb
 ·rw [Int.min_eq_left (a := (b : Int)) (by omega), Int.natCast_mul]
 ·have h2 : b * 1 ≤ b * L := Nat.mul_le_mul_left _ h
  rw [Int.min_eq_right (a := (b : Int)) (by omega)]
  obtain ⟨P, hP⟩ : ∃ P, P = b * L := ⟨_, rfl⟩
  rw [← hP] at h2 ⊢
  omega
theorem vU (letters : Nat) (h : 1 ≤ letters) : ∀ r, (cnt letters r).1 = min ((upTo letters r).length : Int) 900 ∧ (cnt letters r).2 = min ((letters ^ r : Nat) : Int) 900
 | 0 => by simp only [cnt, upTo, List.range_zero, List.flatMap_nil, List.length_nil, Nat.pow_zero]; decide
 | r + 1 => by
  obtain ⟨h1, h2⟩ := vU letters h r
  rw [cnt]
  simp only
  rw [h1, h2]
  refine ⟨?_, ?_⟩
  ·rw [min_add _ _ (by omega) (by omega), zM, List.length_append, zT]; push_cast; rfl
  ·rw [min_mul _ _ h, Nat.pow_succ]
theorem chL_len (ws : List (List Int)) (i : Nat) : (chL ws (i + 1)).length = (chL ws i).length + (chB ws i).length * ws.length := by rw [chL, List.length_append, yD]
theorem chB_len (ws : List (List Int)) (i : Nat) : (chB ws (i + 1)).length = (chB ws i).length * (ws.length - 1) := by rw [chB, yD, List.length_drop]
theorem chn_is {ws : List (List Int)} (hw : 1 ≤ ws.length) (h9 : ws.length ≤ 900) : ∀ r, ((chn ((ws.length : Int) - 1) r).1 = ((chL ws r).length : Int) ∧ (chn ((ws.length : Int) - 1) r).2 = (((chB ws r).length * ws.length : Nat) : Int)) ∨ ((chn ((ws.length : Int) - 1) r).1 = 900 ∧ 900 ≤ (chL ws r).length)
 | 0 => by
  refine .inl ⟨?_, ?_⟩
  ·simp [chn, chL]
  ·rw [chn]
   simp only [chB, List.length_map]
   rw [show (ws.length : Int) - 1 + 1 = ws.length by omega]; push_cast; rfl
 | r + 1 => by
  have hb := vT ((ws.length : Int) - 1) (by omega) (by omega) r
  rw [chn]
  simp only
  rcases chn_is hw h9 r with ⟨e1, e2⟩ | ⟨e1, e2⟩
  ·rw [e1, e2, chL_len, chB_len]
   obtain ⟨P, hP⟩ : ∃ P, P = (chB ws r).length * ws.length := ⟨_, rfl⟩
   rw [← hP]
   rcases Nat.lt_or_ge ((chL ws r).length + P) 900 with h | h
   ·refine .inl ⟨by omega, ?_⟩
    rw [Int.min_eq_left (by omega)]
    have e3 : (chB ws r).length * (ws.length - 1) * ws.length = P * (ws.length - 1) := by rw [hP, Nat.mul_assoc, Nat.mul_assoc, Nat.mul_comm (ws.length - 1)]
    rw [e3]
    have e4 : (ws.length : Int) - 1 = ((ws.length - 1 : Nat) : Int) := by omega
    rw [e4]; push_cast; rfl
   ·exact .inr ⟨by omega, by omega⟩
  ·refine .inr ⟨by omega, ?_⟩
   rw [chL_len]; omega
theorem chn_big (ne : Int) (h : 0 ≤ ne) (h9 : ne ≤ 900) (h3 : 300 ≤ ne) : ∀ r, 300 < (chn ne r).1
 | 0 => by simp only [chn]; omega
 | r + 1 => by
  have := chn_big ne h h9 h3 r
  have hb := vT ne h h9 r
  rw [chn]; simp only; omega
theorem wD {kind : Int} {letters k m : Nat} (h1 : 1 ≤ kind) (h7 : kind ≤ 7) (hl : 1 ≤ letters) (hk : kind ≠ 1 → 1 ≤ k) : (300 < sizeV kind letters k m ↔ 300 < (famP kind letters k m).length) := by
 obtain ⟨c1, _⟩ := vU letters hl (k + 1)
 obtain ⟨c2, _⟩ := vU letters hl k
 have e1 : (((k : Nat) : Int) + 1).toNat = k + 1 := by omega
 have e2 : ((k : Nat) : Int).toNat = k := by omega
 have e3 : (((m : Nat) : Int) + 1).toNat = m + 1 := by omega
 have hw : 1 ≤ (zQ letters k).length := yI hl
 have hS : (upTo letters k).length ≤ (zQ letters k).length := by rw [zQ, zM, List.length_append]; omega
 unfold sizeV famP
 simp only
 rw [e1, e2, e3, c1, c2]
 change 1 ≤ (zQ letters k).length at hw
 rw [show upTo letters (k + 1) = zQ letters k from rfl]
 obtain ⟨W, hW⟩ : ∃ W, W = zQ letters k := ⟨_, rfl⟩
 rw [← hW] at hw hS ⊢
 by_cases k1 : kind = 1
 ·rw [if_pos k1, if_pos k1, List.length_map]; omega
 rw [if_neg k1, if_neg k1]
 by_cases k2 : kind = 2
 ·rw [if_pos (.inl k2), if_pos k2]; simp only [List.length_append, List.length_map, List.length_drop]; omega
 by_cases k3 : kind = 3
 ·rw [if_pos (.inr k3), if_neg k2, if_pos k3]; simp only [List.length_append, List.length_map, List.length_drop]; omega
 rw [if_neg (by omega), if_neg k2, if_neg k3]
 by_cases k4 : kind = 4
 ·rw [if_pos k4, if_pos k4]; simp only [List.length_append, List.length_map, List.length_drop]; omega
 rw [if_neg k4, if_neg k4]
 by_cases k5 : kind = 5
 ·rw [if_pos k5, if_pos k5]; simp only [List.length_append, List.length_map, List.length_drop]; omega
 rw [if_neg k5, if_neg k5]
 by_cases k6 : kind = 6
 ·rw [if_pos k6, if_pos k6]; simp only [List.length_map, List.length_drop]; omega
 rw [if_neg k6, if_neg k6]
 rcases Nat.lt_or_ge W.length 900 with h9 | h9
 ·rw [Int.min_eq_left (by omega)]
  rcases chn_is (ws := W) hw (by omega) (m + 1) with ⟨e, _⟩ | ⟨e, e'⟩
  ·rw [e]; omega
  ·rw [e]; omega
 ·rw [Int.min_eq_right (by omega)]
  have hb := chn_big 899 (by omega) (by omega) (by omega) (m + 1)
  have hp := (vN W 0 (m + 1)).length_le
  rw [Nat.zero_add] at hp
  have e : (chL W 0).length = W.length := by simp [chL]
  have : (900 : Int) - 1 = 899 := by decide
  rw [this]; omega
end Go.Proofs.Ytgbfaggnnfoamaa
