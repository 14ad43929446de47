/- Part 2 of the proof: Made, MadeWord, Word, Fam1. -/
import Derived.Test.YtgbfaggnnfoamaaZf1
set_option linter.unusedVariables false
set_option linter.unusedSimpArgs false
namespace Go.Proofs.Ytgbfaggnnfoamaa
open Go.RowKit
theorem tmod_bd (x n : Int) (hn : 1 ≤ n) : -n < x.tmod n ∧ x.tmod n < n := by
 constructor
 ·by_cases h : 0 ≤ x
  ·have := Int.tmod_nonneg n h; omega
  ·have h1 := Int.tmod_lt_of_pos (-x) (show (0 : Int) < n by omega)
   rw [Int.neg_tmod] at h1; omega
 ·exact Int.tmod_lt_of_pos x (by omega)
def modI (x n : Int) : Int := if n < 1 then 0 else if x.tmod n < 0 then x.tmod n + n else x.tmod n
theorem modI_zero (x n : Int) (h : n < 1) : modI x n = 0 := by
 unfold modI; rw [if_pos h]
set_option maxHeartbeats 400000 in
theorem vL (x n : Int) (w : World) (hn : n ≤ 9223372036854775807) :
  Calls Try.prog 10 #[.int .i64 x, .int .i64 n] w fun e w' => e = .returned (.int .i64 (modI x n)) ∧ w = w' := by
 by_cases h1 : n < 1
 ·go_enter Try.func10, Try.ntmps10
  go_wp2
  go_ret
  exact ⟨yO (modI_zero x n (by omega)).symm, rfl⟩
 ·have hb1 := (tmod_bd x n (by omega)).1
  have hb2 := (tmod_bd x n (by omega)).2
  go_enter Try.func10, Try.ntmps10
  go_wp2
  all_goals (go_ret; exact ⟨yO (by unfold modI; rw [if_neg (by omega)]; first | rw [if_pos (by omega)] | rw [if_neg (by omega)]), rfl⟩)
theorem Row.cut {B : Nat} {w : World} {b off cap : Nat} {xs : List Value} (n : Nat) (hn : n ≤ xs.length) (hb : b < B) (hc : xs.length ≤ cap) (hm : cap ≤ maxLen) (h : RowAt w b off xs) :
  Row B w (.slice (some ⟨b, off, none⟩) n cap) (xs.take n) :=
 .inr ⟨b, off, cap, by rw [List.length_take, Nat.min_eq_left hn], hb, by rw [List.length_take]; omega, hm, h.1, fun i hi => by
  rw [List.length_take] at hi
  rw [h.2 i (by omega), List.getElem_take]⟩
def okNum (letters : Int) (n : Int) : Prop := 97 ≤ n ∧ n < 97 + letters
def wV (letters : Int) (c : UInt8) : Bool := decide (97 ≤ (c.toNat : Int) ∧ (c.toNat : Int) - 97 < letters)
def zW (s : ByteArray) (letters : Int) : Bool := decide (1 ≤ letters ∧ letters ≤ 6 ∧ s.size ≤ 2048) && s.data.toList.all (wV letters)
theorem wordValid_no (s : ByteArray) (letters : Int) (k : Nat) (hk : k < s.size) (h : (s[k].toNat : Int) < 97 ∨ letters ≤ ((s[k].toNat : Int) - 97) % 256) : zW s letters = false := by
 have hm : s[k] ∈ s.data.toList := by
  have : s[k] = s.data[k]'(by simpa using hk) := rfl
  rw [this]; simp
 have h2 : wV letters s[k] = false := by
  have := UInt8.toNat_lt s[k]
  simp [wV]; omega
 unfold zW
 rw [Bool.and_eq_false_iff]; right
 rw [List.all_eq_false]; exact ⟨_, hm, by simp [h2]⟩
theorem all_succ (s : ByteArray) (letters : Int) (k : Nat) (hk : k < s.size) (h : (s.data.toList.take k).all (wV letters) = true)
  (h1 : 97 ≤ (s[k].toNat : Int) ∧ ((s[k].toNat : Int) - 97) % 256 < letters) : (s.data.toList.take (k + 1)).all (wV letters) = true := by
 rw [List.take_succ_eq_append_getElem (by simpa using hk), List.all_append, h]
 have : s.data.toList[k]'(by simpa using hk) = s[k] := rfl
 have h3 := UInt8.toNat_lt s[k]
 simp [this, wV]; omega
theorem wordValid_yes (s : ByteArray) (letters : Int) (k : Nat) (hk : s.size ≤ k) (h : 1 ≤ letters ∧ letters ≤ 6 ∧ s.size ≤ 2048) (ha : (s.data.toList.take k).all (wV letters) = true) : zW s letters = true := by
 rw [List.take_of_length_le (by simpa using hk)] at ha
 simp [zW, ha, h]
set_option maxHeartbeats 400000 in
theorem wordValid_any (s : ByteArray) (letters : Int) (w : World) (hs : s.size ≤ maxLen) :
  Calls Try.prog 36 #[.string s, .int .i64 letters] w fun e w' => e = .returned (.bool (zW s letters)) ∧ w = w' := by
 unfold maxLen at hs
 by_cases h1 : letters < 1
 ·go_enter Try.func36, Try.ntmps36
  go_wp2
  go_ret
  exact ⟨zV (by simp [zW]; omega), rfl⟩
 by_cases h2 : 6 < letters
 ·go_enter Try.func36, Try.ntmps36
  go_wp2
  go_ret
  exact ⟨zV (by simp [zW]; omega), rfl⟩
 by_cases h3 : 2048 < s.size
 ·go_enter Try.func36, Try.ntmps36
  go_wp2
  go_ret
  exact ⟨zV (by simp [zW]; omega), rfl⟩
 go_enter Try.func36, Try.ntmps36
 go_wp2
 go_loop [19] (fun i => ∃ k : Nat, k ≤ s.size ∧ i = .int .i64 k ∧ (s.data.toList.take k).all (wV letters) = true) (fun i => s.size - (intOf i).toNat)
 case atStart => exact ⟨0, Nat.zero_le _, rfl, rfl⟩
 case round =>
  obtain ⟨k, hk, rfl, hall⟩ := hrel
  have HA := Kh hall; clear hall
  by_cases hlt : k < s.size
  ·go_wp2
   ·go_ret
    exact ⟨zV (by rw [eq_comm]; exact wordValid_no s letters k hlt (by omega)), rfl⟩
   ·go_round
    case rel => exact ⟨k + 1, by omega, by go_num, all_succ s letters k hlt HA.out (by omega)⟩
    case measure => simp [intOf]; omega
   ·go_ret
    exact ⟨zV (by rw [eq_comm]; exact wordValid_no s letters k hlt (by omega)), rfl⟩
  ·go_wp2
   go_ret
   exact ⟨zV (by rw [eq_comm]; exact wordValid_yes s letters k (by omega) (by omega) HA.out), rfl⟩
def xC (letters : Int) : Nat → List Int → List Int × Bool
 | 0, l => (l, false)
 | i + 1, l => if l.getD i 0 - 97 < letters - 1 then (l.set i (l.getD i 0 + 1), true) else xC letters i (l.set i 97)
theorem nextAt_stop {letters : Int} {j : Nat} {c : List Int} (hj : j < c.length) (h : c[j] - 97 < letters - 1) : xC letters (j + 1) c = (c.set j (c[j] + 1), true) := by
 have h3 : c.getD j 0 = c[j] := by simp [List.getD, hj]
 unfold xC; rw [h3, if_pos h]
theorem nextAt_go {letters : Int} {j : Nat} {c : List Int} (hj : j < c.length) (h : ¬ c[j] - 97 < letters - 1) : xC letters (j + 1) c = xC letters j (c.set j 97) := by
 have h3 : c.getD j 0 = c[j] := by simp [List.getD, hj]
 rw [xC, h3, if_neg h]
set_option maxRecDepth 100000 in
set_option maxHeartbeats 400000 in
theorem next_word (g cap : Nat) (l : List Int) (letters : Int) (w : World) (h1 : 1 ≤ letters) (h6 : letters ≤ 6) (hok : ∀ n ∈ l, okNum letters n) (hlen : l.length ≤ 1000)
  (hown : Arr w g 5 (l.map (Value.int .u8))) :
  Calls Try.prog 66 #[.slice (some ⟨g, 0, none⟩) l.length cap, .int .i64 letters] w fun e w' =>
   e = .returned (.bool (xC letters l.length l).2) ∧ Arr w' g 5 ((xC letters l.length l).1.map (Value.int .u8)) ∧ w.grownBy w' (some g) := by
 go_enter Try.func66, Try.ntmps66
 go_wp2
 go_loopw [5] (fun i wr => ∃ (c : List Int) (k : Nat), i = .int .i64 ((k : Int) - 1) ∧ k ≤ l.length ∧ c.length = l.length ∧ (∀ n ∈ c, okNum letters n) ∧ xC letters k c = xC letters l.length l ∧
   Arr wr g 5 (c.map (Value.int .u8)) ∧ w.grownBy wr (some g))
  (fun i _ => (intOf i + 1).toNat)
 case atStart => exact ⟨l, l.length, rfl, Nat.le_refl _, rfl, hok, rfl, hown, zF _ _⟩
 case round =>
  clear hown
  obtain ⟨c, k, rfl, hk, hcl, hco, hn, hown, hg⟩ := hrel
  have CL := Kh hcl; have NX := Kh hn; clear hcl hn
  by_cases hp : 0 < k
  ·obtain ⟨j, rfl⟩ : ∃ j, k = j + 1 := ⟨k - 1, by omega⟩
   have hj : j < c.length := by rw [CL.out]; omega
   have hc := hown.cell j (by simpa using hj)
   have hf := hown.frozen j
   rw [List.getElem_map] at hc
   have hm := hco _ (List.getElem_mem hj)
   have hm1 := hm.1
   have hm2 := hm.2
   have hst := hown.set j (by simpa using hj) (.int .u8 (c[j] + 1))
   have hst' := hown.set j (by simpa using hj) (.int .u8 97)
   have e1 : ((j + 1 : Nat) : Int) - 1 = j := by omega
   rw [e1]
   have OW := Kh hown; have S1 := Kh hst; have S2 := Kh hst'; clear hown hst hst' e1 hm
   by_cases hlt : c[j] - 97 < letters - 1
   ·go_wp2
    go_ret
    rw [← NX.out, nextAt_stop hj (by omega)]
    exact ⟨rfl, by rw [List.map_set]; exact S1.out, zE hg (zX _ _ _)⟩
   ·go_wp2
    go_roundw
    case rel =>
     refine ⟨c.set j 97, j, rfl, by omega, by simp [CL.out], ?_, by rw [← NX.out, nextAt_go hj (by omega)], by rw [List.map_set]; exact S2.out, zE hg (zX _ _ _)⟩
     intro n hn
     rcases List.mem_or_eq_of_mem_set hn with hn | hn
     ·exact hco n hn
     ·subst hn; unfold okNum; omega
    case measure => simp [intOf]
  ·obtain rfl : k = 0 := by omega
   go_wp2
   go_ret
   rw [← NX.out]
   exact ⟨rfl, hown, hg⟩
end Go.Proofs.Ytgbfaggnnfoamaa
