/- Part 42 of the proof: Words. -/
import Derived.Test.YtgbfaggnnfoamaaZg41
set_option linter.unusedVariables false
set_option linter.unusedSimpArgs false
namespace Go.Proofs.Ytgbfaggnnfoamaa
open Go.RowKit
theorem allWords_upto (letters k : Nat) : (List.range (k + 1)).flatMap (lex letters) = (List.range k).flatMap (lex letters) ++ lex letters k := by
 rw [List.range_succ, List.flatMap_append]; simp
def upTo (letters n : Nat) : List (List Int) := (List.range n).flatMap (lex letters)
theorem uR (letters n : Nat) : upTo letters (n + 1) = upTo letters n ++ lex letters n := allWords_upto letters n
theorem tW (letters : Nat) (h : letters ≤ 6) : ∀ n, n ≤ 9 → (upTo letters n).length ≤ 2000000 * n
 | 0, _ => by simp [upTo]
 | n + 1, hn => by
  have h1 := tW letters h n (by omega)
  rw [uR, List.length_append, vY]
  have h2 : letters ^ n ≤ 6 ^ n := Nat.pow_le_pow_left h n
  have h3 : 6 ^ n ≤ 6 ^ 8 := Nat.pow_le_pow_right (by omega) (by omega)
  have h4 : (6 : Nat) ^ 8 = 1679616 := by decide
  omega
theorem tY (a b : List (List Int)) : strs (a ++ b) = strs a ++ strs b := by simp [strs]
theorem vB (a : List (List Int)) : (strs a).length = a.length := by simp [strs]
def Listed (w : World) (ls : List (List Int)) (e : Ending) (w' : World) : Prop :=
 ∃ (sa : Option Addr) (sc : Nat), e = .returned (.slice sa ls.length sc) ∧ RowT w'.heap.size 9 w' (.slice sa ls.length sc) (strs ls) ∧ w.grownBy w' none
set_option maxRecDepth 100000 in
set_option maxHeartbeats 400000 in
theorem words_any (letters k : Nat) (w : World) (h1 : 1 ≤ letters) (h6 : letters ≤ 6) (hk8 : k ≤ 8) :
  Calls Try.prog 52 #[.int .i64 letters, .int .i64 k] w (Listed w (upTo letters (k + 1))) := by
 go_enter Try.func52, Try.ntmps52
 go_wp2
 go_loopg [5, 11] (k + 1) (fun g v i wr => ∃ (sa : Option Addr) (sc n : Nat), g = k + 1 - n ∧ n ≤ k + 1 ∧ i = .int .i64 n ∧ v = .slice sa (upTo letters n).length sc ∧
   wr.ownsRow w.heap.size 9 1 (.slice sa (upTo letters n).length sc) (upTo letters n).length (strs (upTo letters n)) ∧ w.grownBy wr none)
 case atStart => exact ⟨none, 0, 0, rfl, by omega, rfl, rfl, World.ownsRow_nil _ _ _ _, yJ _ _⟩
 case round =>
  obtain ⟨sa, sc, n, rfl, hn, rfl, rfl, hown, hg⟩ := hrel
  by_cases hlt : n < k + 1
  ·go_wp2_with fail
   refine (repeat_a _ n _ (by omega) (Arr.new _ _ _)).mono ?_
   rintro e w1 ⟨d, cap, rfl, hd, hnc, hcm, hA, hg1⟩
   have hsz := hg.size
   have hg2 : w.grownBy w1 none := zH (yO hg _) hg1
   have hown1 : w1.ownsRow w.heap.size 9 1 (.slice sa (upTo letters n).length sc) (upTo letters n).length (strs (upTo letters n)) := xO (hown.alloc _) hg1 (by simp)
   have hup := tW letters h6 n (by omega)
   obtain ⟨rest, hL⟩ := mJ (letters := letters) (by omega) n
   have HL := Kh hL; clear hL
   have hLpos : 0 < (lex letters n).length := by rw [HL.out]; simp
   have hA0 : Arr w1 d 5 (((lex letters n)[0]'hLpos).map (Value.int .u8)) := by simp only [HL.out]; exact hA
   have hLle : (lex letters n).length ≤ 2000000 := by
    rw [vY]
    have h2 : letters ^ n ≤ 6 ^ n := Nat.pow_le_pow_left h6 n
    have h3 : 6 ^ n ≤ 6 ^ 8 := Nat.pow_le_pow_right (by omega) (by omega)
    have h4 : (6 : Nat) ^ 8 = 1679616 := by decide
    omega
   have hrun := Kh (lB (letters := letters) (by omega) n)
   have hd1 : wr.heap.size < d := by have := hd; rw [yS] at this; omega
   clear hown hA hg1 hg
   go_wp2
   go_loopg [5, 8] (lex letters n).length (fun g2 v m wq => ∃ (sa : Option Addr) (sc i : Nat) (b : Bool), g2 = (lex letters n).length - i ∧ i ≤ (lex letters n).length ∧ m = .bool b ∧ (b = true ↔ i < (lex letters n).length) ∧
     v = .slice sa ((upTo letters n).length + i) sc ∧ wq.ownsRow w.heap.size 9 1 (.slice sa ((upTo letters n).length + i) sc) ((upTo letters n).length + i) (strs (upTo letters n ++ (lex letters n).take i)) ∧
     (∀ h : i < (lex letters n).length, Arr wq d 5 ((lex letters n)[i].map (Value.int .u8))) ∧ w.grownBy wq none)
   case atStart => exact ⟨sa, sc, 0, true, rfl, Nat.zero_le _, rfl, by simpa using hLpos, rfl, by simpa using hown1, fun _ => hA0, hg2⟩
   case round =>
    clear hown1 hA0 hg2
    obtain ⟨sa, sc, i, b, rfl, hi, rfl, hb, rfl, hown, hA, hg⟩ := hrel
    have HB := Kh hb; clear hb
    cases b
    ·have hiL : i = (lex letters n).length := by
      have : ¬ i < (lex letters n).length := fun h => by have := HB.out.2 h; cases this
      omega
     have HI := Kh hiL; clear hiL
     go_wp2
     go_roundg (k + 1 - (n + 1))
     case measure => omega
     case rel =>
      have e1 : (upTo letters (n + 1)).length = (upTo letters n).length + i := by rw [uR, List.length_append, HI.out]
      have e2 : upTo letters (n + 1) = upTo letters n ++ (lex letters n).take i := by rw [uR, HI.out, List.take_length]
      exact ⟨sa, sc, n + 1, rfl, by omega, by go_num, by rw [e1], by rw [e1, e2]; exact hown, hg⟩
    ·have hiL : i < (lex letters n).length := HB.out.1 rfl
     have hm := nP (List.getElem_mem hiL)
     have hA1 := hA hiL
     have hst := run_bytes_arr (P := Try.prog) 64 5 Try.underlying64 Try.underlying5 9 Try.underlying9 n cap hm.1 hA1
     have HM := Kh hm; have HA1 := Kh hA1; clear hm hA1 hA
     go_wp2_with (at_builtin; refine app1 rfl _ _ _ rfl tL w.heap.size _ ((upTo letters n).length + i) (strs (upTo letters n ++ (lex letters n).take i)) rfl hown _ rfl rfl ?c1 ?c2 ?c3 ?_)
     case c1 => unfold maxLen; omega
     case c2 => omega
     case c3 => exact hg.size
     intro sa' sc' w3 hown3 hg3 hlt3
     have hb3 := fun q (e : (Value.slice sa ((upTo letters n).length + i) sc).ownBlock = some q) => (hown.lt q e).1
     have hg4 := zB hg hg3 hb3
     have hA3 := HA1.out.kept hg3 (by
      obtain ⟨cur, r, hq, _⟩ := HA1.out
      exact zK hown hq (by decide))
     have hnx := next_word d cap (lex letters n)[i] letters w3 (by omega) (by omega) HM.out.2 (by rw [HM.out.1]; omega) hA3
     rw [HM.out.1] at hnx
     have hr := lC hrun.out i hiL
     have HR := Kh hr
     have HNX := Kh hnx
     clear hr hnx hown hg hg3 hst
     go_wp2_with fail
     refine HNX.out.mono ?_
     rintro e w4 ⟨rfl, hA4, hg5⟩
     have hown4 := hown3.kept hg5 (.inr (by
      obtain ⟨cur, r, hq, _⟩ := hA3
      exact zK hown3 hq (by decide)))
     have hg6 := zB hg4 hg5 (by simp; omega)
     go_wp2
     go_roundg ((lex letters n).length - (i + 1))
     case measure => omega
     case rel =>
      refine ⟨sa', sc', i + 1, (wJ letters n (lex letters n)[i]).2, rfl, by omega, rfl, ?_, rfl, ?_, ?_, hg6⟩
      ·have := HR.out.1
       unfold sO at this
       rw [HM.out.1] at this
       rw [this]; simp
      ·have e1 : strs (upTo letters n ++ (lex letters n).take (i + 1)) = strs (upTo letters n ++ (lex letters n).take i) ++ [.string (strOfNums (lex letters n)[i])] := by
        rw [List.take_succ_eq_append_getElem hiL, ← List.append_assoc, tY]; rfl
       rw [e1]; exact hown4
      ·intro h
       have := HR.out.2 h
       unfold sO at this
       rw [HM.out.1] at this
       rw [← this]; exact hA4
  ·obtain rfl : n = k + 1 := by omega
   go_wp2
   go_ret
   exact ⟨sa, sc, rfl, RowT.of_owns hown, hg⟩
end Go.Proofs.Ytgbfaggnnfoamaa
