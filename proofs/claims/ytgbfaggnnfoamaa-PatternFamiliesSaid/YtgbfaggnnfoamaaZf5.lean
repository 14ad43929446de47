/- Part 5 of the proof: TRows, Words. -/
import Derived.Test.YtgbfaggnnfoamaaZf4
import Derived.Deep.LoopGhost
set_option linter.unusedVariables false
set_option linter.unusedSimpArgs false
namespace Go.Proofs.Ytgbfaggnnfoamaa
open Go.RowKit
def RowT (B : Nat) (e : TypeId) (w : World) (v : Value) (xs : List Value) : Prop :=
 (v = .slice none 0 0 ∧ xs = []) ∨ ∃ b off cap cur m, v = .slice (some ⟨b, off, none⟩) xs.length cap ∧ b < B ∧ xs.length ≤ cap ∧ cap ≤ maxLen ∧ w.heap[b]? = some (.cells cur e m) ∧ ∀ i (h : i < xs.length), cur[off + i]? = some xs[i]
theorem RowT.row {B : Nat} {e : TypeId} {w : World} {v : Value} {xs : List Value} (h : RowT B e w v xs) : Row B w v xs := by
 rcases h with h | ⟨b, off, cap, cur, m, h1, h2, h3, h4, h5, h6⟩
 ·exact .inl ⟨_, _, h⟩
 ·exact .inr ⟨b, off, cap, h1, h2, h3, h4, xX h5, fun i hi => by rw [cell_of_row w b (off + i) _ _ _ h5]; exact h6 i hi⟩
theorem RowT.mono {B B' : Nat} {e : TypeId} {w : World} {v : Value} {xs : List Value} (h : RowT B e w v xs) (hB : B ≤ B') : RowT B' e w v xs := by
 rcases h with h | ⟨b, off, cap, cur, m, h1, h2, h3⟩
 ·exact .inl h
 ·exact .inr ⟨b, off, cap, cur, m, h1, by omega, h3⟩
def xK (w : World) (e : TypeId) (k : Nat) : Prop := ∃ cur e' m, w.heap[k]? = some (.cells cur e' m) ∧ e' ≠ e
theorem RowT.kept {B : Nat} {e : TypeId} {w w' : World} {v : Value} {xs : List Value} {row : Option Nat} (h : RowT B e w v xs) (hg : w.grownBy w' row) (hr : ∀ k, row = some k → B ≤ k ∨ xK w e k) : RowT B e w' v xs := by
 rcases h with h | ⟨b, off, cap, cur, m, h1, h2, h3, h4, h5, h6⟩
 ·exact .inl h
 ·refine .inr ⟨b, off, cap, cur, m, h1, h2, h3, h4, yQ h5 hg (fun eq => ?_), h6⟩
  rcases hr b eq with hk | ⟨cur', e', m', hk, hne⟩
  ·omega
  ·rw [h5] at hk; simp at hk; exact hne hk.2.1.symm
theorem RowT.of_heap {B : Nat} {e : TypeId} {w w' : World} {v : Value} {xs : List Value} (h : RowT B e w v xs) (he : w'.heap = w.heap) : RowT B e w' v xs := by
 rcases h with h | ⟨b, off, cap, cur, m, h1, h2, h3, h4, h5, h6⟩
 ·exact .inl h
 ·exact .inr ⟨b, off, cap, cur, m, h1, h2, h3, h4, by rw [he]; exact h5, h6⟩
theorem RowT.of_owns {w : World} {base e : Nat} {v : Value} {n : Nat} {xs : List Value} (h : w.ownsRow base e 1 v n xs) : RowT w.heap.size e w v xs := by
 have hl : xs.length = n := by have := h.1; omega
 rcases h.2 with ⟨rfl, rfl⟩ | ⟨g, cap, cur, rfl, hb, hg, hnc, hcm, hcs, htake⟩
 ·exact .inl ⟨rfl, List.eq_nil_of_length_eq_zero hl⟩
 ·refine .inr ⟨g, 0, cap, cur, (0, 0), by rw [hl], xX hg, by omega, hcm, hg, fun i hi => ?_⟩
  have := h.cellAt i (by omega)
  rw [cell_of_row w g i _ _ _ hg] at this
  rw [Nat.zero_add, this, List.getElem?_eq_getElem hi]
theorem zH {w : World} {base e e' size : Nat} {v : Value} {n : Nat} {xs : List Value} (h : w.ownsRow base e size v n xs) (hne : e ≠ e') : ∀ k, v.ownBlock = some k → xK w e' k := by
 intro k hk
 rcases h.2 with ⟨rfl, _⟩ | ⟨g, cap, cur, rfl, _, hg, _⟩
 ·simp [Value.ownBlock] at hk
 ·simp [Value.ownBlock] at hk
  subst hk
  exact ⟨cur, e, (0, 0), hg, hne⟩
def RowsT {α : Type} (B : Nat) (e : TypeId) (f : α → List Value) (w : World) (svs : List Value) (ps : List α) : Prop :=
 svs.length = ps.length ∧ ∀ i (h : i < svs.length) (h' : i < ps.length), RowT B e w svs[i] (f ps[i])
section
variable {α : Type} {B : Nat} {e : TypeId} {f : α → List Value} {w : World} {svs : List Value} {ps : List α}
theorem RowsT.nil : RowsT B e f w [] [] := ⟨rfl, fun i h => by simp at h⟩
theorem RowsT.kept {w' : World} {row : Option Nat} (h : RowsT B e f w svs ps) (hg : w.grownBy w' row) (hr : ∀ k, row = some k → B ≤ k ∨ xK w e k) : RowsT B e f w' svs ps :=
 ⟨h.1, fun i h1 h2 => (h.2 i h1 h2).kept hg hr⟩
theorem RowsT.mono {B' : Nat} (h : RowsT B e f w svs ps) (hB : B ≤ B') : RowsT B' e f w svs ps := ⟨h.1, fun i h1 h2 => (h.2 i h1 h2).mono hB⟩
theorem RowsT.snoc {sv : Value} {p : α} (h : RowsT B e f w svs ps) (hs : RowT B e w sv (f p)) : RowsT B e f w (svs ++ [sv]) (ps ++ [p]) := by
 refine ⟨by simp [h.1], fun i h1 h2 => ?_⟩
 by_cases hi : i < svs.length
 ·rw [List.getElem_append_left hi, List.getElem_append_left (by rw [← h.1]; exact hi)]
  exact h.2 i hi _
 ·have : i = svs.length := by simp at h1; omega
  subst this
  rw [List.getElem_append_right (Nat.le_refl _), List.getElem_append_right (by rw [h.1]; exact Nat.le_refl _)]
  simpa [h.1] using hs
end
theorem allWords_upto (letters k : Nat) : (List.range (k + 1)).flatMap (lex letters) = (List.range k).flatMap (lex letters) ++ lex letters k := by
 rw [List.range_succ, List.flatMap_append]; simp
def upTo (letters n : Nat) : List (List Int) := (List.range n).flatMap (lex letters)
theorem zM (letters n : Nat) : upTo letters (n + 1) = upTo letters n ++ lex letters n := allWords_upto letters n
theorem zJ (letters : Nat) (h : letters ≤ 6) : ∀ n, n ≤ 9 → (upTo letters n).length ≤ 2000000 * n
 | 0, _ => by simp [upTo]
 | n + 1, hn => by
  have h1 := zJ letters h n (by omega)
  rw [zM, List.length_append, zT]
  have h2 : letters ^ n ≤ 6 ^ n := Nat.pow_le_pow_left h n
  have h3 : 6 ^ n ≤ 6 ^ 8 := Nat.pow_le_pow_right (by omega) (by omega)
  have h4 : (6 : Nat) ^ 8 = 1679616 := by decide
  omega
theorem yN (a b : List (List Int)) : strs (a ++ b) = strs a ++ strs b := by simp [strs]
theorem zK (a : List (List Int)) : (strs a).length = a.length := by simp [strs]
def xU (w : World) (ls : List (List Int)) (e : Ending) (w' : World) : Prop :=
 ∃ (sa : Option Addr) (sc : Nat), e = .returned (.slice sa ls.length sc) ∧ RowT w'.heap.size 9 w' (.slice sa ls.length sc) (strs ls) ∧ w.grownBy w' none
set_option maxRecDepth 100000 in
set_option maxHeartbeats 400000 in
theorem yH (letters k : Nat) (w : World) (h1 : 1 ≤ letters) (h6 : letters ≤ 6) (hk8 : k ≤ 8) :
  Calls Try.prog 52 #[.int .i64 letters, .int .i64 k] w (xU w (upTo letters (k + 1))) := by
 go_enter Try.func52, Try.ntmps52
 go_wp2
 go_loopg [5, 11] (k + 1) (fun g v i wr => ∃ (sa : Option Addr) (sc n : Nat), g = k + 1 - n ∧ n ≤ k + 1 ∧ i = .int .i64 n ∧ v = .slice sa (upTo letters n).length sc ∧
   wr.ownsRow w.heap.size 9 1 (.slice sa (upTo letters n).length sc) (upTo letters n).length (strs (upTo letters n)) ∧ w.grownBy wr none)
 case atStart => exact ⟨none, 0, 0, rfl, by omega, rfl, rfl, World.ownsRow_nil _ _ _ _, zF _ _⟩
 case round =>
  obtain ⟨sa, sc, n, rfl, hn, rfl, rfl, hown, hg⟩ := hrel
  by_cases hlt : n < k + 1
  ·go_wp2_with fail
   refine (repeat_a _ n _ (by omega) (Arr.new _ _ _)).mono ?_
   rintro e w1 ⟨d, cap, rfl, hd, hnc, hcm, hA, hg1⟩
   have hsz := hg.size
   have hg2 : w.grownBy w1 none := zE (yV hg _) hg1
   have hown1 : w1.ownsRow w.heap.size 9 1 (.slice sa (upTo letters n).length sc) (upTo letters n).length (strs (upTo letters n)) := xM (hown.alloc _) hg1 (by simp)
   have hup := zJ letters h6 n (by omega)
   obtain ⟨rest, hL⟩ := lex_head (letters := letters) (by omega) n
   have HL := Kh hL; clear hL
   have hLpos : 0 < (lex letters n).length := by rw [HL.out]; simp
   have hA0 : Arr w1 d 5 (((lex letters n)[0]'hLpos).map (Value.int .u8)) := by simp only [HL.out]; exact hA
   have hLle : (lex letters n).length ≤ 2000000 := by
    rw [zT]
    have h2 : letters ^ n ≤ 6 ^ n := Nat.pow_le_pow_left h6 n
    have h3 : 6 ^ n ≤ 6 ^ 8 := Nat.pow_le_pow_right (by omega) (by omega)
    have h4 : (6 : Nat) ^ 8 = 1679616 := by decide
    omega
   have hrun := Kh (run_lex (letters := letters) (by omega) n)
   have hd1 : wr.heap.size < d := by have := hd; rw [zB] at this; omega
   clear hown hA hg1 hg
   go_wp2
   go_loopg [5, 8] (lex letters n).length (fun g2 v m wq => ∃ (sa : Option Addr) (sc i : Nat) (b : Bool), g2 = (lex letters n).length - i ∧ i ≤ (lex letters n).length ∧ m = .bool b ∧ (b = true ↔ i < (lex letters n).length) ∧
     v = .slice sa ((upTo letters n).length + i) sc ∧ wq.ownsRow w.heap.size 9 1 (.slice sa ((upTo letters n).length + i) sc) ((upTo letters n).length + i) (strs (upTo letters n ++ (lex letters n).take i)) ∧
     (∀ h : i < (lex letters n).length, Arr wq d 5 ((lex letters n)[i].map (Value.int .u8))) ∧ w.grownBy wq none)
   case atStart => exact ⟨sa, sc, 0, true, rfl, Nat.zero_le _, rfl, by simpa using hLpos, rfl, by simpa using hown1, fun _ => hA0, hg2⟩
   case round =>
    clear hown1 hA0 hg2
    obtain ⟨sa, sc, i, b, rfl, hi, rfl, hb, rfl, hown, hA, hg⟩ := hrel
    have HB := Kh hb; clear hb
    cases b
    ·have hiL : i = (lex letters n).length := by
      have : ¬ i < (lex letters n).length := fun h => by have := HB.out.2 h; cases this
      omega
     have HI := Kh hiL; clear hiL
     go_wp2
     go_roundg (k + 1 - (n + 1))
     case measure => omega
     case rel =>
      have e1 : (upTo letters (n + 1)).length = (upTo letters n).length + i := by rw [zM, List.length_append, HI.out]
      have e2 : upTo letters (n + 1) = upTo letters n ++ (lex letters n).take i := by rw [zM, HI.out, List.take_length]
      exact ⟨sa, sc, n + 1, rfl, by omega, by go_num, by rw [e1], by rw [e1, e2]; exact hown, hg⟩
    ·have hiL : i < (lex letters n).length := HB.out.1 rfl
     have hm := yU (List.getElem_mem hiL)
     have hA1 := hA hiL
     have hst := run_bytes_arr (P := Try.prog) 64 5 Try.underlying64 Try.underlying5 9 Try.underlying9 n cap hm.1 hA1
     have HM := Kh hm; have HA1 := Kh hA1; clear hm hA1 hA
     go_wp2_with (at_builtin; refine app1 rfl _ _ _ rfl yK w.heap.size _ ((upTo letters n).length + i) (strs (upTo letters n ++ (lex letters n).take i)) rfl hown _ rfl rfl ?c1 ?c2 ?c3 ?_)
     case c1 => unfold maxLen; omega
     case c2 => omega
     case c3 => exact hg.size
     intro sa' sc' w3 hown3 hg3 hlt3
     have hb3 := fun q (e : (Value.slice sa ((upTo letters n).length + i) sc).ownBlock = some q) => (hown.lt q e).1
     have hg4 := zA hg hg3 hb3
     have hA3 := HA1.out.kept hg3 (by
      obtain ⟨cur, r, hq, _⟩ := HA1.out
      exact vK hown hq (by decide))
     have hnx := next_word d cap (lex letters n)[i] letters w3 (by omega) (by omega) HM.out.2 (by rw [HM.out.1]; omega) hA3
     rw [HM.out.1] at hnx
     have hr := run_get hrun.out i hiL
     have HR := Kh hr
     have HNX := Kh hnx
     clear hr hnx hown hg hg3 hst
     go_wp2_with fail
     refine HNX.out.mono ?_
     rintro e w4 ⟨rfl, hA4, hg5⟩
     have hown4 := hown3.kept hg5 (.inr (by
      obtain ⟨cur, r, hq, _⟩ := hA3
      exact vK hown3 hq (by decide)))
     have hg6 := zA hg4 hg5 (by simp; omega)
     go_wp2
     go_roundg ((lex letters n).length - (i + 1))
     case measure => omega
     case rel =>
      refine ⟨sa', sc', i + 1, (xC letters n (lex letters n)[i]).2, rfl, by omega, rfl, ?_, rfl, ?_, ?_, hg6⟩
      ·have := HR.out.1
       unfold nextL at this
       rw [HM.out.1] at this
       rw [this]; simp
      ·have e1 : strs (upTo letters n ++ (lex letters n).take (i + 1)) = strs (upTo letters n ++ (lex letters n).take i) ++ [.string (strOfNums (lex letters n)[i])] := by
        rw [List.take_succ_eq_append_getElem hiL, ← List.append_assoc, yN]; rfl
       rw [e1]; exact hown4
      ·intro h
       have := HR.out.2 h
       unfold nextL at this
       rw [HM.out.1] at this
       rw [← this]; exact hA4
  ·obtain rfl : n = k + 1 := by omega
   go_wp2
   go_ret
   exact ⟨sa, sc, rfl, RowT.of_owns hown, hg⟩
end Go.Proofs.Ytgbfaggnnfoamaa
