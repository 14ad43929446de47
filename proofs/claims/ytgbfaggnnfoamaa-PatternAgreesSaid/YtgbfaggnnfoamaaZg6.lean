/- Part 6 of the proof: MadePat. -/
import Derived.Test.YtgbfaggnnfoamaaZg5
set_option linter.unusedVariables false
set_option linter.unusedSimpArgs false
namespace Go.Proofs.Ytgbfaggnnfoamaa
open Go.RowKit
theorem tL : ElemOk Try.prog 34 9 (.string ⟨#[]⟩) 16 := ⟨Try.underlying34, by kernel_rfl, rfl⟩
def nD (letters : Int) (inner : Bool) (l : List Int) : Prop := l.length ≤ 2 ∧ (∀ n ∈ l, tP letters n) ∧ (inner = true → l ≠ [])
def tK (letters : Int) (bs : List (List Int)) : Prop := bs.length ≤ 4 ∧ bs ≠ [] ∧ ∀ i (h : i < bs.length), nD letters (decide (0 < i ∧ i + 1 < bs.length)) bs[i]
def uZ (letters : Int) (r : Int) (bs : List (List Int)) : Prop := bs ≠ [] ∧ ∀ i (h : i < bs.length), nD letters (decide (0 < i ∧ ((i : Int) + 1 < bs.length + r))) bs[i]
def strs (bs : List (List Int)) : List Value := bs.map fun l => .string (strOfNums l)
theorem goodSoFar_one (letters r : Int) (l : List Int) (hl : l.length ≤ 2) (h : ∀ n ∈ l, tP letters n) : uZ letters r [l] := by
 refine ⟨by simp, fun i hi => ?_⟩
 have : i = 0 := by simpa using hi
 subst this
 exact ⟨hl, h, by simp⟩
theorem vR {letters r : Int} {bs : List (List Int)} {l : List Int} (h : uZ letters r bs) (hr : 0 < r) (hl : l.length ≤ 2) (hok : ∀ n ∈ l, tP letters n) (hne : 1 < r → l ≠ []) : uZ letters (r - 1) (bs ++ [l]) := by
 refine ⟨by simp, fun i hi => ?_⟩
 rw [List.length_append, List.length_singleton] at hi
 have e1 : ((bs ++ [l]).length : Int) + (r - 1) = bs.length + r := by simp; omega
 rw [e1]
 by_cases hb : i < bs.length
 ·rw [List.getElem_append_left hb]; exact h.2 i hb
 ·have : i = bs.length := by omega
  subst this
  rw [List.getElem_append_right (by omega)]
  simp only [Nat.sub_self, List.getElem_cons_zero]
  exact ⟨hl, hok, fun hin => hne (by simp at hin; omega)⟩
theorem goodSoFar_done {letters r : Int} {bs : List (List Int)} (hr : r = 0) (hl : bs.length ≤ 4) (h : uZ letters r bs) : tK letters bs := by
 refine ⟨hl, h.1, fun i hi => ?_⟩
 have := h.2 i hi
 rwa [show decide (0 < i ∧ (i : Int) + 1 < bs.length + r) = decide (0 < i ∧ i + 1 < bs.length) from decide_eq_decide.2 (by subst hr; omega)] at this
def Patterned (B tb : Nat) (w : World) (letters : Int) (e : Ending) (w' : World) : Prop :=
 ∃ (v : Value) (bs : List (List Int)), e = .returned (.agg #[v]) ∧ Row w'.heap.size w' v (strs bs) ∧ tK letters bs ∧ xM B w' tb ∧ w.grownBy w' (some tb)
set_option maxRecDepth 100000 in
set_option maxHeartbeats 400000 in
theorem pattern_any (B tb : Nat) (w : World) (letters : Int) (h1 : 1 ≤ letters) (h6 : letters ≤ 6) (hT : xM B w tb) :
  Calls Try.prog 17 #[.pointer (some ⟨tb, 0, none⟩), .int .i64 letters] w (Patterned B tb w letters) := by
 have htb := hT.lt
 have hBt := hT.ge
 go_enter Try.func17, Try.ntmps17
 go_wp2_with fail
 have hT0 := hT.kept (World.grownBy_alloc w (.cells #[.slice none 0 0] 36) none) (by simp)
 refine (pN B tb _ letters 2 h1 h6 (by omega) (by omega) hT0).mono ?_
 rintro e w1 ⟨l0, rfl, hl0, hok0, hT1, hg1⟩
 have hs1 := hg1.size
 simp only [yS] at hs1
 have e4 : w1.heap[w.heap.size]? = some (.cells #[.slice none 0 0] 36 (0, 0)) := zA (heap_alloc_new w _) hg1 (by simp; omega)
 go_wp2_with fail
 refine (rV B tb _ 4 (by omega) ((hT1.kept (World.grownBy_alloc _ _ none) (by simp)).kept (World.grownBy_alloc _ _ none) (by simp))).mono ?_
 rintro e w2 ⟨r0, rfl, hr0, hr1, hT2, hg2⟩
 replace hr1 := hr1 (by omega)
 have hs2 := hg2.size
 simp only [yS] at hs2
 have b4 : w2.heap[w.heap.size]? = some (.cells #[.slice none 0 0] 36 (0, 0)) :=
  zA (zA (zA e4 (World.grownBy_alloc _ _ none) (by simp)) (World.grownBy_alloc _ _ none) (by simp)) hg2 (by simp; omega)
 have bp : w2.heap[w1.heap.size + 1]? = some (.cells #[.slice (some ⟨w1.heap.size, 0, none⟩) 1 1] 36 (0, 0)) :=
  zA (by simpa using heap_alloc_new (w1.alloc (.cells #[.string (strOfNums l0)] 9)) (.cells #[.slice (some ⟨w1.heap.size, 0, none⟩) 1 1] 36)) hg2 (by simp; omega)
 have ho : w2.ownsRow w1.heap.size 9 1 (.slice (some ⟨w1.heap.size, 0, none⟩) 1 1) 1 (strs [l0]) :=
  xO ((World.ownsRow_lit w1 #[.string (strOfNums l0)] 1 (Nat.le_refl _) (by unfold maxLen; omega) (by simp)).alloc _) hg2 (by simp; omega)
 have hgw : w.grownBy w2 (some tb) := zH (yO (yO (zH (World.grownBy_alloc _ _ _) hg1) _) _) hg2
 have E4 := Kh e4; have B4 := Kh b4; have BP := Kh bp; clear e4 b4 bp
 go_wp2
 go_loopw [6] (fun i wr => ∃ (sa : Option Addr) (sc : Nat) (bs : List (List Int)) (r : Int), i = .int .i64 r ∧ 0 ≤ r ∧ (bs.length : Int) + r ≤ 4 ∧ uZ letters r bs ∧
   wr.heap[w.heap.size]? = some (.cells #[.slice none 0 0] 36 (0, 0)) ∧ wr.heap[w1.heap.size + 1]? = some (.cells #[.slice sa bs.length sc] 36 (0, 0)) ∧
   wr.ownsRow w1.heap.size 9 1 (.slice sa bs.length sc) bs.length (strs bs) ∧ xM B wr tb ∧ w.grownBy wr (some tb))
  (fun i _ => (intOf i).toNat)
 case atStart => exact ⟨some ⟨w1.heap.size, 0, none⟩, 1, [l0], r0, rfl, hr0, by simp; omega, goodSoFar_one letters r0 l0 (by omega) hok0, B4.out, BP.out, ho, hT2, hgw⟩
 case round =>
  clear ho hgw hT2 hg2
  obtain ⟨sa, sc, bs, r, rfl, hr0, hlr, hgood, b4, bp, hown, hTr, hgr⟩ := hrel
  have hpl := zJ bp
  have hcp := zO bp 0 (by simp)
  have hfp := zE bp 0
  have hc4 := zO b4 0 (by simp)
  have hf4 := zE b4 0
  simp only [List.getElem_toArray, List.getElem_cons_zero] at hcp hc4
  have B4 := Kh b4; have BP := Kh bp; clear b4 bp
  have hsz := hgr.size
  by_cases hp : 0 < r
  ·go_wp2_with fail
   refine (pN B tb _ letters 2 h1 h6 (by omega) (by omega) hTr).mono ?_
   rintro e w3 ⟨l, rfl, hl, hok, hT3, hg3⟩
   have hs3 := hg3.size
   have B4' := Kh (zA B4.out hg3 (by simp; omega))
   have BP' := Kh (zA BP.out hg3 (by simp; omega))
   have hcp := zO BP'.out 0 (by simp)
   have hfp := zE BP'.out 0
   simp only [List.getElem_toArray, List.getElem_cons_zero] at hcp
   have hown3 := xO hown hg3 (by simp; omega)
   have hgr3 := zH hgr hg3
   clear hown hTr hgr hg3 B4 BP hc4 hf4
   by_cases hl0 : l = []
   ·have hE : (strOfNums l).toList.isEmpty = true := by rw [ByteArray.toList_eq, hl0]; rfl
    have HL := Kh hl0; clear hl0
    by_cases h1r : 1 < r
    ·go_wp2_with (at_builtin; refine app1 rfl _ _ _ rfl tL w1.heap.size _ bs.length (strs bs) rfl hown3 _ rfl rfl ?c1 ?c2 ?c3 ?_)
     case c1 => unfold maxLen; omega
     case c2 => omega
     case c3 => omega
     intro sa' sc' w4 hown4 hg4 hlt4
     have hb := fun k (e : (Value.slice sa bs.length sc).ownBlock = some k) => (hown3.lt k e).1
     have hT4 := hT3.kept hg4 (fun k e => by have := hb k e; omega)
     have hgr4 := zB hgr3 hg4 (fun k e => by have := hb k e; omega)
     have B5 := Kh (zA B4'.out hg4 (fun e => by have := hb _ e; omega))
     have BP5 := Kh (zA BP'.out hg4 (zK hown3 BP'.out (by decide)))
     have hcp5 := zO BP5.out 0 (by simp)
     have hfp5 := zE BP5.out 0
     simp only [List.getElem_toArray, List.getElem_cons_zero] at hcp5
     clear hown3 hT3 hgr3 hg4 B4' BP' hb hcp hfp
     go_wp2
     go_roundw
     case rel =>
      refine ⟨sa', sc', bs ++ [[97]], r - 1, by go_num, by omega, by simp; omega, vR hgood hp (by simp) (fun n hn => by simp at hn; subst hn; exact ⟨by omega, by omega⟩) (fun _ => by simp), ?_, ?_, ?_, hT4.kept (zC _ _ _) (by simp; omega), zB hgr4 (zC _ _ _) (by simp; omega)⟩
      ·exact zA B5.out (zC _ _ _) (by simp; omega)
      ·exact by rw [List.length_append]; exact heap_setCell_same _ _ 0 _ _ _ BP5.out
      ·rw [List.length_append]
       have hk := hown4.kept (zC w4 ⟨w1.heap.size + 1, 0, none⟩ (.slice sa' (bs.length + 1) sc')) (.inr (zK hown4 BP5.out (by decide)))
       simpa [strs, strOfNums] using hk
     case measure => simp [intOf]; omega
    ·go_wp2_with (at_builtin; refine app1 rfl _ _ _ rfl tL w1.heap.size _ bs.length (strs bs) rfl hown3 _ rfl rfl ?c1 ?c2 ?c3 ?_)
     case c1 => unfold maxLen; omega
     case c2 => omega
     case c3 => omega
     intro sa' sc' w4 hown4 hg4 hlt4
     have hb := fun k (e : (Value.slice sa bs.length sc).ownBlock = some k) => (hown3.lt k e).1
     have hT4 := hT3.kept hg4 (fun k e => by have := hb k e; omega)
     have hgr4 := zB hgr3 hg4 (fun k e => by have := hb k e; omega)
     have B5 := Kh (zA B4'.out hg4 (fun e => by have := hb _ e; omega))
     have BP5 := Kh (zA BP'.out hg4 (zK hown3 BP'.out (by decide)))
     have hcp5 := zO BP5.out 0 (by simp)
     have hfp5 := zE BP5.out 0
     simp only [List.getElem_toArray, List.getElem_cons_zero] at hcp5
     clear hown3 hT3 hgr3 hg4 B4' BP' hb hcp hfp
     go_wp2
     go_roundw
     case rel =>
      refine ⟨sa', sc', bs ++ [l], r - 1, by go_num, by omega, by simp; omega, vR hgood hp (by omega) hok (fun h => by omega), ?_, ?_, ?_, hT4.kept (zC _ _ _) (by simp; omega), zB hgr4 (zC _ _ _) (by simp; omega)⟩
      ·exact zA B5.out (zC _ _ _) (by simp; omega)
      ·exact by rw [List.length_append]; exact heap_setCell_same _ _ 0 _ _ _ BP5.out
      ·rw [List.length_append]
       have hk := hown4.kept (zC w4 ⟨w1.heap.size + 1, 0, none⟩ (.slice sa' (bs.length + 1) sc')) (.inr (zK hown4 BP5.out (by decide)))
       simpa [strs] using hk
     case measure => simp [intOf]; omega
   ·have hE : (strOfNums l).toList.isEmpty = false := by
     rw [ByteArray.toList_eq, strOfNums_data, List.isEmpty_eq_false_iff]; simpa using hl0
    have HL := Kh hl0; clear hl0
    by_cases h1r : 1 < r
    all_goals
     go_wp2_with (at_builtin; refine app1 rfl _ _ _ rfl tL w1.heap.size _ bs.length (strs bs) rfl hown3 _ rfl rfl ?c1 ?c2 ?c3 ?_)
     case c1 => unfold maxLen; omega
     case c2 => omega
     case c3 => omega
     intro sa' sc' w4 hown4 hg4 hlt4
     have hb := fun k (e : (Value.slice sa bs.length sc).ownBlock = some k) => (hown3.lt k e).1
     have hT4 := hT3.kept hg4 (fun k e => by have := hb k e; omega)
     have hgr4 := zB hgr3 hg4 (fun k e => by have := hb k e; omega)
     have B5 := Kh (zA B4'.out hg4 (fun e => by have := hb _ e; omega))
     have BP5 := Kh (zA BP'.out hg4 (zK hown3 BP'.out (by decide)))
     have hcp5 := zO BP5.out 0 (by simp)
     have hfp5 := zE BP5.out 0
     simp only [List.getElem_toArray, List.getElem_cons_zero] at hcp5
     clear hown3 hT3 hgr3 hg4 B4' BP' hb hcp hfp
     go_wp2
     go_roundw
     case rel =>
      refine ⟨sa', sc', bs ++ [l], r - 1, by go_num, by omega, by simp; omega, vR hgood hp (by omega) hok (fun _ => HL.out), ?_, ?_, ?_, hT4.kept (zC _ _ _) (by simp; omega), zB hgr4 (zC _ _ _) (by simp; omega)⟩
      ·exact zA B5.out (zC _ _ _) (by simp; omega)
      ·exact by rw [List.length_append]; exact heap_setCell_same _ _ 0 _ _ _ BP5.out
      ·rw [List.length_append]
       have hk := hown4.kept (zC w4 ⟨w1.heap.size + 1, 0, none⟩ (.slice sa' (bs.length + 1) sc')) (.inr (zK hown4 BP5.out (by decide)))
       simpa [strs] using hk
     case measure => simp [intOf]; omega
  ·have hg4 : wr.grownBy (wr.setCell ⟨w.heap.size, 0, none⟩ (.slice sa bs.length sc)) (some w.heap.size) := zC _ _ _
   have hown4 := hown.kept hg4 (.inr (zK hown B4.out (by decide)))
   have hgr4 := zB hgr hg4 (by simp)
   have hT4 := hTr.kept hg4 (by simp; omega)
   have hsz4 := hg4.size
   go_wp2
   refine bodyPost_ret (v := .agg #[.slice sa bs.length sc]) (by simp [results, Try.results17, go_sem, hc4]) rfl ⟨_, bs, rfl, Row.of_owns hown4, goodSoFar_done (by omega) (by omega) hgood, hT4, hgr4⟩
end Go.Proofs.Ytgbfaggnnfoamaa
