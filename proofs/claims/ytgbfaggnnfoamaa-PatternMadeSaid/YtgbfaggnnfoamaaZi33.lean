/- Part 33 of the proof: MatchW, MadePat. -/
import Derived.Test.YtgbfaggnnfoamaaZi32
set_option linter.unusedVariables false
set_option linter.unusedSimpArgs false
namespace Go.Proofs.Ytgbfaggnnfoamaa
open Go.RowKit
set_option maxRecDepth 100000 in
set_option maxHeartbeats 400000 in
theorem match_anyW (b off cap : Nat) (bs : List ByteArray) (s : ByteArray) (w : World) (hcap : bs.length ≤ cap) (hcm : cap ≤ maxLen)
  (hra : wE w b off (bs.map .string)) (hs : ∀ i (h : i < bs.length), bs[i].size ≤ maxLen) (hss : s.size ≤ maxLen) (hL : SomeLen w) :
  Calls Try.prog 19 #[.agg #[.slice (some ⟨b, off, none⟩) bs.length cap], .string s] w fun e w' => e = .returned (.bool (yM bs s)) ∧ w.grownBy w' none := by
 have hss' : s.size ≤ 9223372036854775807 := by unfold maxLen at hss; omega
 have g0 := World.grownBy_alloc w (.cells #[.slice (some ⟨b, off, none⟩) bs.length cap] 36) none
 have ra0 := hra.kept g0 (by simp)
 go_enter Try.func19, Try.ntmps19
 go_wp2_with fail
 have bx0 := heap_alloc_new w (.cells #[.slice (some ⟨b, off, none⟩) bs.length cap] 36)
 have hrow : Row (b + 1) (w.alloc (.cells #[.slice (some ⟨b, off, none⟩) bs.length cap] 36)) (.slice (some ⟨b, off, none⟩) bs.length cap) (txtV bs) := .inr ⟨b, off, cap, by rw [zR], by omega, by rw [zR]; exact hcap, hcm, ra0⟩
 refine (pM (b + 1) _ _ bs 6 hrow hs).mono ?_
 rintro e w1 ⟨rfl, g1⟩
 have ra1 := ra0.kept g1 (by simp)
 have hc1 := zK (zA bx0 g1 (by simp)) 0 (by simp)
 simp only [List.getElem_toArray, List.getElem_cons_zero] at hc1
 have hL1 := (hL.kept g0 (by simp)).kept g1 (by simp)
 have gw := zE g0 g1
 clear g0 ra0 bx0 g1 hra
 clear hrow
 have hEV : patW bs 6 = 0 ↔ zT bs 6 = 0 := vZ
 obtain ⟨E, hEE⟩ : ∃ E, E = patW bs 6 := ⟨_, rfl⟩
 rw [← hEE] at hEV ⊢
 have HEE := Kh hEE
 clear hEE
 by_cases hV : zT bs 6 = 0
 ·have hE0 : E = 0 := hEV.2 hV
  subst hE0
  clear hEV
  have HV := Kh hV; clear hV
  go_wp2_with fail
  refine (uL s 6 _ (by unfold maxLen; omega)).mono ?_
  rintro e w2 ⟨rfl, rfl⟩
  have hz := wJ HV.out
  have hn0 : 0 < bs.length := hz.2.2.2.2.1
  have hn8 : bs.length ≤ 8 := hz.2.2.1
  have hc0 := ra1.map 0 hn0
  rw [Nat.add_zero] at hc0
  have hcm' : cap ≤ 9223372036854775807 := by unfold maxLen at hcm; omega
  have hCM := Kh hcm; clear hz hcm
  by_cases hW : zU s 6 = true
  ·by_cases h1 : bs.length = 1
   ·have h1' : ((bs.length : Int) - 1 == 0) = true := by simp [h1]
    have H1 := Kh h1; clear h1
    go_wp2
    go_ret
    exact ⟨zW (oZ HV.out hW H1.out hn0).symm, gw⟩
   ·have h1' : ((bs.length : Int) - 1 == 0) = false := by rw [beq_eq_false_iff_ne]; omega
    go_wp2_with fail
    refine (Try.strings_CutPrefix _ _ _).mono ?_
    rintro e w2 ⟨rfl, rfl⟩
    by_cases hP : Lib.hasPrefix s.data.toList bs[0].data.toList = true
    ·go_wp2
     go_loopw [6, 46] (fun rs i wr => ∃ (k : Nat) (r : List UInt8), k ≤ bs.length - 1 - 1 ∧ i = .int .i64 k ∧ rs = .string ⟨r.toArray⟩ ∧ r.length ≤ 2048 ∧
       vP ((mid bs).drop k) r = vP (mid bs) (Lib.trimPrefix s.data.toList bs[0].data.toList) ∧
       wE wr b off (bs.map .string) ∧ wr.cell? ⟨w.heap.size, 0, none⟩ = some (.slice (some ⟨b, off, none⟩) bs.length cap) ∧ SomeLen wr ∧ w.grownBy wr none)
      (fun _ i _ => bs.length - (intOf i).toNat)
     case atStart => exact ⟨0, _, Nat.zero_le _, rfl, rfl, trim_le HV.out hW, rfl, ra1, hc1, hL1, gw⟩
     case round =>
      clear ra1 hc1 hL1 gw hc0
      obtain ⟨k, r, hk, rfl, rfl, hrl, hfind, rar, hcr, hLr, gr⟩ := hrel
      have HF := Kh hfind; clear hfind
      by_cases hlt : k < bs.length - 1 - 1
      ·have hck := rar.map (1 + k) (by omega)
       rw [← Nat.add_assoc] at hck
       have hlt' : (k : Int) < ((bs.length - 1 - 1 : Nat) : Int) := by omega
       go_wp2_with fail
       obtain ⟨_, m, hm⟩ := id hLr
       refine (Try.strings_Cut _ _ m _ (by
        have : (ByteArray.mk r.toArray).size = r.toArray.size := rfl
        rw [this, List.size_toArray]; omega) hm).mono ?_
       rintro e w3 ⟨rfl, m', rfl⟩
       have hcl := cut_le r bs[1 + k].data.toList
       by_cases hf : (Lib.cut r bs[1 + k].data.toList).2.2 = true
       ·go_wp2
        go_roundw
        case rel =>
         exact ⟨k + 1, _, by omega, by go_num, rfl, by omega, by rw [← HF.out]; exact nH bs r k hlt hf, rar.of_heap rfl, hcr, hLr.kept (zJ _ _ none) (by simp), zE gr (zJ _ _ _)⟩
        case measure => simp [intOf]; omega
       ·go_wp2
        go_ret
        exact ⟨zW (by rw [eq_comm]; exact pO (by omega) (by omega) (by rw [← HF.out]; exact nG bs r k hlt hf)), zE gr (zJ _ _ _)⟩
      ·have hcl := rar.map (bs.length - 1) (by omega)
       have hi1 : ((bs.length : Int) - 1).toNat = bs.length - 1 := by omega
       have hi2 : (bs.length : Int) - 1 < bs.length := by omega
       have hi3 : 0 ≤ (bs.length : Int) - 1 := by omega
       go_wp2_with fail
       refine (Try.strings_HasSuffix _ _ _ (by
        have : (ByteArray.mk r.toArray).size = r.toArray.size := rfl
        rw [this, List.size_toArray]; omega)).mono ?_
       rintro e w3 ⟨rfl, rfl⟩
       go_wp2
       go_ret
       refine ⟨zW ?_, gr⟩
       rw [eq_comm]
       refine nC HV.out hW (by omega) (by omega) hP ?_
       rw [← HF.out, List.drop_eq_nil_of_le (by rw [vU]; omega)]
       rfl
    ·go_wp2
     go_ret
     exact ⟨zW (by rw [eq_comm]; exact qO (by omega) (by omega) hP), gw⟩
  ·go_wp2
   go_ret
   exact ⟨zW (by simp [yM, hW]), gw⟩
 ·have hV'' : (E != 0) = true := by rw [bne_iff_ne]; exact fun e => hV (hEV.1 e)
  have hV' : (E == 0) = false := by rw [beq_eq_false_iff_ne]; exact fun e => hV (hEV.1 e)
  clear hEV
  have HV := Kh hV; clear hV
  go_wp2
  go_ret
  exact ⟨zW (by simp [yM, HV.out]), gw⟩
theorem qD : ElemOk Try.prog 34 9 (.string ⟨#[]⟩) 16 := ⟨Try.underlying34, by kernel_rfl, rfl⟩
def goodBlock (letters : Int) (inner : Bool) (l : List Int) : Prop := l.length ≤ 2 ∧ (∀ n ∈ l, qH letters n) ∧ (inner = true → l ≠ [])
def rZ (letters : Int) (bs : List (List Int)) : Prop := bs.length ≤ 4 ∧ bs ≠ [] ∧ ∀ i (h : i < bs.length), goodBlock letters (decide (0 < i ∧ i + 1 < bs.length)) bs[i]
def rI (letters : Int) (r : Int) (bs : List (List Int)) : Prop := bs ≠ [] ∧ ∀ i (h : i < bs.length), goodBlock letters (decide (0 < i ∧ ((i : Int) + 1 < bs.length + r))) bs[i]
def strs (bs : List (List Int)) : List Value := bs.map fun l => .string (strOfNums l)
theorem goodSoFar_one (letters r : Int) (l : List Int) (hl : l.length ≤ 2) (h : ∀ n ∈ l, qH letters n) : rI letters r [l] := by
 refine ⟨by simp, fun i hi => ?_⟩
 have : i = 0 := by simpa using hi
 subst this
 exact ⟨hl, h, by simp⟩
theorem tP {letters r : Int} {bs : List (List Int)} {l : List Int} (h : rI letters r bs) (hr : 0 < r) (hl : l.length ≤ 2) (hok : ∀ n ∈ l, qH letters n) (hne : 1 < r → l ≠ []) : rI letters (r - 1) (bs ++ [l]) := by
 refine ⟨by simp, fun i hi => ?_⟩
 rw [List.length_append, List.length_singleton] at hi
 have e1 : ((bs ++ [l]).length : Int) + (r - 1) = bs.length + r := by simp; omega
 rw [e1]
 by_cases hb : i < bs.length
 ·rw [List.getElem_append_left hb]; exact h.2 i hb
 ·have : i = bs.length := by omega
  subst this
  rw [List.getElem_append_right (by omega)]
  simp only [Nat.sub_self, List.getElem_cons_zero]
  exact ⟨hl, hok, fun hin => hne (by simp at hin; omega)⟩
theorem goodSoFar_done {letters r : Int} {bs : List (List Int)} (hr : r = 0) (hl : bs.length ≤ 4) (h : rI letters r bs) : rZ letters bs := by
 refine ⟨hl, h.1, fun i hi => ?_⟩
 have := h.2 i hi
 rwa [show decide (0 < i ∧ (i : Int) + 1 < bs.length + r) = decide (0 < i ∧ i + 1 < bs.length) from decide_eq_decide.2 (by subst hr; omega)] at this
def Patterned (B tb : Nat) (w : World) (letters : Int) (e : Ending) (w' : World) : Prop :=
 ∃ (v : Value) (bs : List (List Int)), e = .returned (.agg #[v]) ∧ Row w'.heap.size w' v (strs bs) ∧ rZ letters bs ∧ wW B w' tb ∧ w.grownBy w' (some tb)
set_option maxRecDepth 100000 in
set_option maxHeartbeats 400000 in
theorem pattern_any (B tb : Nat) (w : World) (letters : Int) (h1 : 1 ≤ letters) (h6 : letters ≤ 6) (hT : wW B w tb) :
  Calls Try.prog 17 #[.pointer (some ⟨tb, 0, none⟩), .int .i64 letters] w (Patterned B tb w letters) := by
 have htb := hT.lt
 have hBt := hT.ge
 go_enter Try.func17, Try.ntmps17
 go_wp2_with fail
 have hT0 := hT.kept (World.grownBy_alloc w (.cells #[.slice none 0 0] 36) none) (by simp)
 refine (kF B tb _ letters 2 h1 h6 (by omega) (by omega) hT0).mono ?_
 rintro e w1 ⟨l0, rfl, hl0, hok0, hT1, hg1⟩
 have hs1 := hg1.size
 simp only [zL] at hs1
 have e4 : w1.heap[w.heap.size]? = some (.cells #[.slice none 0 0] 36 (0, 0)) := zA (heap_alloc_new w _) hg1 (by simp; omega)
 go_wp2_with fail
 refine (nT B tb _ 4 (by omega) ((hT1.kept (World.grownBy_alloc _ _ none) (by simp)).kept (World.grownBy_alloc _ _ none) (by simp))).mono ?_
 rintro e w2 ⟨r0, rfl, hr0, hr1, hT2, hg2⟩
 replace hr1 := hr1 (by omega)
 have hs2 := hg2.size
 simp only [zL] at hs2
 have b4 : w2.heap[w.heap.size]? = some (.cells #[.slice none 0 0] 36 (0, 0)) :=
  zA (zA (zA e4 (World.grownBy_alloc _ _ none) (by simp)) (World.grownBy_alloc _ _ none) (by simp)) hg2 (by simp; omega)
 have bp : w2.heap[w1.heap.size + 1]? = some (.cells #[.slice (some ⟨w1.heap.size, 0, none⟩) 1 1] 36 (0, 0)) :=
  zA (by simpa using heap_alloc_new (w1.alloc (.cells #[.string (strOfNums l0)] 9)) (.cells #[.slice (some ⟨w1.heap.size, 0, none⟩) 1 1] 36)) hg2 (by simp; omega)
 have ho : w2.ownsRow w1.heap.size 9 1 (.slice (some ⟨w1.heap.size, 0, none⟩) 1 1) 1 (strs [l0]) :=
  yQ ((World.ownsRow_lit w1 #[.string (strOfNums l0)] 1 (Nat.le_refl _) (by unfold maxLen; omega) (by simp)).alloc _) hg2 (by simp; omega)
 have hgw : w.grownBy w2 (some tb) := zE (yV (yV (zE (World.grownBy_alloc _ _ _) hg1) _) _) hg2
 have E4 := Kh e4; have B4 := Kh b4; have BP := Kh bp; clear e4 b4 bp
 go_wp2
 go_loopw [6] (fun i wr => ∃ (sa : Option Addr) (sc : Nat) (bs : List (List Int)) (r : Int), i = .int .i64 r ∧ 0 ≤ r ∧ (bs.length : Int) + r ≤ 4 ∧ rI letters r bs ∧
   wr.heap[w.heap.size]? = some (.cells #[.slice none 0 0] 36 (0, 0)) ∧ wr.heap[w1.heap.size + 1]? = some (.cells #[.slice sa bs.length sc] 36 (0, 0)) ∧
   wr.ownsRow w1.heap.size 9 1 (.slice sa bs.length sc) bs.length (strs bs) ∧ wW B wr tb ∧ w.grownBy wr (some tb))
  (fun i _ => (intOf i).toNat)
 case atStart => exact ⟨some ⟨w1.heap.size, 0, none⟩, 1, [l0], r0, rfl, hr0, by simp; omega, goodSoFar_one letters r0 l0 (by omega) hok0, B4.out, BP.out, ho, hT2, hgw⟩
 case round =>
  clear ho hgw hT2 hg2
  obtain ⟨sa, sc, bs, r, rfl, hr0, hlr, hgood, b4, bp, hown, hTr, hgr⟩ := hrel
  have hpl := zQ bp
  have hcp := zK bp 0 (by simp)
  have hfp := zD bp 0
  have hc4 := zK b4 0 (by simp)
  have hf4 := zD b4 0
  simp only [List.getElem_toArray, List.getElem_cons_zero] at hcp hc4
  have B4 := Kh b4; have BP := Kh bp; clear b4 bp
  have hsz := hgr.size
  by_cases hp : 0 < r
  ·go_wp2_with fail
   refine (kF B tb _ letters 2 h1 h6 (by omega) (by omega) hTr).mono ?_
   rintro e w3 ⟨l, rfl, hl, hok, hT3, hg3⟩
   have hs3 := hg3.size
   have B4' := Kh (zA B4.out hg3 (by simp; omega))
   have BP' := Kh (zA BP.out hg3 (by simp; omega))
   have hcp := zK BP'.out 0 (by simp)
   have hfp := zD BP'.out 0
   simp only [List.getElem_toArray, List.getElem_cons_zero] at hcp
   have hown3 := yQ hown hg3 (by simp; omega)
   have hgr3 := zE hgr hg3
   clear hown hTr hgr hg3 B4 BP hc4 hf4
   by_cases hl0 : l = []
   ·have hE : (strOfNums l).toList.isEmpty = true := by rw [ByteArray.toList_eq, hl0]; rfl
    have HL := Kh hl0; clear hl0
    by_cases h1r : 1 < r
    ·go_wp2_with (at_builtin; refine app1 rfl _ _ _ rfl qD w1.heap.size _ bs.length (strs bs) rfl hown3 _ rfl rfl ?c1 ?c2 ?c3 ?_)
     case c1 => unfold maxLen; omega
     case c2 => omega
     case c3 => omega
     intro sa' sc' w4 hown4 hg4 hlt4
     have hb := fun k (e : (Value.slice sa bs.length sc).ownBlock = some k) => (hown3.lt k e).1
     have hT4 := hT3.kept hg4 (fun k e => by have := hb k e; omega)
     have hgr4 := zB hgr3 hg4 (fun k e => by have := hb k e; omega)
     have B5 := Kh (zA B4'.out hg4 (fun e => by have := hb _ e; omega))
     have BP5 := Kh (zA BP'.out hg4 (zM hown3 BP'.out (by decide)))
     have hcp5 := zK BP5.out 0 (by simp)
     have hfp5 := zD BP5.out 0
     simp only [List.getElem_toArray, List.getElem_cons_zero] at hcp5
     clear hown3 hT3 hgr3 hg4 B4' BP' hb hcp hfp
     go_wp2
     go_roundw
     case rel =>
      refine ⟨sa', sc', bs ++ [[97]], r - 1, by go_num, by omega, by simp; omega, tP hgood hp (by simp) (fun n hn => by simp at hn; subst hn; exact ⟨by omega, by omega⟩) (fun _ => by simp), ?_, ?_, ?_, hT4.kept (zC _ _ _) (by simp; omega), zB hgr4 (zC _ _ _) (by simp; omega)⟩
      ·exact zA B5.out (zC _ _ _) (by simp; omega)
      ·exact by rw [List.length_append]; exact heap_setCell_same _ _ 0 _ _ _ BP5.out
      ·rw [List.length_append]
       have hk := hown4.kept (zC w4 ⟨w1.heap.size + 1, 0, none⟩ (.slice sa' (bs.length + 1) sc')) (.inr (zM hown4 BP5.out (by decide)))
       simpa [strs, strOfNums] using hk
     case measure => simp [intOf]; omega
    ·go_wp2_with (at_builtin; refine app1 rfl _ _ _ rfl qD w1.heap.size _ bs.length (strs bs) rfl hown3 _ rfl rfl ?c1 ?c2 ?c3 ?_)
     case c1 => unfold maxLen; omega
     case c2 => omega
     case c3 => omega
     intro sa' sc' w4 hown4 hg4 hlt4
     have hb := fun k (e : (Value.slice sa bs.length sc).ownBlock = some k) => (hown3.lt k e).1
     have hT4 := hT3.kept hg4 (fun k e => by have := hb k e; omega)
     have hgr4 := zB hgr3 hg4 (fun k e => by have := hb k e; omega)
     have B5 := Kh (zA B4'.out hg4 (fun e => by have := hb _ e; omega))
     have BP5 := Kh (zA BP'.out hg4 (zM hown3 BP'.out (by decide)))
     have hcp5 := zK BP5.out 0 (by simp)
     have hfp5 := zD BP5.out 0
     simp only [List.getElem_toArray, List.getElem_cons_zero] at hcp5
     clear hown3 hT3 hgr3 hg4 B4' BP' hb hcp hfp
     go_wp2
     go_roundw
     case rel =>
      refine ⟨sa', sc', bs ++ [l], r - 1, by go_num, by omega, by simp; omega, tP hgood hp (by omega) hok (fun h => by omega), ?_, ?_, ?_, hT4.kept (zC _ _ _) (by simp; omega), zB hgr4 (zC _ _ _) (by simp; omega)⟩
      ·exact zA B5.out (zC _ _ _) (by simp; omega)
      ·exact by rw [List.length_append]; exact heap_setCell_same _ _ 0 _ _ _ BP5.out
      ·rw [List.length_append]
       have hk := hown4.kept (zC w4 ⟨w1.heap.size + 1, 0, none⟩ (.slice sa' (bs.length + 1) sc')) (.inr (zM hown4 BP5.out (by decide)))
       simpa [strs] using hk
     case measure => simp [intOf]; omega
   ·have hE : (strOfNums l).toList.isEmpty = false := by
     rw [ByteArray.toList_eq, strOfNums_data, List.isEmpty_eq_false_iff]; simpa using hl0
    have HL := Kh hl0; clear hl0
    by_cases h1r : 1 < r
    all_goals
     go_wp2_with (at_builtin; refine app1 rfl _ _ _ rfl qD w1.heap.size _ bs.length (strs bs) rfl hown3 _ rfl rfl ?c1 ?c2 ?c3 ?_)
     case c1 => unfold maxLen; omega
     case c2 => omega
     case c3 => omega
     intro sa' sc' w4 hown4 hg4 hlt4
     have hb := fun k (e : (Value.slice sa bs.length sc).ownBlock = some k) => (hown3.lt k e).1
     have hT4 := hT3.kept hg4 (fun k e => by have := hb k e; omega)
     have hgr4 := zB hgr3 hg4 (fun k e => by have := hb k e; omega)
     have B5 := Kh (zA B4'.out hg4 (fun e => by have := hb _ e; omega))
     have BP5 := Kh (zA BP'.out hg4 (zM hown3 BP'.out (by decide)))
     have hcp5 := zK BP5.out 0 (by simp)
     have hfp5 := zD BP5.out 0
     simp only [List.getElem_toArray, List.getElem_cons_zero] at hcp5
     clear hown3 hT3 hgr3 hg4 B4' BP' hb hcp hfp
     go_wp2
     go_roundw
     case rel =>
      refine ⟨sa', sc', bs ++ [l], r - 1, by go_num, by omega, by simp; omega, tP hgood hp (by omega) hok (fun _ => HL.out), ?_, ?_, ?_, hT4.kept (zC _ _ _) (by simp; omega), zB hgr4 (zC _ _ _) (by simp; omega)⟩
      ·exact zA B5.out (zC _ _ _) (by simp; omega)
      ·exact by rw [List.length_append]; exact heap_setCell_same _ _ 0 _ _ _ BP5.out
      ·rw [List.length_append]
       have hk := hown4.kept (zC w4 ⟨w1.heap.size + 1, 0, none⟩ (.slice sa' (bs.length + 1) sc')) (.inr (zM hown4 BP5.out (by decide)))
       simpa [strs] using hk
     case measure => simp [intOf]; omega
  ·have hg4 : wr.grownBy (wr.setCell ⟨w.heap.size, 0, none⟩ (.slice sa bs.length sc)) (some w.heap.size) := zC _ _ _
   have hown4 := hown.kept hg4 (.inr (zM hown B4.out (by decide)))
   have hgr4 := zB hgr hg4 (by simp)
   have hT4 := hTr.kept hg4 (by simp; omega)
   have hsz4 := hg4.size
   go_wp2
   refine bodyPost_ret (v := .agg #[.slice sa bs.length sc]) (by simp [results, Try.results17, go_sem, hc4]) rfl ⟨_, bs, rfl, Row.of_owns hown4, goodSoFar_done (by omega) (by omega) hgood, hT4, hgr4⟩
end Go.Proofs.Ytgbfaggnnfoamaa
