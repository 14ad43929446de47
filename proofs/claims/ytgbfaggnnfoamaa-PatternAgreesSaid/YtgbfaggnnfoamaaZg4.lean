/- Part 4 of the proof: Match. -/
import Derived.Test.YtgbfaggnnfoamaaZg3
set_option linter.unusedVariables false
set_option linter.unusedSimpArgs false
namespace Go.Proofs.Ytgbfaggnnfoamaa
open Go.RowKit
def SomeLen (w : World) : Prop := 0 < w.heap.size ∧ ∃ m : Int, w.cell? ⟨0, 0, none⟩ = some (.int .i64 m)
theorem SomeLen.kept {w w' : World} {row : Option Nat} (h : SomeLen w) (hg : w.grownBy w' row) (hr : row ≠ some 0) : SomeLen w' :=
 ⟨Nat.lt_of_lt_of_le h.1 hg.size, h.2.imp fun _ hm => (World.cell?_of_block (hg.block _ h.1 (fun e => hr e.symm))).trans hm⟩
def wO : List (List UInt8) → List UInt8 → Option (List UInt8)
 | [], r => some r
 | u :: us, r => if (Lib.cut r u).2.2 then wO us (Lib.cut r u).2.1 else none
def tH (bs : List (List UInt8)) (r v : List UInt8) : Bool := match wO bs r with
 | some r => Lib.hasSuffix r v
 | none => false
def xE (bs : List (List UInt8)) (s : List UInt8) : Bool :=
 match bs with
 | [] => false
 | [b] => s == b
 | b :: rest => Lib.hasPrefix s b && tH rest.dropLast (s.drop b.length) (rest.getLastD [])
def yH (bs : List ByteArray) (s : ByteArray) : Bool := decide (zN bs 6 = 0) && (zM s 6 && xE (bs.map (·.data.toList)) s.data.toList)
theorem xD {bs : List ByteArray} {letters : Int} (h : zN bs letters = 0) : 1 ≤ letters ∧ letters ≤ 6 ∧ bs.length ≤ 8 ∧ wB bs ≤ 64 ∧ 0 < bs.length ∧ yP bs.length letters 0 bs = true := by
 unfold zN at h
 split at h
 ·omega
 split at h
 ·omega
 split at h
 ·omega
 split at h
 ·omega
 split at h
 ·exact ⟨by omega, by omega, by omega, by omega, by omega, by assumption⟩
 ·omega
theorem patMatch_one {bs : List ByteArray} {s : ByteArray} (h : zN bs 6 = 0) (hW : zM s 6 = true) (h1 : bs.length = 1) (h0 : 0 < bs.length) : yH bs s = (s.toList == bs[0].toList) := by
 match bs, h1 with
 | [b], _ => simp [yH, h, hW, xE, ByteArray.toList_eq]
def mid (bs : List ByteArray) : List (List UInt8) := ((bs.map (·.data.toList)).drop 1).dropLast
theorem tG (bs : List ByteArray) : (mid bs).length = bs.length - 1 - 1 := by simp [mid]
theorem lK (bs : List ByteArray) (k : Nat) (h : k < bs.length - 1 - 1) : (mid bs)[k]'(by rw [tG]; exact h) = bs[1 + k].data.toList := by
 simp [mid, Nat.add_comm]
theorem findAll_step (bs : List ByteArray) (r : List UInt8) (k : Nat) (h : k < bs.length - 1 - 1) (hf : (Lib.cut r bs[1 + k].data.toList).2.2 = true) :
  wO ((mid bs).drop (k + 1)) (Lib.cut r bs[1 + k].data.toList).2.1 = wO ((mid bs).drop k) r := by
 rw [List.drop_eq_getElem_cons (show k < (mid bs).length by rw [tG]; exact h), lK bs k h]
 simp [wO, hf]
theorem findAll_stop (bs : List ByteArray) (r : List UInt8) (k : Nat) (h : k < bs.length - 1 - 1) (hf : ¬ (Lib.cut r bs[1 + k].data.toList).2.2 = true) :
  wO ((mid bs).drop k) r = none := by
 rw [List.drop_eq_getElem_cons (show k < (mid bs).length by rw [tG]; exact h), lK bs k h]
 simp [wO, hf]
theorem cut_le (r u : List UInt8) : (Lib.cut r u).2.1.length ≤ r.length := by
 unfold Lib.cut
 split
 ·simp
 ·simp
theorem two_le {α : Type} {bs : List α} (h0 : 0 < bs.length) (h1 : bs.length ≠ 1) : ∃ b c rest, bs = b :: c :: rest := by
 match bs, h0, h1 with
 | b :: c :: rest, _, _ => exact ⟨b, c, rest, rfl⟩
theorem patMatch_none {bs : List ByteArray} {s : ByteArray} (h0 : 0 < bs.length) (h1 : bs.length ≠ 1) (hF : wO (mid bs) (Lib.trimPrefix s.data.toList bs[0].data.toList) = none) : yH bs s = false := by
 match bs, h0, h1 with
 | b :: c :: rest, _, _ =>
  by_cases hP : Lib.hasPrefix s.data.toList b.data.toList = true
  ·have e : Lib.trimPrefix s.data.toList b.data.toList = s.data.toList.drop b.data.toList.length := by simp only [Lib.trimPrefix, hP, if_true]
   simp only [List.getElem_cons_zero, e, mid, List.map_cons, List.drop_succ_cons, List.drop_zero] at hF
   simp only [yH, xE, List.map_cons, tH, hF, Bool.and_false]
  ·simp only [Bool.not_eq_true] at hP
   simp [yH, xE, hP]
theorem patMatch_end {bs : List ByteArray} {s : ByteArray} {r : List UInt8} (h : zN bs 6 = 0) (hW : zM s 6 = true) (h0 : 0 < bs.length) (h1 : bs.length ≠ 1) (hP : Lib.hasPrefix s.data.toList bs[0].data.toList = true)
  (hF : wO (mid bs) (Lib.trimPrefix s.data.toList bs[0].data.toList) = some r) : yH bs s = Lib.hasSuffix r bs[bs.length - 1].data.toList := by
 have hl : (bs.drop 1).map (·.data.toList) ≠ [] := by
  intro e; have := congrArg List.length e; simp at this; omega
 have hg : ((bs.drop 1).map (·.data.toList)).getLastD [] = bs[bs.length - 1].data.toList := by
  rw [List.getLastD_eq_getLast?, List.getLast?_eq_getElem?]
  simp only [List.length_map, List.length_drop, List.getElem?_map, List.getElem?_drop]
  rw [show 1 + (bs.length - 1 - 1) = bs.length - 1 by omega, List.getElem?_eq_getElem (by omega)]
  rfl
 obtain ⟨b, c, rest, rfl⟩ := two_le h0 h1
 ·have hP' : Lib.hasPrefix s.data.toList b.data.toList = true := hP
  have e : Lib.trimPrefix s.data.toList b.data.toList = s.data.toList.drop b.data.toList.length := by simp only [Lib.trimPrefix, hP', if_true]
  simp only [List.getElem_cons_zero, e, mid, List.map_cons, List.drop_succ_cons, List.drop_zero] at hF
  simp only [List.drop_succ_cons, List.drop_zero, List.map_cons] at hg
  simp only [yH, h, hW, decide_true, Bool.true_and, xE, List.map_cons, tH, hF, hP', hg]
theorem trim_le {s : ByteArray} {b : List UInt8} {bs : List ByteArray} (_h : zN bs 6 = 0) (hW : zM s 6 = true) : (Lib.trimPrefix s.data.toList b).length ≤ 2048 := by
 have hs : s.size ≤ 2048 := by simp [zM] at hW; omega
 have e : s.data.toList.length = s.size := by simp
 unfold Lib.trimPrefix
 split
 ·rw [List.length_drop]; omega
 ·omega
theorem patMatch_nopre {bs : List ByteArray} {s : ByteArray} (h0 : 0 < bs.length) (h1 : bs.length ≠ 1) (hP : ¬ Lib.hasPrefix s.data.toList bs[0].data.toList = true) : yH bs s = false := by
 match bs, h0, h1 with
 | b :: c :: rest, _, _ =>
  simp only [List.getElem_cons_zero, Bool.not_eq_true] at hP
  simp [yH, xE, hP]
set_option maxRecDepth 100000 in
set_option maxHeartbeats 400000 in
theorem qR (b off cap : Nat) (bs : List ByteArray) (s : ByteArray) (w : World) (hcap : bs.length ≤ cap) (hcm : cap ≤ maxLen)
  (hra : xN w b off (bs.map .string)) (hs : ∀ i (h : i < bs.length), bs[i].size ≤ 140737488351232) (hss : s.size ≤ 140737488351232) (hL : SomeLen w) :
  Calls Try.prog 19 #[.agg #[.slice (some ⟨b, off, none⟩) bs.length cap], .string s] w fun e w' => e = .returned (.bool (yH bs s)) ∧ w.grownBy w' none := by
 have g0 := World.grownBy_alloc w (.cells #[.slice (some ⟨b, off, none⟩) bs.length cap] 36) none
 have ra0 := hra.kept g0 (by simp)
 go_enter Try.func19, Try.ntmps19
 go_wp2_with fail
 have bx0 := heap_alloc_new w (.cells #[.slice (some ⟨b, off, none⟩) bs.length cap] 36)
 refine (validate_any b off cap bs 6 _ hcap hcm (fun i h => ra0.map i h) ra0.1 hs).mono ?_
 rintro e w1 ⟨rfl, g1⟩
 have ra1 := ra0.kept g1 (by simp)
 have hc1 := zO (zA bx0 g1 (by simp)) 0 (by simp)
 simp only [List.getElem_toArray, List.getElem_cons_zero] at hc1
 have hL1 := (hL.kept g0 (by simp)).kept g1 (by simp)
 have gw := zH g0 g1
 clear g0 ra0 bx0 g1 hra
 by_cases hV : zN bs 6 = 0
 ·have hV' : (zN bs 6 != 0) = false := by simp [hV]
  have HV := Kh hV; clear hV
  go_wp2_with fail
  refine (wR s 6 _ (by unfold maxLen; omega)).mono ?_
  rintro e w2 ⟨rfl, rfl⟩
  have hz := xD HV.out
  have hn0 : 0 < bs.length := hz.2.2.2.2.1
  have hn8 : bs.length ≤ 8 := hz.2.2.1
  have hc0 := ra1.map 0 hn0
  rw [Nat.add_zero] at hc0
  have hcm' : cap ≤ 9223372036854775807 := by unfold maxLen at hcm; omega
  have hCM := Kh hcm; clear hz hcm
  by_cases hW : zM s 6 = true
  ·by_cases h1 : bs.length = 1
   ·have h1' : ((bs.length : Int) - 1 == 0) = true := by simp [h1]
    have H1 := Kh h1; clear h1
    go_wp2
    go_ret
    exact ⟨yY (patMatch_one HV.out hW H1.out hn0).symm, gw⟩
   ·have h1' : ((bs.length : Int) - 1 == 0) = false := by rw [beq_eq_false_iff_ne]; omega
    go_wp2_with fail
    refine (Try.strings_CutPrefix _ _ _).mono ?_
    rintro e w2 ⟨rfl, rfl⟩
    by_cases hP : Lib.hasPrefix s.data.toList bs[0].data.toList = true
    ·go_wp2
     go_loopw [6, 46] (fun rs i wr => ∃ (k : Nat) (r : List UInt8), k ≤ bs.length - 1 - 1 ∧ i = .int .i64 k ∧ rs = .string ⟨r.toArray⟩ ∧ r.length ≤ 2048 ∧
       wO ((mid bs).drop k) r = wO (mid bs) (Lib.trimPrefix s.data.toList bs[0].data.toList) ∧
       xN wr b off (bs.map .string) ∧ wr.cell? ⟨w.heap.size, 0, none⟩ = some (.slice (some ⟨b, off, none⟩) bs.length cap) ∧ SomeLen wr ∧ w.grownBy wr none)
      (fun _ i _ => bs.length - (intOf i).toNat)
     case atStart => exact ⟨0, _, Nat.zero_le _, rfl, rfl, trim_le HV.out hW, rfl, ra1, hc1, hL1, gw⟩
     case round =>
      clear ra1 hc1 hL1 gw hc0
      obtain ⟨k, r, hk, rfl, rfl, hrl, hfind, rar, hcr, hLr, gr⟩ := hrel
      have HF := Kh hfind; clear hfind
      by_cases hlt : k < bs.length - 1 - 1
      ·have hck := rar.map (1 + k) (by omega)
       rw [← Nat.add_assoc] at hck
       have hlt' : (k : Int) < ((bs.length - 1 - 1 : Nat) : Int) := by omega
       go_wp2_with fail
       obtain ⟨_, m, hm⟩ := id hLr
       refine (Try.strings_Cut _ _ m _ (by
        have : (ByteArray.mk r.toArray).size = r.toArray.size := rfl
        rw [this, List.size_toArray]; omega) hm).mono ?_
       rintro e w3 ⟨rfl, m', rfl⟩
       have hcl := cut_le r bs[1 + k].data.toList
       by_cases hf : (Lib.cut r bs[1 + k].data.toList).2.2 = true
       ·go_wp2
        go_roundw
        case rel =>
         exact ⟨k + 1, _, by omega, by go_num, rfl, by omega, by rw [← HF.out]; exact findAll_step bs r k hlt hf, rar.of_heap rfl, hcr, hLr.kept (yT _ _ none) (by simp), zH gr (yT _ _ _)⟩
        case measure => simp [intOf]; omega
       ·go_wp2
        go_ret
        exact ⟨yY (by rw [eq_comm]; exact patMatch_none (by omega) (by omega) (by rw [← HF.out]; exact findAll_stop bs r k hlt hf)), zH gr (yT _ _ _)⟩
      ·have hcl := rar.map (bs.length - 1) (by omega)
       have hi1 : ((bs.length : Int) - 1).toNat = bs.length - 1 := by omega
       have hi2 : (bs.length : Int) - 1 < bs.length := by omega
       have hi3 : 0 ≤ (bs.length : Int) - 1 := by omega
       go_wp2_with fail
       refine (Try.strings_HasSuffix _ _ _ (by
        have : (ByteArray.mk r.toArray).size = r.toArray.size := rfl
        rw [this, List.size_toArray]; omega)).mono ?_
       rintro e w3 ⟨rfl, rfl⟩
       go_wp2
       go_ret
       refine ⟨yY ?_, gr⟩
       rw [eq_comm]
       refine patMatch_end HV.out hW (by omega) (by omega) hP ?_
       rw [← HF.out, List.drop_eq_nil_of_le (by rw [tG]; omega)]
       rfl
    ·go_wp2
     go_ret
     exact ⟨yY (by rw [eq_comm]; exact patMatch_nopre (by omega) (by omega) hP), gw⟩
  ·go_wp2
   go_ret
   exact ⟨yY (by simp [yH, hW]), gw⟩
 ·have hV' : (zN bs 6 != 0) = true := by simpa using hV
  have HV := Kh hV; clear hV
  go_wp2
  go_ret
  exact ⟨yY (by simp [yH, HV.out]), gw⟩
end Go.Proofs.Ytgbfaggnnfoamaa
