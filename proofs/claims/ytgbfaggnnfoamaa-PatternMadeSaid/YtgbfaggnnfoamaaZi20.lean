/- Part 20 of the proof: Match, PatMap, MayL, Valid01. -/
import Derived.Test.YtgbfaggnnfoamaaZi19
set_option linter.unusedVariables false
set_option linter.unusedSimpArgs false
namespace Go.Proofs.Ytgbfaggnnfoamaa
open Go.RowKit
def SomeLen (w : World) : Prop := 0 < w.heap.size ∧ ∃ m : Int, w.cell? ⟨0, 0, none⟩ = some (.int .i64 m)
theorem SomeLen.kept {w w' : World} {row : Option Nat} (h : SomeLen w) (hg : w.grownBy w' row) (hr : row ≠ some 0) : SomeLen w' :=
 ⟨Nat.lt_of_lt_of_le h.1 hg.size, h.2.imp fun _ hm => (World.cell?_of_block (hg.block _ h.1 (fun e => hr e.symm))).trans hm⟩
def vP : List (List UInt8) → List UInt8 → Option (List UInt8)
 | [], r => some r
 | u :: us, r => if (Lib.cut r u).2.2 then vP us (Lib.cut r u).2.1 else none
def rX (bs : List (List UInt8)) (r v : List UInt8) : Bool := match vP bs r with
 | some r => Lib.hasSuffix r v
 | none => false
def xD (bs : List (List UInt8)) (s : List UInt8) : Bool :=
 match bs with
 | [] => false
 | [b] => s == b
 | b :: rest => Lib.hasPrefix s b && rX rest.dropLast (s.drop b.length) (rest.getLastD [])
def yM (bs : List ByteArray) (s : ByteArray) : Bool := decide (zT bs 6 = 0) && (zU s 6 && xD (bs.map (·.data.toList)) s.data.toList)
theorem wJ {bs : List ByteArray} {letters : Int} (h : zT bs letters = 0) : 1 ≤ letters ∧ letters ≤ 6 ∧ bs.length ≤ 8 ∧ vF bs ≤ 64 ∧ 0 < bs.length ∧ xF bs.length letters 0 bs = true := by
 unfold zT at h
 split at h
 ·omega
 split at h
 ·omega
 split at h
 ·omega
 split at h
 ·omega
 split at h
 ·exact ⟨by omega, by omega, by omega, by omega, by omega, by assumption⟩
 ·omega
theorem oZ {bs : List ByteArray} {s : ByteArray} (h : zT bs 6 = 0) (hW : zU s 6 = true) (h1 : bs.length = 1) (h0 : 0 < bs.length) : yM bs s = (s.toList == bs[0].toList) := by
 match bs, h1 with
 | [b], _ => simp [yM, h, hW, xD, ByteArray.toList_eq]
def mid (bs : List ByteArray) : List (List UInt8) := ((bs.map (·.data.toList)).drop 1).dropLast
theorem vU (bs : List ByteArray) : (mid bs).length = bs.length - 1 - 1 := by simp [mid]
theorem mid_get (bs : List ByteArray) (k : Nat) (h : k < bs.length - 1 - 1) : (mid bs)[k]'(by rw [vU]; exact h) = bs[1 + k].data.toList := by
 simp [mid, Nat.add_comm]
theorem nH (bs : List ByteArray) (r : List UInt8) (k : Nat) (h : k < bs.length - 1 - 1) (hf : (Lib.cut r bs[1 + k].data.toList).2.2 = true) :
  vP ((mid bs).drop (k + 1)) (Lib.cut r bs[1 + k].data.toList).2.1 = vP ((mid bs).drop k) r := by
 rw [List.drop_eq_getElem_cons (show k < (mid bs).length by rw [vU]; exact h), mid_get bs k h]
 simp [vP, hf]
theorem nG (bs : List ByteArray) (r : List UInt8) (k : Nat) (h : k < bs.length - 1 - 1) (hf : ¬ (Lib.cut r bs[1 + k].data.toList).2.2 = true) :
  vP ((mid bs).drop k) r = none := by
 rw [List.drop_eq_getElem_cons (show k < (mid bs).length by rw [vU]; exact h), mid_get bs k h]
 simp [vP, hf]
theorem cut_le (r u : List UInt8) : (Lib.cut r u).2.1.length ≤ r.length := by
 unfold Lib.cut
 split
 ·simp
 ·simp
theorem two_le {α : Type} {bs : List α} (h0 : 0 < bs.length) (h1 : bs.length ≠ 1) : ∃ b c rest, bs = b :: c :: rest := by
 match bs, h0, h1 with
 | b :: c :: rest, _, _ => exact ⟨b, c, rest, rfl⟩
theorem pO {bs : List ByteArray} {s : ByteArray} (h0 : 0 < bs.length) (h1 : bs.length ≠ 1) (hF : vP (mid bs) (Lib.trimPrefix s.data.toList bs[0].data.toList) = none) : yM bs s = false := by
 match bs, h0, h1 with
 | b :: c :: rest, _, _ =>
  by_cases hP : Lib.hasPrefix s.data.toList b.data.toList = true
  ·have e : Lib.trimPrefix s.data.toList b.data.toList = s.data.toList.drop b.data.toList.length := by simp only [Lib.trimPrefix, hP, if_true]
   simp only [List.getElem_cons_zero, e, mid, List.map_cons, List.drop_succ_cons, List.drop_zero] at hF
   simp only [yM, xD, List.map_cons, rX, hF, Bool.and_false]
  ·simp only [Bool.not_eq_true] at hP
   simp [yM, xD, hP]
theorem nC {bs : List ByteArray} {s : ByteArray} {r : List UInt8} (h : zT bs 6 = 0) (hW : zU s 6 = true) (h0 : 0 < bs.length) (h1 : bs.length ≠ 1) (hP : Lib.hasPrefix s.data.toList bs[0].data.toList = true)
  (hF : vP (mid bs) (Lib.trimPrefix s.data.toList bs[0].data.toList) = some r) : yM bs s = Lib.hasSuffix r bs[bs.length - 1].data.toList := by
 have hl : (bs.drop 1).map (·.data.toList) ≠ [] := by
  intro e; have := congrArg List.length e; simp at this; omega
 have hg : ((bs.drop 1).map (·.data.toList)).getLastD [] = bs[bs.length - 1].data.toList := by
  rw [List.getLastD_eq_getLast?, List.getLast?_eq_getElem?]
  simp only [List.length_map, List.length_drop, List.getElem?_map, List.getElem?_drop]
  rw [show 1 + (bs.length - 1 - 1) = bs.length - 1 by omega, List.getElem?_eq_getElem (by omega)]
  rfl
 obtain ⟨b, c, rest, rfl⟩ := two_le h0 h1
 ·have hP' : Lib.hasPrefix s.data.toList b.data.toList = true := hP
  have e : Lib.trimPrefix s.data.toList b.data.toList = s.data.toList.drop b.data.toList.length := by simp only [Lib.trimPrefix, hP', if_true]
  simp only [List.getElem_cons_zero, e, mid, List.map_cons, List.drop_succ_cons, List.drop_zero] at hF
  simp only [List.drop_succ_cons, List.drop_zero, List.map_cons] at hg
  simp only [yM, h, hW, decide_true, Bool.true_and, xD, List.map_cons, rX, hF, hP', hg]
theorem trim_le {s : ByteArray} {b : List UInt8} {bs : List ByteArray} (_h : zT bs 6 = 0) (hW : zU s 6 = true) : (Lib.trimPrefix s.data.toList b).length ≤ 2048 := by
 have hs : s.size ≤ 2048 := by simp [zU] at hW; omega
 have e : s.data.toList.length = s.size := by simp
 unfold Lib.trimPrefix
 split
 ·rw [List.length_drop]; omega
 ·omega
theorem qO {bs : List ByteArray} {s : ByteArray} (h0 : 0 < bs.length) (h1 : bs.length ≠ 1) (hP : ¬ Lib.hasPrefix s.data.toList bs[0].data.toList = true) : yM bs s = false := by
 match bs, h0, h1 with
 | b :: c :: rest, _, _ =>
  simp only [List.getElem_cons_zero, Bool.not_eq_true] at hP
  simp [yM, xD, hP]
set_option maxRecDepth 100000 in
set_option maxHeartbeats 400000 in
theorem match_any (b off cap : Nat) (bs : List ByteArray) (s : ByteArray) (w : World) (hcap : bs.length ≤ cap) (hcm : cap ≤ maxLen)
  (hra : wE w b off (bs.map .string)) (hs : ∀ i (h : i < bs.length), bs[i].size ≤ 140737488351232) (hss : s.size ≤ 140737488351232) (hL : SomeLen w) :
  Calls Try.prog 19 #[.agg #[.slice (some ⟨b, off, none⟩) bs.length cap], .string s] w fun e w' => e = .returned (.bool (yM bs s)) ∧ w.grownBy w' none := by
 have g0 := World.grownBy_alloc w (.cells #[.slice (some ⟨b, off, none⟩) bs.length cap] 36) none
 have ra0 := hra.kept g0 (by simp)
 go_enter Try.func19, Try.ntmps19
 go_wp2_with fail
 have bx0 := heap_alloc_new w (.cells #[.slice (some ⟨b, off, none⟩) bs.length cap] 36)
 refine (validate_any b off cap bs 6 _ hcap hcm (fun i h => ra0.map i h) ra0.1 hs).mono ?_
 rintro e w1 ⟨rfl, g1⟩
 have ra1 := ra0.kept g1 (by simp)
 have hc1 := zK (zA bx0 g1 (by simp)) 0 (by simp)
 simp only [List.getElem_toArray, List.getElem_cons_zero] at hc1
 have hL1 := (hL.kept g0 (by simp)).kept g1 (by simp)
 have gw := zE g0 g1
 clear g0 ra0 bx0 g1 hra
 by_cases hV : zT bs 6 = 0
 ·have hV' : (zT bs 6 != 0) = false := by simp [hV]
  have HV := Kh hV; clear hV
  go_wp2_with fail
  refine (uL s 6 _ (by unfold maxLen; omega)).mono ?_
  rintro e w2 ⟨rfl, rfl⟩
  have hz := wJ HV.out
  have hn0 : 0 < bs.length := hz.2.2.2.2.1
  have hn8 : bs.length ≤ 8 := hz.2.2.1
  have hc0 := ra1.map 0 hn0
  rw [Nat.add_zero] at hc0
  have hcm' : cap ≤ 9223372036854775807 := by unfold maxLen at hcm; omega
  have hCM := Kh hcm; clear hz hcm
  by_cases hW : zU s 6 = true
  ·by_cases h1 : bs.length = 1
   ·have h1' : ((bs.length : Int) - 1 == 0) = true := by simp [h1]
    have H1 := Kh h1; clear h1
    go_wp2
    go_ret
    exact ⟨zW (oZ HV.out hW H1.out hn0).symm, gw⟩
   ·have h1' : ((bs.length : Int) - 1 == 0) = false := by rw [beq_eq_false_iff_ne]; omega
    go_wp2_with fail
    refine (Try.strings_CutPrefix _ _ _).mono ?_
    rintro e w2 ⟨rfl, rfl⟩
    by_cases hP : Lib.hasPrefix s.data.toList bs[0].data.toList = true
    ·go_wp2
     go_loopw [6, 46] (fun rs i wr => ∃ (k : Nat) (r : List UInt8), k ≤ bs.length - 1 - 1 ∧ i = .int .i64 k ∧ rs = .string ⟨r.toArray⟩ ∧ r.length ≤ 2048 ∧
       vP ((mid bs).drop k) r = vP (mid bs) (Lib.trimPrefix s.data.toList bs[0].data.toList) ∧
       wE wr b off (bs.map .string) ∧ wr.cell? ⟨w.heap.size, 0, none⟩ = some (.slice (some ⟨b, off, none⟩) bs.length cap) ∧ SomeLen wr ∧ w.grownBy wr none)
      (fun _ i _ => bs.length - (intOf i).toNat)
     case atStart => exact ⟨0, _, Nat.zero_le _, rfl, rfl, trim_le HV.out hW, rfl, ra1, hc1, hL1, gw⟩
     case round =>
      clear ra1 hc1 hL1 gw hc0
      obtain ⟨k, r, hk, rfl, rfl, hrl, hfind, rar, hcr, hLr, gr⟩ := hrel
      have HF := Kh hfind; clear hfind
      by_cases hlt : k < bs.length - 1 - 1
      ·have hck := rar.map (1 + k) (by omega)
       rw [← Nat.add_assoc] at hck
       have hlt' : (k : Int) < ((bs.length - 1 - 1 : Nat) : Int) := by omega
       go_wp2_with fail
       obtain ⟨_, m, hm⟩ := id hLr
       refine (Try.strings_Cut _ _ m _ (by
        have : (ByteArray.mk r.toArray).size = r.toArray.size := rfl
        rw [this, List.size_toArray]; omega) hm).mono ?_
       rintro e w3 ⟨rfl, m', rfl⟩
       have hcl := cut_le r bs[1 + k].data.toList
       by_cases hf : (Lib.cut r bs[1 + k].data.toList).2.2 = true
       ·go_wp2
        go_roundw
        case rel =>
         exact ⟨k + 1, _, by omega, by go_num, rfl, by omega, by rw [← HF.out]; exact nH bs r k hlt hf, rar.of_heap rfl, hcr, hLr.kept (zJ _ _ none) (by simp), zE gr (zJ _ _ _)⟩
        case measure => simp [intOf]; omega
       ·go_wp2
        go_ret
        exact ⟨zW (by rw [eq_comm]; exact pO (by omega) (by omega) (by rw [← HF.out]; exact nG bs r k hlt hf)), zE gr (zJ _ _ _)⟩
      ·have hcl := rar.map (bs.length - 1) (by omega)
       have hi1 : ((bs.length : Int) - 1).toNat = bs.length - 1 := by omega
       have hi2 : (bs.length : Int) - 1 < bs.length := by omega
       have hi3 : 0 ≤ (bs.length : Int) - 1 := by omega
       go_wp2_with fail
       refine (Try.strings_HasSuffix _ _ _ (by
        have : (ByteArray.mk r.toArray).size = r.toArray.size := rfl
        rw [this, List.size_toArray]; omega)).mono ?_
       rintro e w3 ⟨rfl, rfl⟩
       go_wp2
       go_ret
       refine ⟨zW ?_, gr⟩
       rw [eq_comm]
       refine nC HV.out hW (by omega) (by omega) hP ?_
       rw [← HF.out, List.drop_eq_nil_of_le (by rw [vU]; omega)]
       rfl
    ·go_wp2
     go_ret
     exact ⟨zW (by rw [eq_comm]; exact qO (by omega) (by omega) hP), gw⟩
  ·go_wp2
   go_ret
   exact ⟨zW (by simp [yM, hW]), gw⟩
 ·have hV' : (zT bs 6 != 0) = true := by simpa using hV
  have HV := Kh hV; clear hV
  go_wp2
  go_ret
  exact ⟨zW (by simp [yM, HV.out]), gw⟩
def midN (k : Nat) : Nat → List (List Nat) → List (List Nat)
 | _, [] => []
 | c, u :: us => xM k c u u.length ++ midN k (c + u.length) us
theorem wG (u : List Nat) (us : List (List Nat)) : yC (u :: us) = u.length + yC us := by simp [yC]
theorem pX (us vs : List (List Nat)) : yC (us ++ vs) = yC us + yC vs := by simp [yC]
theorem sE (k : Nat) : ∀ (us : List (List Nat)) (c : Nat), (midN k c us).length = yC us
 | [], c => rfl
 | u :: us, c => by rw [midN, List.length_append, xW, sE k us, wG]
theorem midN_snoc (k : Nat) (u : List Nat) : ∀ (us : List (List Nat)) (c : Nat), midN k c (us ++ [u]) = midN k c us ++ xM k (c + yC us) u u.length
 | [], c => by simp [midN, yC]
 | v :: us, c => by
  rw [List.cons_append, midN, midN, midN_snoc k u us, wG, List.append_assoc, Nat.add_assoc]
theorem kmpRow_map (k c : Nat) (u : List Nat) (j : Nat) : zl (kmpN k c u j) = kA k c u j := by simp [zl, kmpN, kA]
theorem qN (k c : Nat) (u : List Nat) (m : Nat) : (xM k c u m).map zl = yP k c u m := by
 simp only [xM, yP, List.map_map]
 exact List.map_congr_left fun j _ => kmpRow_map k c u j
theorem tail_map (k : Nat) (v : List Nat) : ∀ (us : List (List Nat)) (c : Nat), (midN k c us ++ sufN k (c + yC us) v).map zl = xC k c (us ++ [v])
 | [], c => by
  show (sufN k (c + 0) v).map zl = _
  rw [sufN, qN]; rfl
 | u :: us, c => by
  have := tail_map k v us (c + u.length)
  rw [List.map_append] at this
  rw [midN, List.append_assoc, List.map_append, qN, wG, ← Nat.add_assoc, List.map_append, this]
  cases us with
  | nil => rfl
  | cons w us => rfl
theorem mH (k : Nat) (b : List Nat) (m : Nat) : (tB k b m).map zl = vM k b m := by
 simp only [tB, vM, List.map_map]
 refine List.map_congr_left fun j _ => ?_
 simp [preN, jJ, zl]
def xH (k : Nat) (bs : List (List Nat)) : List (List Nat) := match bs with
 | [] => []
 | [b] => [List.replicate k 0] ++ tB k b b.length ++ [List.replicate k 0]
 | b :: us => [List.replicate k 0] ++ tB k b b.length ++ midN k (1 + b.length) us.dropLast ++ sufN k (1 + b.length + yC us.dropLast) (us.getLastD [])
theorem zl_zero (k : Nat) : zl (List.replicate k 0) = List.replicate k 0 := by simp [zl]
theorem pat_map (k : Nat) : ∀ (bs : List (List Nat)), (xH k bs).map zl = vN k bs
 | [] => rfl
 | [b] => by
  simp only [xH, vN, xC, List.map_append, mH, List.map_cons, List.map_nil, zl_zero]
  simp
 | b :: c :: us => by
  have h : (c :: us) = (c :: us).dropLast ++ [(c :: us).getLastD []] := by
   rw [List.getLastD_eq_getLast?, List.getLast?_eq_some_getLast (List.cons_ne_nil c us)]
   exact (List.dropLast_concat_getLast (List.cons_ne_nil c us)).symm
  have ht := tail_map k ((c :: us).getLastD []) (c :: us).dropLast (1 + b.length)
  rw [← h] at ht
  simp only [xH, vN, List.append_assoc]
  rw [List.map_append, List.map_append, ht, mH]
  simp [zl_zero]
theorem rA (k : Nat) (b : List Nat) (us : List (List Nat)) : (xH k (b :: us)).length = 2 + b.length + yC us := by
 have := congrArg List.length (pat_map k (b :: us))
 rwa [List.length_map, tL] at this
theorem vI (bs : List ByteArray) : vF bs = yC (bs.map zH) := by
 simp only [vF, yC, List.map_map]
 congr 1
 exact List.map_congr_left fun s _ => (yH s).symm
theorem tN (us : List (List Nat)) (i : Nat) : yC (us.take i) ≤ yC us := by
 have h : us.take i ++ us.drop i = us := List.take_append_drop i us
 have := pX (us.take i) (us.drop i)
 rw [h] at this
 omega
theorem rU {n : Nat} {letters : Int} : ∀ {bs : List ByteArray} {i : Nat}, xF n letters i bs = true → ∀ j (h : j < bs.length), wP n letters (i + j) bs[j] = true
 | [], _, _, j, h => by simp at h
 | u :: us, i, h, j, hj => by
  rw [xF, Bool.and_eq_true] at h
  cases j with
  | zero => exact h.1
  | succ j =>
   have := rU h.2 j (by simpa using hj)
   rw [show i + (j + 1) = i + 1 + j by omega]
   simpa using this
theorem nD {n i : Nat} {letters : Int} {u : ByteArray} (h : wP n letters i u = true) : zU u letters = true ∧ (0 < i → i + 1 < n → 0 < u.size) := by
 rw [wP, Bool.and_eq_true, Bool.not_eq_true', Bool.and_eq_false_iff] at h
 refine ⟨h.1, fun h0 h1 => ?_⟩
 rcases h.2 with h2 | h2
 ·rw [decide_eq_false_iff_not] at h2; exact absurd ⟨h0, h1⟩ h2
 ·rw [ByteArray.toList_eq, List.isEmpty_eq_false_iff] at h2
  have := List.length_pos_iff.2 h2
  rwa [Array.length_toList] at this
theorem jL {bs : List ByteArray} {letters : Int} (h : zT bs letters = 0) : 1 ≤ letters ∧ letters ≤ 6 ∧ 0 < bs.length ∧ bs.length ≤ 8 ∧ vF bs ≤ 64 ∧ (∀ i (hi : i < bs.length), zU bs[i] letters = true) ∧ ∀ i (hi : i < bs.length), 0 < i → i + 1 < bs.length → 0 < bs[i].size := by
 obtain ⟨h1, h2, h3, h4, h5, h6⟩ := wJ h
 refine ⟨h1, h2, h5, h3, h4, fun i hi => ?_, fun i hi h0 h1' => ?_⟩
 ·have := rU h6 i hi
  exact (nD this).1
 ·have := rU h6 i hi
  rw [Nat.zero_add] at this
  exact (nD this).2 h0 h1'
theorem rB {k : Nat} {bs : List ByteArray} (h0 : 0 < bs.length) (ht : vF bs ≤ 64) : 2 ≤ (xH k (bs.map zH)).length ∧ (xH k (bs.map zH)).length ≤ 66 := by
 match bs, h0 with
 | b :: rest, _ =>
  rw [vI, List.map_cons, wG] at ht
  rw [List.map_cons, rA]
  omega
theorem jC {bs : List ByteArray} {i : Nat} (hi : i < bs.length) : bs[i].size ≤ vF bs := by
 have h := rR bs i hi
 have h2 : vF (bs.take (i + 1)) ≤ vF bs := by
  rw [vI, vI, List.map_take]
  exact tN _ _
 omega
theorem wZ (w : World) (n : Int) :
  Calls Try.prog 30 #[.int .i64 n] w fun e w' => e = .returned (.bool (decide (1 ≤ n ∧ n ≤ 6))) ∧ w = w' := by
 by_cases h : 1 ≤ n
 ·go_enter Try.func30, Try.ntmps30
  go_wp2
  go_ret
  exact ⟨zW (by simp [h]), rfl⟩
 ·go_enter Try.func30, Try.ntmps30
  go_wp2
  go_ret
  exact ⟨zW (by simp; omega), rfl⟩
set_option maxHeartbeats 400000 in
theorem nX (s : ByteArray) (letters : Int) (w : World) (hs : s.size ≤ maxLen) :
  Calls Try.prog 40 #[.string s, .int .i64 letters] w fun e w' => e = .returned (.bool (zU s letters)) ∧ w = w' := by
 unfold maxLen at hs
 by_cases h1 : ¬ (1 ≤ letters ∧ letters ≤ 6)
 ·have e1 : decide (1 ≤ letters ∧ letters ≤ 6) = false := decide_eq_false h1
  go_enter Try.func40, Try.ntmps40
  go_wp2_with fail
  refine (wZ w letters).mono ?_
  rintro e w' ⟨rfl, rfl⟩
  rw [e1]
  go_wp2
  go_ret
  exact ⟨zW (by simp [zU]; omega), rfl⟩
 have e1 : decide (1 ≤ letters ∧ letters ≤ 6) = true := by simpa using h1
 by_cases h3 : 2048 < s.size
 ·go_enter Try.func40, Try.ntmps40
  go_wp2_with fail
  refine (wZ w letters).mono ?_
  rintro e w' ⟨rfl, rfl⟩
  rw [e1]
  go_wp2
  go_ret
  exact ⟨zW (by simp [zU]; omega), rfl⟩
 go_enter Try.func40, Try.ntmps40
 go_wp2_with fail
 refine (wZ w letters).mono ?_
 rintro e w' ⟨rfl, rfl⟩
 rw [e1]
 go_wp2
 go_loop [5] (fun i => ∃ k : Nat, k ≤ s.size ∧ i = .int .i64 k ∧ (s.data.toList.take k).all (uV letters) = true) (fun i => s.size - (intOf i).toNat)
 case atStart => exact ⟨0, Nat.zero_le _, rfl, rfl⟩
 case round =>
  obtain ⟨k, hk, rfl, hall⟩ := hrel
  have HA := Kh hall; clear hall
  by_cases hlt : k < s.size
  ·go_wp2
   ·go_ret
    exact ⟨zW (by rw [eq_comm]; exact tD s letters k hlt (by omega)), rfl⟩
   ·go_round
    case rel => exact ⟨k + 1, by omega, by go_num, all_succ s letters k hlt HA.out (by omega)⟩
    case measure => simp [intOf]; omega
   ·go_ret
    exact ⟨zW (by rw [eq_comm]; exact tD s letters k hlt (by omega)), rfl⟩
  ·go_wp2
   go_ret
   exact ⟨zW (by rw [eq_comm]; exact pF s letters k (by omega) (by omega) HA.out), rfl⟩
end Go.Proofs.Ytgbfaggnnfoamaa
