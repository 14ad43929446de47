/- Part 40 of the proof: RunD. -/
import Derived.Test.YtgbfaggnnfoamaaZg39
set_option linter.unusedVariables false
set_option linter.unusedSimpArgs false
namespace Go.Proofs.Ytgbfaggnnfoamaa
open Go.RowKit
theorem run_take {d : DfaV} {q : Nat} {l : List Nat} {j : Nat} (h : j < l.length) : run d q (l.take (j + 1)) = nx d (run d q (l.take j)) (l.getD j 0) := by
 rw [yW (d := 0) h, pT]
set_option maxRecDepth 100000 in
set_option maxHeartbeats 800000 in
theorem runD_any (B : Nat) (w : World) (v : Value) (d : DfaV) (n k q : Nat) (s : ByteArray) (hB : B ≤ w.heap.size) (h : vU B w v d) (hd : VD d n k) (h5 : n ≤ 512) (hq : q < n) (hs : zM s (k : Int) = true) :
  Calls Try.prog 49 #[v, .int .i64 (q : Int), .string s] w fun e w' => e = .returned (.int .i64 ((run d q (zD s) : Nat) : Int)) ∧ w.grownBy w' none := by
 have hdok := h
 obtain ⟨fb, fo, fc, b, off, cap, RB, RO, RC, rfl, hat⟩ := h.at hd
 have hn1 := hd.n1
 have hk6 := hd.k6
 have hk1 := hd.k1
 have hcp := hat.cap.1
 have hcp2 := hat.cap.2
 have hmx2 : cap ≤ 9223372036854775807 := by unfold maxLen at hcp2; omega
 obtain ⟨S, hS⟩ : ∃ S, S = st0 d := ⟨_, rfl⟩
 have hvd : dAgg k (st0 d) fb fo fc b off cap n = .agg #[.int .i64 (k : Int), .int .i64 (S : Int), .slice (some ⟨fb, fo, none⟩) n fc, .slice (some ⟨b, off, none⟩) n cap] := by rw [hS]; rfl
 rw [hvd] at hdok ⊢
 obtain ⟨wA, hWA⟩ : ∃ wA, wA = w.alloc (.cells #[.int .i64 (k : Int), .int .i64 (S : Int), .slice (some ⟨fb, fo, none⟩) n fc, .slice (some ⟨b, off, none⟩) n cap] 49) := ⟨_, rfl⟩
 have hgA := World.grownBy_alloc w (.cells #[.int .i64 (k : Int), .int .i64 (S : Int), .slice (some ⟨fb, fo, none⟩) n fc, .slice (some ⟨b, off, none⟩) n cap] 49) none
 have hb1 := heap_alloc_new w (.cells #[.int .i64 (k : Int), .int .i64 (S : Int), .slice (some ⟨fb, fo, none⟩) n fc, .slice (some ⟨b, off, none⟩) n cap] 49)
 rw [← hWA] at hb1 hgA
 obtain ⟨P, hP⟩ : ∃ P, P = w.heap.size := ⟨_, rfl⟩
 rw [← hP] at hb1
 obtain ⟨c0, c1, c2, c3⟩ := zF hb1
 have hPz := zJ hb1
 have hBA : B ≤ wA.heap.size := by omega
 have HPE := Kh hP
 have HB1 := Kh hb1; have HGA := Kh hgA; have HWA := Kh hWA; have HD := Kh hd
 have HAT : Hid (∀ W : World, w.grownBy W none → DAt B W d n k fb fo fc b off cap RB RO RC) := Kh (fun W hg => hat.kept hg (by simp))
 have HVA := Kh (wS B wA _ d hBA (hdok.kept hgA (by simp)))
 have HV0 := Kh (sH hd h5)
 have HW := Kh hs
 have HWO := Kh (wH hs)
 have hss := HWO.out.2.2
 have hq' : (q : Int) < n := by omega
 clear hb1 hgA hWA hat hd h hdok hvd hcp2 hS hP hs
 go_enter Try.func49, Try.ntmps49
 go_upto_region 1 with fail
 rw [← HWA.out, ← HPE.out]
 go_wp2_with fail
 refine HVA.out.mono ?_
 rintro e w1 ⟨rfl, hg1⟩
 rw [HV0.out]
 have HG1 := Kh (zB HGA.out hg1 (by simp))
 have HB2 := Kh (zA HB1.out hg1 (by simp))
 obtain ⟨d0, d1, d2, d3⟩ := zF HB2.out
 clear hg1 HVA c0 c1 c2 c3 HB1
 go_wp2_with fail
 refine (wR s (k : Int) w1 (by unfold maxLen; omega)).mono ?_
 rintro e w2 ⟨rfl, rfl⟩
 rw [HW.out]
 go_wp2_with fail
 go_loopg [1, 7, 31] s.size (fun gh a1 a7 i wr => ∃ j : Nat, gh + j = s.size ∧ i = .int .i64 j ∧ a1 = .int .i64 ((run d q ((zD s).take j) : Nat) : Int) ∧ w1.grownBy wr none)
 case atStart => exact ⟨0, rfl, rfl, rfl, yJ _ _⟩
 case round =>
  clear d0 d1 d2 d3
  obtain ⟨j, hgh, rfl, rfl, hgr⟩ := hrel
  have HGH := Kh hgh; have HGR := Kh hgr
  obtain ⟨d0, d1, d2, d3⟩ := zF (zA HB2.out hgr (by simp))
  clear hgh
  by_cases hj : j < s.size
  ·have hj' : (j : Int) < s.size := by omega
   have hRn := oR HD.out ((zD s).take j) hq (fun a ha => HWO.out.1 a (List.mem_of_mem_take ha))
   have HRT := Kh (run_take (d := d) (q := q) (l := zD s) (j := j) (by rw [zT]; exact hj))
   obtain ⟨R, hR⟩ : ∃ R, R = run d q ((zD s).take j) := ⟨_, rfl⟩
   rw [← hR] at hRn HRT ⊢
   have hRn' : (R : Int) < n := by omega
   have hatr := HAT.out wr (zB HG1.out hgr (by simp))
   have chd := hatr.hd R hRn
   have hrc := hatr.rcap R hRn
   have hrc1 := hrc.1
   have hrc2 : RC R ≤ 9223372036854775807 := by have := hrc.2; unfold maxLen at this; omega
   obtain ⟨b0, a0, hb0, hw0, hm0, ha0, hl0⟩ := byte_facts0 HWO.out.2.1 hj
   have cel := hatr.el R a0 hRn ha0
   have ha0' : (a0 : Int) < k := by omega
   rw [hl0] at HRT
   obtain ⟨rb, hrb⟩ : ∃ rb, rb = RB R := ⟨_, rfl⟩
   obtain ⟨ro, hro⟩ : ∃ ro, ro = RO R := ⟨_, rfl⟩
   obtain ⟨rc, hrcE⟩ : ∃ rc, rc = RC R := ⟨_, rfl⟩
   rw [← hrb, ← hro, ← hrcE] at chd
   rw [← hrb, ← hro] at cel
   rw [← hrcE] at hrc1 hrc2
   obtain ⟨y, hy⟩ : ∃ y, y = nx d R a0 := ⟨_, rfl⟩
   rw [← hy] at cel HRT
   clear hatr hrc hl0 hrb hro hrcE hy hR hgr
   go_wp2_with fail
   go_region
   all_goals (try go_frame)
   all_goals go_wp2
   all_goals
    go_roundg (s.size - (j + 1))
    case measure => have := HGH.out; omega
    case rel => exact ⟨j + 1, by have := HGH.out; omega, by go_num, by rw [HRT.out], zB HGR.out (zW wr none) (by simp)⟩
  ·have hjs : j = s.size := by have := HGH.out; omega
   have hj' : ¬ (j : Int) < s.size := by omega
   have HJ : Hid ((zD s).take j = zD s) := Kh (List.take_of_length_le (by rw [zT]; omega))
   rw [HJ.out]
   clear hjs
   go_wp2
   go_ret
   exact ⟨rfl, zB HG1.out HGR.out (by simp)⟩
set_option maxRecDepth 100000 in
set_option maxHeartbeats 800000 in
theorem accepts_any (B : Nat) (w : World) (v : Value) (d : DfaV) (n k : Nat) (s : ByteArray) (hB : B ≤ w.heap.size) (h : vU B w v d) (hd : VD d n k) (h5 : n ≤ 512) (hs : zM s (k : Int) = true) :
  Calls Try.prog 24 #[v, .string s] w fun e w' => e = .returned (.bool (acc d (st0 d) (zD s))) ∧ w.grownBy w' none := by
 have hdok := h
 obtain ⟨fb, fo, fc, b, off, cap, RB, RO, RC, rfl, hat⟩ := h.at hd
 have hS0 := sJ hd
 have hfc := hat.fcap.1
 have hfc2 := hat.fcap.2
 have hmx1 : fc ≤ 9223372036854775807 := by unfold maxLen at hfc2; omega
 have HRL := Kh (oR hd (zD s) hS0 (wH hs).1)
 obtain ⟨S, hS⟩ : ∃ S, S = st0 d := ⟨_, rfl⟩
 have hvd : dAgg k (st0 d) fb fo fc b off cap n = .agg #[.int .i64 (k : Int), .int .i64 (S : Int), .slice (some ⟨fb, fo, none⟩) n fc, .slice (some ⟨b, off, none⟩) n cap] := by rw [hS]; rfl
 rw [hvd] at hdok ⊢
 rw [← hS] at hS0 HRL ⊢
 obtain ⟨wA, hWA⟩ : ∃ wA, wA = w.alloc (.cells #[.int .i64 (k : Int), .int .i64 (S : Int), .slice (some ⟨fb, fo, none⟩) n fc, .slice (some ⟨b, off, none⟩) n cap] 49) := ⟨_, rfl⟩
 have hgA := World.grownBy_alloc w (.cells #[.int .i64 (k : Int), .int .i64 (S : Int), .slice (some ⟨fb, fo, none⟩) n fc, .slice (some ⟨b, off, none⟩) n cap] 49) none
 have hb1 := heap_alloc_new w (.cells #[.int .i64 (k : Int), .int .i64 (S : Int), .slice (some ⟨fb, fo, none⟩) n fc, .slice (some ⟨b, off, none⟩) n cap] 49)
 rw [← hWA] at hb1 hgA
 obtain ⟨P, hP⟩ : ∃ P, P = w.heap.size := ⟨_, rfl⟩
 rw [← hP] at hb1
 obtain ⟨c0, c1, c2, c3⟩ := zF hb1
 have hPz := zJ hb1
 have hBA : B ≤ wA.heap.size := by omega
 have HPE := Kh hP
 have HB1 := Kh hb1; have HGA := Kh hgA; have HWA := Kh hWA
 have HAT : Hid (∀ W : World, w.grownBy W none → DAt B W d n k fb fo fc b off cap RB RO RC) := Kh (fun W hg => hat.kept hg (by simp))
 have HRU := Kh (runD_any B wA _ d n k S s hBA (hdok.kept hgA (by simp)) hd h5 hS0 hs)
 clear hb1 hgA hWA hat hd h hdok hvd hfc2 hS hP hs
 go_enter Try.func24, Try.ntmps24
 go_upto_region 1 with fail
 rw [← HWA.out, ← HPE.out]
 go_wp2_with fail
 refine HRU.out.mono ?_
 rintro e w1 ⟨rfl, hg1⟩
 have HG1 := Kh (zB HGA.out hg1 (by simp))
 obtain ⟨d0, d1, d2, d3⟩ := zF (zA HB1.out hg1 (by simp))
 obtain ⟨R, hR⟩ : ∃ R, R = run d S (zD s) := ⟨_, rfl⟩
 have hRn : R < n := by rw [hR]; exact HRL.out
 have hRn' : (R : Int) < n := by omega
 have HA : Hid (acc d S (zD s) = d.final.getD R false) := Kh (by rw [hR]; rfl)
 rw [← hR]
 have cfin := (HAT.out w1 HG1.out).fin hRn
 obtain ⟨bf, hbf⟩ : ∃ bf, bf = d.final.getD R false := ⟨_, rfl⟩
 rw [← hbf] at cfin HA
 clear hg1 HRU c0 c1 c2 c3 HB1 hR hbf
 go_wp2
 go_ret
 exact ⟨yY HA.out.symm, HG1.out⟩
end Go.Proofs.Ytgbfaggnnfoamaa
