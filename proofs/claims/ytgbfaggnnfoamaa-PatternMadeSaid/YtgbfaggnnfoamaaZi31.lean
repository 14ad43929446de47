/- Part 31 of the proof: PMini. -/
import Derived.Test.YtgbfaggnnfoamaaZi30
set_option linter.unusedVariables false
set_option linter.unusedSimpArgs false
namespace Go.Proofs.Ytgbfaggnnfoamaa
open Go.RowKit
set_option maxRecDepth 100000 in
set_option maxHeartbeats 1000000 in
theorem nR (B : Nat) (w : World) (v : Value) (d : DfaV) (n k : Nat) (hB : B ≤ w.heap.size) (h : vR B w v d) (hd : VD d n k) (h5 : n ≤ 512) :
  Calls Try.prog 48 #[v] w (MinOk w (minD d k)) := by
 have hdok := h
 obtain ⟨fb, fo, fc, b, off, cap, RB, RO, RC, rfl, hat⟩ := h.at hd
 obtain ⟨S, hS⟩ : ∃ S, S = st0 d := ⟨_, rfl⟩
 have hvd : dAgg k (st0 d) fb fo fc b off cap n = .agg #[.int .i64 (k : Int), .int .i64 (S : Int), .slice (some ⟨fb, fo, none⟩) n fc, .slice (some ⟨b, off, none⟩) n cap] := by rw [hS]; rfl
 rw [hvd] at hdok ⊢
 obtain ⟨hb1, hb2, hgA, hzA⟩ := uR w #[.int .i64 (k : Int), .int .i64 (S : Int), .slice (some ⟨fb, fo, none⟩) n fc, .slice (some ⟨b, off, none⟩) n cap] #[.int .i64 0, .int .i64 0, .slice none 0 0, .slice none 0 0] 49
 obtain ⟨wA, hWA⟩ : ∃ wA, wA = (w.alloc (.cells #[.int .i64 (k : Int), .int .i64 (S : Int), .slice (some ⟨fb, fo, none⟩) n fc, .slice (some ⟨b, off, none⟩) n cap] 49)).alloc (.cells #[.int .i64 0, .int .i64 0, .slice none 0 0, .slice none 0 0] 49) := ⟨_, rfl⟩
 rw [← hWA] at hb1 hb2 hgA hzA
 obtain ⟨c0, c1, c2, c3⟩ := zG hb1
 obtain ⟨P, hP⟩ : ∃ P, P = w.heap.size := ⟨_, rfl⟩
 obtain ⟨Q, hQ⟩ : ∃ Q, Q = w.heap.size + 1 := ⟨_, rfl⟩
 have HPE := Kh hP; have HQE : Hid (Q = P + 1) := Kh (by omega)
 have hPQ : P < Q := by omega
 have hQw : Q < wA.heap.size := by omega
 have hPw : w.heap.size ≤ P := by omega
 have hBA : B ≤ wA.heap.size := by omega
 rw [← hQ] at hb2
 rw [← hP] at hb1 c0 c1 c2 c3 hB
 have HB1 := Kh hb1; have HB2 := Kh hb2; have HGA := Kh hgA; have HWA := Kh hWA; have HD := Kh hd
 have HDO := Kh (hdok.kept hgA (by simp))
 have HVA := Kh (tZ B wA _ d hBA HDO.out)
 have HV0 := Kh (nW hd h5)
 clear hb1 hb2 hgA hWA hat hd h hdok hvd hS hzA hP hQ
 go_enter Try.func48, Try.ntmps48
 go_upto_region 1 with fail
 rw [← HWA.out, ← HPE.out, ← HQE.out]
 go_wp2_with fail
 refine HVA.out.mono ?_
 rintro e w1 ⟨rfl, hg1⟩
 rw [HV0.out]
 have hz1 := hg1.size
 have HG1 := Kh hg1
 have HB11 := Kh (zA HB1.out hg1 (by simp)); have HB21 := Kh (zA HB2.out hg1 (by simp))
 have HMI := Kh (pminimal_any B w1 _ d n k (by omega) (HDO.out.kept hg1 (by simp)) HD.out h5)
 obtain ⟨d0, d1, d2, d3⟩ := zG HB11.out
 clear hg1 HVA c0 c1 c2 c3
 go_wp2_with fail
 refine HMI.out.mono ?_
 rintro e w2 ⟨v2, sv, rfl, ⟨o, hs, sf, cf, sn, cn, rfl, ho, hbt⟩, hg2⟩
 rw [min_trim HD.out] at hbt ⊢
 obtain ⟨R, hR⟩ : ∃ R, R = minD d k := ⟨_, rfl⟩
 rw [← hR] at hbt ⊢
 have hRk : R.letters = k := by rw [hR]; exact (mQ HD.out).hk
 have hRs : R.start = 0 := by rw [hR]; rfl
 obtain ⟨FL, hFL⟩ : ∃ FL, FL = R.final.length := ⟨_, rfl⟩
 obtain ⟨NL, hNL⟩ : ∃ NL, NL = R.next.length := ⟨_, rfl⟩
 rw [hRk, hRs, ← hFL, ← hNL]
 have HRE := Kh hR; have HRK := Kh hRk; have HRS := Kh hRs; have HFLE := Kh hFL; have HNLE := Kh hNL; have HBT := Kh hbt
 have HG2 := Kh hg2
 obtain ⟨T3, hT3⟩ : ∃ T3, T3 = w2.heap.size := ⟨_, rfl⟩
 obtain ⟨w3, hw3⟩ : ∃ w3, w3 = w2.alloc (.cells #[.int .i64 (k : Int), .int .i64 0, .slice sf FL cf, .slice sn NL cn] 49) := ⟨_, rfl⟩
 have hg3 := World.grownBy_alloc w2 (.cells #[.int .i64 (k : Int), .int .i64 0, .slice sf FL cf, .slice sn NL cn] 49) none
 have hb3 := heap_alloc_new w2 (.cells #[.int .i64 (k : Int), .int .i64 0, .slice sf FL cf, .slice sn NL cn] 49)
 rw [← hw3] at hg3 hb3
 rw [← hT3] at hb3
 have hz2 := hg2.size
 have hz3 := hg3.size
 have HW3 := Kh hw3; have HT3 := Kh hT3; have HG3 := Kh hg3
 have hbQ := zA (zA HB21.out hg2 (by simp)) hg3 (by simp)
 have HBQ := Kh hbQ
 obtain ⟨e0, e1, e2, e3⟩ := zG hb3
 obtain ⟨q0, q1, q2, q3⟩ := zG hbQ
 have f0 := zD hbQ 0
 have f1 := zD hbQ 1
 have f2 := zD hbQ 2
 have f3 := zD hbQ 3
 have hQ3 : Q < T3 := by omega
 clear hR hRk hRs hFL hNL hbt hg2 hw3 hT3 hg3 hb3 hbQ d0 d1 d2 d3 HMI HDO
 go_upto_region 4 with fail
 rw [← HW3.out, ← HT3.out]
 go_wp2
 obtain ⟨hbz, hgz⟩ := wM HBQ.out (.int .i64 (k : Int)) (.int .i64 0) (.slice sf FL cf) (.slice sn NL cn)
 obtain ⟨wz, hwz⟩ : ∃ wz, wz = (((w3.setCell ⟨Q, 0, none⟩ (.int .i64 (k : Int))).setCell ⟨Q, 1, none⟩ (.int .i64 0)).setCell ⟨Q, 2, none⟩ (.slice sf FL cf)).setCell ⟨Q, 3, none⟩ (.slice sn NL cn) := ⟨_, rfl⟩
 rw [← hwz] at hbz hgz ⊢
 clear hwz
 obtain ⟨r0, r1, r2, r3⟩ := zG hbz
 clear e0 e1 e2 e3 q0 q1 q2 q3 f0 f1 f2 f3
 refine bodyPost_ret (v := .agg #[.int .i64 (k : Int), .int .i64 0, .slice sf FL cf, .slice sn NL cn]) (by simp [results, Try.results48, go_sem, r0, r1, r2, r3]) rfl ?_
 have hgW : w.grownBy wz none := zB (zB (zB (zB HGA.out HG1.out (by simp)) HG2.out (by simp)) HG3.out (by simp)) hgz (fun k e => by have h7 : Q = k := Option.some.inj e; omega)
 have hbw := (HBT.out.grow HG3.out).far hgz HBQ.out (by omega)
 refine ⟨_, rfl, ⟨o, hs, sf, cf, sn, cn, ?_, by omega, by rw [← HRE.out]; exact hbw⟩, hgW⟩
 rw [← HRE.out, HRS.out, HRK.out, HFLE.out, HNLE.out]
end Go.Proofs.Ytgbfaggnnfoamaa
