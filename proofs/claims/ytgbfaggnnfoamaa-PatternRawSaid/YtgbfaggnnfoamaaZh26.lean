/- Part 26 of the proof: PTrim. -/
import Derived.Test.YtgbfaggnnfoamaaZh25
set_option linter.unusedVariables false
set_option linter.unusedSimpArgs false
namespace Go.Proofs.Ytgbfaggnnfoamaa
open Go.RowKit
def PTrimOk (w : World) (d : DfaV) (n k : Nat) (e : Ending) (w' : World) : Prop :=
 ∃ v G, e = .returned (.tuple #[v, .slice (some ⟨G, 0, none⟩) n n]) ∧ uJ w w' v (yU d k) ∧ w.heap.size ≤ G ∧ Arr w' G 3 (ints (vG n (zQ d k))) ∧ w.grownBy w' none
set_option maxRecDepth 100000 in
set_option maxHeartbeats 2000000 in
theorem kY (B : Nat) (w : World) (v : Value) (d : DfaV) (n k : Nat) (hB : B ≤ w.heap.size) (h : vQ B w v d) (hd : VD d n k) (h5 : n ≤ 512) :
  Calls Try.prog 71 #[v] w (PTrimOk w d n k) := by
 have hdok := h
 obtain ⟨fb, fo, fc, b, off, cap, RB, RO, RC, rfl, hat⟩ := h.at hd
 have hn := hd.hn
 have hn1 := hd.n1
 have hk6 := hd.k6
 have hk1 := hd.k1
 have hfc := hat.fcap.1
 have hfc2 := hat.fcap.2
 have hcp := hat.cap.1
 have hcp2 := hat.cap.2
 have hmx1 : fc ≤ 9223372036854775807 := by unfold maxLen at hfc2; omega
 have hmx2 : cap ≤ 9223372036854775807 := by unfold maxLen at hcp2; omega
 obtain ⟨S, hS⟩ : ∃ S, S = st0 d := ⟨_, rfl⟩
 have HSE := Kh hS
 have hvd : dAgg k (st0 d) fb fo fc b off cap n = .agg #[.int .i64 (k : Int), .int .i64 (S : Int), .slice (some ⟨fb, fo, none⟩) n fc, .slice (some ⟨b, off, none⟩) n cap] := by rw [hS]; rfl
 rw [hvd] at hdok ⊢
 obtain ⟨hb1, hb2, hgA, hzA⟩ := uQ w #[.int .i64 (k : Int), .int .i64 (S : Int), .slice (some ⟨fb, fo, none⟩) n fc, .slice (some ⟨b, off, none⟩) n cap] #[.int .i64 0, .int .i64 0, .slice none 0 0, .slice none 0 0] 49
 obtain ⟨wA, hWA⟩ : ∃ wA, wA = (w.alloc (.cells #[.int .i64 (k : Int), .int .i64 (S : Int), .slice (some ⟨fb, fo, none⟩) n fc, .slice (some ⟨b, off, none⟩) n cap] 49)).alloc (.cells #[.int .i64 0, .int .i64 0, .slice none 0 0, .slice none 0 0] 49) := ⟨_, rfl⟩
 rw [← hWA] at hb1 hb2 hgA hzA
 obtain ⟨c0, c1, c2, c3⟩ := zG hb1
 obtain ⟨P, hP⟩ : ∃ P, P = w.heap.size := ⟨_, rfl⟩
 obtain ⟨Q, hQ⟩ : ∃ Q, Q = w.heap.size + 1 := ⟨_, rfl⟩
 have HPE := Kh hP; have HQE : Hid (Q = P + 1) := Kh (by omega)
 have hPQ : P < Q := by omega
 have hQw : Q < wA.heap.size := by omega
 have hPw : w.heap.size ≤ P := by omega
 have hBA : B ≤ wA.heap.size := by omega
 rw [← hQ] at hb2
 rw [← hP] at hb1 c0 c1 c2 c3 hB
 have HB1 := Kh hb1; have HB2 := Kh hb2; have HGA := Kh hgA; have HWA := Kh hWA; have HAT := Kh (hat.kept hgA (by simp)); have HN := Kh hn; have HD := Kh hd
 have HVA := Kh (tX B wA _ d hBA (hdok.kept hgA (by simp)))
 have HV0 := Kh (nQ hd h5)
 clear hb1 hb2 hgA hWA hat hn hd h hdok hvd hfc2 hcp2 hS hzA hP hQ
 go_enter Try.func71, Try.ntmps71
 go_upto_region 1 with fail
 rw [← HWA.out, ← HPE.out, ← HQE.out]
 go_wp2_with fail
 refine HVA.out.mono ?_
 rintro e w1 ⟨rfl, hg1⟩
 rw [HV0.out]
 have hz1 := hg1.size
 have HG1 := Kh hg1
 have HB11 := Kh (zA HB1.out hg1 (by simp)); have HB21 := Kh (zA HB2.out hg1 (by simp))
 have HEX := Kh (explore_any B w1 P d n k S fb fo fc b off cap RB RO RC HSE.out h5 ⟨HB11.out, HAT.out.kept hg1 (by simp)⟩)
 obtain ⟨d0, d1, d2, d3⟩ := zG HB11.out
 clear hg1 HVA c0 c1 c2 c3
 go_wp2_with fail
 refine HEX.out.mono ?_
 rintro e w2 ⟨v2, sa, sc, rfl, ⟨o, hs, sf, cf, sn, cn, rfl, ho, hblt⟩, hown2, hg2⟩
 clear HEX d0 d1 d2 d3
 obtain ⟨hacc, hln⟩ := yS HD.out
 obtain ⟨l, hl⟩ : ∃ l, l = zQ d k := ⟨_, rfl⟩
 have HL := Kh hl
 rw [← hl] at hown2 hacc hln ⊢
 have hl0 := hacc.hd.1
 obtain ⟨gl, rfl, hlc, hlm, harl⟩ := tT hown2 hl0
 obtain ⟨m, hm⟩ : ∃ m, m = yU d k := ⟨_, rfl⟩
 rw [← hm] at hblt
 have HM := Kh hm
 have hms : (yU d k).start = 0 := rfl
 have hmk : (yU d k).letters = k := HD.out.hk
 rw [← hm] at hms hmk
 rw [← hm, hms, hmk]
 have HAL := Kh harl; have HG2 := Kh hg2; have HACC := Kh hacc; have HBL := Kh hblt; have HMS := Kh hms; have HMK := Kh hmk
 have hz2 := hg2.size
 obtain ⟨FL, hFL⟩ : ∃ FL, FL = m.final.length := ⟨_, rfl⟩
 obtain ⟨NL, hNL⟩ : ∃ NL, NL = m.next.length := ⟨_, rfl⟩
 rw [← hFL, ← hNL]
 have HFL := Kh hFL; have HNL := Kh hNL
 clear hl hown2 harl hg2 hacc hm hms hmk hblt hFL hNL
 obtain ⟨w3, hw3⟩ : ∃ w3, w3 = w2.alloc (.cells #[.int .i64 (k : Int), .int .i64 0, .slice sf FL cf, .slice sn NL cn] 49) := ⟨_, rfl⟩
 obtain ⟨T, hT⟩ : ∃ T, T = w2.heap.size := ⟨_, rfl⟩
 have hg3 := World.grownBy_alloc w2 (.cells #[.int .i64 (k : Int), .int .i64 0, .slice sf FL cf, .slice sn NL cn] 49) none
 have hb3 := heap_alloc_new w2 (.cells #[.int .i64 (k : Int), .int .i64 0, .slice sf FL cf, .slice sn NL cn] 49)
 rw [← hw3] at hg3 hb3
 rw [← hT] at hb3
 have HG3 := Kh hg3; have HB3 := Kh hb3; have HW3 := Kh hw3; have HTE := Kh hT
 have hz3 := hg3.size
 have hTz := zR hb3
 have hQT : Q < T := by omega
 have hPz : P + 1 < w3.heap.size := by omega
 obtain ⟨d0, d1, d2, d3⟩ := zG (zA (zA HB11.out HG2.out (by simp)) hg3 (by simp))
 clear hg3 hb3 hw3 hT
 go_upto_region 4 with fail
 rw [← HW3.out, ← HTE.out]
 go_wp2_with (first | (at_make; refine pO rfl _ _ _ rfl xD rfl .i64 .i64 _ _ n rfl rfl rfl rfl ?b1 ?b2 ?_; (case b1 => omega); (case b2 => (unfold maxLen; omega)); intro w4 harr hg4 hlt4) | fail)
 obtain ⟨G, hG⟩ : ∃ G, G = w3.heap.size := ⟨_, rfl⟩
 rw [← hG] at harr hlt4 ⊢
 have HA2 := Kh harr; have HG4 := Kh hg4; have HGE := Kh hG
 have hGP : T < G := by omega
 clear harr hg4 hG d0 d1 d2 d3
 go_loopg [8, 32] n (fun gh a7 i wr => ∃ q : Nat, gh + q = n ∧ i = .int .i64 q ∧ Arr wr G 3 (ints (oL n q)) ∧ w3.grownBy wr none)
 case atStart => exact ⟨0, rfl, rfl, by simpa [oL, tN] using HA2.out, HG4.out⟩
 case round =>
  clear HA2 HG4
  obtain ⟨q, hg, rfl, harr, hgr⟩ := hrel
  have HG := Kh hg; have HA := Kh harr; have HGR := Kh hgr
  clear hg
  by_cases hq : q < n
  ·have hq' : (q : Int) < n := by omega
   have cgk := harr.int q (by rw [tG (by omega)]; exact hq)
   have fgk := harr.frozen q
   have HS := Kh (fillM_set hq)
   clear harr hgr
   go_wp2
   go_roundg (n - (q + 1))
   case measure => have := HG.out; omega
   case rel =>
    refine ⟨q + 1, by omega, by go_num, ?_, zB HGR.out (zD wr ⟨G, q, none⟩ _) (fun q e => by have h7 : G = q := Option.some.inj e; have := HGE.out; omega)⟩
    rw [← HS.out]
    exact HA.out.int_set q (by rw [tG (by omega)]; exact hq) (-1)
  ·have hqn : q = n := by have := HG.out; omega
   have HF : Hid (oL n q = vG n (l.take 0)) := Kh (by rw [hqn, List.take_zero, lL]; simp [oL])
   rw [HF.out] at HA
   clear hqn harr hgr HG
   obtain ⟨w5, rfl⟩ : ∃ w5 : World, w5 = wr := ⟨_, rfl⟩
   go_wp2
   go_loopg [9, 10, 41] l.length (fun gh a8 a9 i wr => ∃ q : Nat, gh + q = l.length ∧ i = .int .i64 q ∧ Arr wr G 3 (ints (vG n (l.take q))) ∧ w3.grownBy wr none)
   case atStart => exact ⟨0, rfl, rfl, HA.out, HGR.out⟩
   case round =>
    clear HA HGR HF
    obtain ⟨q, hg, rfl, harr, hgr⟩ := hrel
    have HG := Kh hg; have HA := Kh harr; have HGR := Kh hgr
    clear hg
    by_cases hq : q < l.length
    ·have hq' : (q : Int) < l.length := by omega
     have cl := ((HAL.out.kept HG3.out (by simp)).kept hgr (by simp)).nat q hq
     have hsn : l.getD q 0 < n := HACC.out.lt _ (by rw [zI hq]; exact List.getElem_mem _)
     have hst : l.take (q + 1) = l.take q ++ [l.getD q 0] := zW hq
     have hnot : l.getD q 0 ∉ l.take q := by
      have h1 := HACC.out.nd
      have h2 : (l.take (q + 1)).Nodup := h1.sublist (List.take_sublist _ _)
      rw [hst, List.nodup_append] at h2
      exact fun hm => h2.2.2 _ hm _ (by simp) rfl
     obtain ⟨s, hs⟩ : ∃ s, s = l.getD q 0 := ⟨_, rfl⟩
     rw [← hs] at cl hsn hst hnot
     have hsn' : (s : Int) < n := by omega
     have cgk := harr.int s (by rw [xS]; exact hsn)
     have fgk := harr.frozen s
     have HS : Hid ((vG n (l.take q)).set s (q : Int) = vG n (l.take (q + 1))) := Kh (by
      have := lK (n := n) hnot
      rw [List.length_take, Nat.min_eq_left (by omega)] at this
      rw [this, hst])
     clear harr hgr hst hnot hs
     go_wp2
     go_roundg (l.length - (q + 1))
     case measure => have := HG.out; omega
     case rel =>
      refine ⟨q + 1, by omega, by go_num, ?_, zB HGR.out (zD wr ⟨G, s, none⟩ _) (fun q e => by have h7 : G = q := Option.some.inj e; have := HGE.out; omega)⟩
      rw [← HS.out]
      exact HA.out.int_set s (by rw [xS]; exact hsn) (q : Int)
    ·have hql : q = l.length := by have := HG.out; omega
     have hpl : l.take q = l := by rw [hql]; exact List.take_length
     rw [hpl] at HA harr
     have HPL := Kh harr; have HGR3 := Kh hgr
     clear hql hpl harr HA HG hgr
     obtain ⟨e0, e1, e2, e3⟩ := zG (zA HB3.out HGR3.out (by simp))
     have hbQ := zA (zA (zA HB21.out HG2.out (by simp)) HG3.out (by simp)) HGR3.out (by simp)
     obtain ⟨q0, q1, q2, q3⟩ := zG hbQ
     have f0 := zC hbQ 0
     have f1 := zC hbQ 1
     have f2 := zC hbQ 2
     have f3 := zC hbQ 3
     have HBQ := Kh hbQ
     clear hbQ
     go_wp2
     obtain ⟨hbz, hgz⟩ := wL HBQ.out (.int .i64 (k : Int)) (.int .i64 0) (.slice sf FL cf) (.slice sn NL cn)
     obtain ⟨wz, hwz⟩ : ∃ wz, wz = (((wr.setCell ⟨Q, 0, none⟩ (.int .i64 (k : Int))).setCell ⟨Q, 1, none⟩ (.int .i64 0)).setCell ⟨Q, 2, none⟩ (.slice sf FL cf)).setCell ⟨Q, 3, none⟩ (.slice sn NL cn) := ⟨_, rfl⟩
     rw [← hwz] at hbz hgz ⊢
     clear hwz
     obtain ⟨r0, r1, r2, r3⟩ := zG hbz
     clear e0 e1 e2 e3 q0 q1 q2 q3 f0 f1 f2 f3
     refine bodyPost_ret (v := .tuple #[.agg #[.int .i64 (k : Int), .int .i64 0, .slice sf FL cf, .slice sn NL cn], .slice (some ⟨G, 0, none⟩) n n]) (by simp [results, Try.results71, go_sem, r0, r1, r2, r3]) rfl ?_
     have hgW : w.grownBy wz none := zB (zB (zB (zB (zB HGA.out HG1.out (by simp)) HG2.out (by simp)) HG3.out (by simp)) HGR3.out (by simp)) hgz (fun k e => by have h7 : Q = k := Option.some.inj e; omega)
     have hbw := ((HBL.out.grow HG3.out).grow HGR3.out).far hgz HBQ.out (by omega)
     have hmd : yU d k = m := HM.out.symm
     refine ⟨_, G, rfl, ⟨o, hs, sf, cf, sn, cn, ?_, by omega, by rw [hmd]; exact hbw⟩, by have := HGE.out; omega, ?_, hgW⟩
     ·rw [hmd, HMS.out, HMK.out, HFL.out, HNL.out]
     ·rw [← HL.out]
      exact HPL.out.kept hgz (fun e => by have h7 : Q = G := Option.some.inj e; omega)
end Go.Proofs.Ytgbfaggnnfoamaa
