/- Part 17 of the proof: PClasses. -/
import Derived.Test.YtjfdomfendbhfaaQb16
set_option linter.unusedVariables false
set_option linter.unusedSimpArgs false
namespace Go.Proofs.Ytjfdomfendbhfaa
open Go.RowKit Go.Maps
def numF {α : Type} [DecidableEq α] (l : List α) (L : α) : Option Nat := if L ∈ l then some (l.idxOf L) else none
theorem numF_new {α : Type} [DecidableEq α] {l : List α} {L : α} (h : L ∉ l) : (fun q => if q = L then some l.length else numF l q) = numF (l ++ [L]) := by
 funext q
 unfold numF
 by_cases e : q = L
 ·subst e
  rw [if_pos rfl, if_pos (by simp), List.idxOf_append, if_neg h]; simp
 ·rw [if_neg e]
  by_cases hq : q ∈ l
  ·rw [if_pos hq, if_pos (by simp [hq]), List.idxOf_append, if_pos hq]
  ·rw [if_neg hq, if_neg (by simp [hq, e])]
theorem numF_old {α : Type} [DecidableEq α] {l : List α} {L : α} (h : L ∈ l) : numF l L = some (if L ∈ l then l.idxOf L else l.length) := by rw [numF, if_pos h, if_pos h]
theorem numF_no {α : Type} [DecidableEq α] {l : List α} {L : α} (h : L ∉ l) : numF l L = none := if_neg h
theorem numb_old {α : Type} [DecidableEq α] {l : List α} {L : α} {v : Nat} (hv : v = if L ∈ l then l.idxOf L else l.length) (h : L ∈ l) : numF l L = some v := by rw [hv, numF_old h]
theorem numb_new {α : Type} [DecidableEq α] {l : List α} {L : α} {v : Nat} (hv : v = if L ∈ l then l.idxOf L else l.length) (h : L ∉ l) : v = l.length := by rw [hv, if_neg h]
theorem seven {L : List Nat} (h : L.length = 7) : ∃ y0 y1 y2 y3 y4 y5 y6, L = [y0, y1, y2, y3, y4, y5, y6] := by
 match L, h with
 | [y0, y1, y2, y3, y4, y5, y6], _ => exact ⟨y0, y1, y2, y3, y4, y5, y6, rfl⟩
theorem sig7_cells {w : World} {g e y0 y1 y2 y3 y4 y5 y6 : Nat} (h : Arr w g e (nats [y0, y1, y2, y3, y4, y5, y6])) : w.cell? ⟨g, 0, none⟩ = some (.int .i64 (y0 : Int)) ∧ w.cell? ⟨g, 1, none⟩ = some (.int .i64 (y1 : Int)) ∧ w.cell? ⟨g, 2, none⟩ = some (.int .i64 (y2 : Int)) ∧ w.cell? ⟨g, 3, none⟩ = some (.int .i64 (y3 : Int)) ∧ w.cell? ⟨g, 4, none⟩ = some (.int .i64 (y4 : Int)) ∧ w.cell? ⟨g, 5, none⟩ = some (.int .i64 (y5 : Int)) ∧ w.cell? ⟨g, 6, none⟩ = some (.int .i64 (y6 : Int)) :=
 ⟨h.cell 0 (by simp [nats]), h.cell 1 (by simp [nats]), h.cell 2 (by simp [nats]), h.cell 3 (by simp [nats]), h.cell 4 (by simp [nats]), h.cell 5 (by simp [nats]), h.cell 6 (by simp [nats])⟩
theorem numF_nil : (fun _ => none) = numF ([] : List (List Nat)) := by funext L; simp [numF]
set_option maxRecDepth 100000 in
set_option maxHeartbeats 2000000 in
theorem pclasses_any (B : Nat) (w : World) (v : Value) (d : DfaV) (n k : Nat) (hB : B ≤ w.heap.size) (h : sC B w v d) (hd : VD d n k) (h5 : n ≤ 512) :
  Calls Try.prog 111 #[v] w (NumOk w (yR d k)) := by
 have hmm := @run_makeMap Try.prog
 have hdok := h
 obtain ⟨fb, fo, fc, b, off, cap, RB, RO, RC, rfl, hat⟩ := h.at hd
 have hn := hd.hn
 have hn1 := hd.n1
 have hk6 := hd.k6
 have hk1 := hd.k1
 have hfc := hat.fcap.1
 have hfc2 := hat.fcap.2
 have hcp := hat.cap.1
 have hcp2 := hat.cap.2
 have hmx1 : fc ≤ 9223372036854775807 := by unfold maxLen at hfc2; omega
 have hmx2 : cap ≤ 9223372036854775807 := by unfold maxLen at hcp2; omega
 obtain ⟨S, hS⟩ : ∃ S, S = st0 d := ⟨_, rfl⟩
 have hvd : dAgg k (st0 d) fb fo fc b off cap n = .agg #[.int .i64 (k : Int), .int .i64 (S : Int), .slice (some ⟨fb, fo, none⟩) n fc, .slice (some ⟨b, off, none⟩) n cap] := by rw [hS]; rfl
 rw [hvd] at hdok ⊢
 obtain ⟨wA, hWA⟩ : ∃ wA, wA = w.alloc (.cells #[.int .i64 (k : Int), .int .i64 (S : Int), .slice (some ⟨fb, fo, none⟩) n fc, .slice (some ⟨b, off, none⟩) n cap] 42) := ⟨_, rfl⟩
 have hgA := World.grownBy_alloc w (.cells #[.int .i64 (k : Int), .int .i64 (S : Int), .slice (some ⟨fb, fo, none⟩) n fc, .slice (some ⟨b, off, none⟩) n cap] 42) none
 have hb1 := heap_alloc_new w (.cells #[.int .i64 (k : Int), .int .i64 (S : Int), .slice (some ⟨fb, fo, none⟩) n fc, .slice (some ⟨b, off, none⟩) n cap] 42)
 rw [← hWA] at hb1 hgA
 obtain ⟨P, hP⟩ : ∃ P, P = w.heap.size := ⟨_, rfl⟩
 rw [← hP] at hb1
 obtain ⟨c0, c1, c2, c3⟩ := zG hb1
 have hPz := zN hb1
 have hBA : B ≤ wA.heap.size := by omega
 have HPE := Kh hP
 have hPw : w.heap.size ≤ P := by omega
 have HB1 := Kh hb1; have HGA := Kh hgA; have HWA := Kh hWA; have HAT : Hid (∀ W : World, w.grownBy W none → DAt B W d n k fb fo fc b off cap RB RO RC) := Kh (fun W hg => hat.kept hg (by simp)); have HN := Kh hn; have HD := Kh hd
 have HVA := Kh (uF B wA _ d hBA (hdok.kept hgA (by simp)))
 have HV0 := Kh (nQ hd h5)
 clear hb1 hgA hWA hat hn hd h hdok hvd hfc2 hcp2 hS hP
 go_enter Try.func111, Try.ntmps111
 go_upto_region 1 with fail
 rw [← HWA.out, ← HPE.out]
 go_wp2_with fail
 refine HVA.out.mono ?_
 rintro e w1 ⟨rfl, hg1⟩
 rw [HV0.out]
 have hz1 := hg1.size
 have HG1 := Kh (zA HGA.out hg1 (by simp))
 have HB2 := Kh (zB HB1.out hg1 (by simp))
 obtain ⟨d0, d1, d2, d3⟩ := zG HB2.out
 have hBw : B ≤ w.heap.size := hB
 clear hg1 HVA c0 c1 c2 c3 HB1
 go_wp2_with (first | (at_make; refine make1 rfl _ _ _ rfl xP rfl .i64 .i64 _ _ n rfl rfl rfl rfl ?b1 ?b2 ?_; (case b1 => omega); (case b2 => (unfold maxLen; omega)); intro w2 harr hg2 hlt2; (obtain ⟨e0, e1, e2, e3⟩ := zG (zB HB2.out hg2 (by simp)))) | fail)
 obtain ⟨G, hG⟩ : ∃ G, G = w1.heap.size := ⟨_, rfl⟩
 rw [← hG] at harr hlt2 ⊢
 have hGP : P < G := by omega
 have hGw : w.heap.size ≤ G := by omega
 have HA2 : Hid (Arr w2 G 3 (nats (fstF d n 0))) := Kh (by
  rw [show fstF d n 0 = List.replicate n 0 by simp [fstF, wJ], xU]; exact harr)
 have HG2 := Kh (zA HG1.out hg2 (by simp))
 have HB3 := Kh (zB HB2.out hg2 (by simp))
 clear harr hg2 hG HB2 d0 d1 d2 d3 e0 e1 e2 e3
 go_loopg [4, 5, 6, 26] n (fun gh a4 a5 a6 i wr => ∃ q : Nat, gh + q = n ∧ i = .int .i64 q ∧ a4 = .int .i64 (fstC d q : Nat) ∧ Arr wr G 3 (nats (fstF d n q)) ∧ wr.heap[P]? = some (.cells #[.int .i64 (k : Int), .int .i64 (S : Int), .slice (some ⟨fb, fo, none⟩) n fc, .slice (some ⟨b, off, none⟩) n cap] 42 (0, 0)) ∧ w.grownBy wr none)
 case atStart => exact ⟨0, rfl, rfl, rfl, HA2.out, HB3.out, HG2.out⟩
 case round =>
  clear HA2 HB3 HG2
  obtain ⟨q, hgh, rfl, rfl, harr, hbx, hgr⟩ := hrel
  have HGH := Kh hgh; have HA := Kh harr; have HBX := Kh hbx; have HGR := Kh hgr
  obtain ⟨d0, d1, d2, d3⟩ := zG hbx
  clear hgh
  by_cases hq : q < n
  ·have hq' : (q : Int) < n := by omega
   have cf0 := (HAT.out _ hgr).fin (q := 0) (by omega)
   have cfq := (HAT.out _ hgr).fin hq
   have hfr := harr.frozen q
   have hcg := harr.nat q (by rw [nH (by omega)]; exact hq)
   have hfl : (nats (fstF d n q)).length = n := by rw [yF, nH (by omega)]
   rw [Nat.add_zero] at cf0
   by_cases e : d.final.getD q false = d.final.getD 0 false
   ·obtain ⟨h1, h2⟩ := fstF_same hq e
    have H1 := Kh h1; have H2 := Kh h2
    rw [e] at cfq
    generalize d.final.getD 0 false = b0 at cf0 cfq
    have e1 : (b0 != b0) = false := by simp
    clear h1 h2 e harr hbx
    go_wp2
    go_roundg (n - (q + 1))
    case measure => have := HGH.out; omega
    case rel => exact ⟨q + 1, by have := HGH.out; omega, by go_num, by rw [H2.out], by rw [H1.out]; exact HA.out, HBX.out, HGR.out⟩
   ·obtain ⟨h1, h2⟩ := fstF_diff hq e
    have H1 := Kh h1; have H2 := Kh h2
    have e1 : (d.final.getD q false == d.final.getD 0 false) = false := by rw [beq_eq_false_iff_ne]; exact e
    generalize d.final.getD 0 false = b0 at cf0 e1
    generalize d.final.getD q false = b1 at cfq e1
    clear h1 h2 e harr hbx
    go_wp2
    go_roundg (n - (q + 1))
    case measure => have := HGH.out; omega
    case rel => exact ⟨q + 1, by have := HGH.out; omega, by go_num, by rw [H2.out]; rfl, by rw [H1.out]; exact HA.out.nat_set q (by rw [nH (by omega)]; exact hq) 1, zB HBX.out (zD wr ⟨G, q, none⟩ _) (fun e => by have e : G = P := Option.some.inj e; omega), zA HGR.out (zD wr ⟨G, q, none⟩ _) (fun k e => by have e : G = k := Option.some.inj e; omega)⟩
  ·have hqn : q = n := by have := HGH.out; omega
   obtain ⟨hp0, hc0⟩ := fst_part0 HD.out
   have HA0 : Hid (Arr wr G 3 (nats (yO d k 0))) := Kh (by
    rw [show yO d k 0 = fstF d n q by rw [hqn, fstF, hp0]; simp [yO]]; exact harr)
   have HC0 : Hid (fstC d q = cls (yO d k 0)) := Kh (by rw [hqn, hc0]; rfl)
   rw [HC0.out]
   have HGH2 := Kh hqn
   clear hqn hp0 hc0 HA HGH harr hbx hgr
   obtain ⟨w3, rfl⟩ : ∃ w3 : World, w3 = wr := ⟨_, rfl⟩
   go_wp2_with fail
   go_loopg [3, 4, 7, 8, 9, 10, 11, 12, 13, 14, 15] (n - cls (yO d k 0)) (fun gh a3 a4 a7 a8 a9 a10 a11 a12 a13 a14 a15 wr => ∃ (m g : Nat), gh = n - cls (yO d k m) ∧ m ≤ cls (yO d k m) ∧ a3 = .slice (some ⟨g, 0, none⟩) n n ∧ a4 = .int .i64 (cls (yO d k m) : Nat) ∧ Arr wr g 3 (nats (yO d k m)) ∧ w.heap.size ≤ g ∧ g ≠ P ∧ wr.heap[P]? = some (.cells #[.int .i64 (k : Int), .int .i64 (S : Int), .slice (some ⟨fb, fo, none⟩) n fc, .slice (some ⟨b, off, none⟩) n cap] 42 (0, 0)) ∧ w.grownBy wr none)
   case atStart => exact ⟨0, G, rfl, by omega, rfl, rfl, HA0.out, hGw, by omega, HBX.out, HGR.out⟩
   case round =>
    clear HA0 HBX HGR
    obtain ⟨m, g, rfl, hmc, rfl, rfl, harr, hgw, hgP, hbx, hgr⟩ := hrel
    obtain ⟨p, hp⟩ : ∃ p, p = yO d k m := ⟨_, rfl⟩
    have hpl : p.length = n := by rw [hp, yX, HN.out]
    have hcn := cls_le_n HD.out m
    have hplt : ∀ c ∈ p, c < n := by have := jQ (uC d k m); rw [← hp, hpl] at this; exact this
    have HPS : Hid (numb (sigL d k p) = yO d k (m + 1)) := Kh (by rw [hp]; exact clsIt_sig HD.out m)
    have HST : Hid (cls (yO d k (m + 1)) = cls (yO d k m) → yO d k (m + 1) = yR d k) := Kh (clsIt_stop HD.out (by omega))
    have HMO : Hid (cls (yO d k (m + 1)) ≠ cls (yO d k m) → cls (yO d k m) < cls (yO d k (m + 1))) := Kh (clsIt_more HD.out)
    rw [← hp] at harr
    obtain ⟨C, hC⟩ : ∃ C, C = cls (yO d k m) := ⟨_, rfl⟩
    rw [← hC] at HST HMO hmc hcn ⊢
    have HPD := Kh hp; have HPLT := Kh hplt; have HCD := Kh hC
    have HA := Kh harr; have HBX := Kh hbx; have HGR := Kh hgr
    have hsl : (sigL d k p).length = n := by rw [oX, hpl]
    obtain ⟨wm, hwm⟩ : ∃ wm, wm = wr.alloc (.map #[] 0) := ⟨_, rfl⟩
    obtain ⟨mb, hmb⟩ : ∃ mb, mb = wr.heap.size := ⟨_, rfl⟩
    have hgm : wr.grownBy wm none := by rw [hwm]; exact World.grownBy_alloc wr _ none
    have HMP : Hid (MapK 176 SigOk sigV wm mb 0 0 (numF [])) := Kh (by
     rw [hwm, hmb, ← numF_nil]; exact MapK.made _ _ _ _)
    have hPr := zN hbx
    have hgl := harr.lt
    have HWM := Kh hwm; have HGM := Kh hgm; have HMB := Kh hmb
    have hzm := hgm.size
    have hmz := HMP.out.lt
    have hPm : P < mb := by omega
    have hgm2 : g < mb := by omega
    have hwmb : w.heap.size ≤ mb := by have := hgr.size; omega
    clear hp hplt hC harr hbx hgr hgm hwm hmb
    obtain ⟨wo, rfl⟩ : ∃ wo : World, wo = wr := ⟨_, rfl⟩
    go_upto_region 11 with fail
    rw [← HWM.out, ← HMB.out]
    obtain ⟨d0, d1, d2, d3⟩ := zG (zB HBX.out HGM.out (by simp))
    go_wp2_with (first | (at_make; refine make1 rfl _ _ _ rfl xP rfl .i64 .i64 _ _ n rfl rfl rfl rfl ?b1 ?b2 ?_; (case b1 => omega); (case b2 => (unfold maxLen; omega)); intro w4 harr hg4 hlt4; (obtain ⟨e0, e1, e2, e3⟩ := zG (zB (zB HBX.out HGM.out (by simp)) hg4 (by simp)))) | fail)
    obtain ⟨F, hF⟩ : ∃ F, F = wm.heap.size := ⟨_, rfl⟩
    rw [← hF] at harr hlt4 ⊢
    obtain ⟨sg, hsg⟩ : ∃ sg, sg = sigL d k p := ⟨_, rfl⟩
    rw [← hsg] at HPS hsl
    have hgF : g < F := by omega
    have hPF : P < F := by omega
    have hmF : mb < F := by omega
    have hFw : w.heap.size ≤ F := by omega
    have hnl : (numb sg).length = n := by rw [yS, hsl]
    have HSG := Kh hsg; have HNL := Kh hnl
    have HF4 : Hid (Arr w4 F 3 (nats (qA (numb sg) 0))) := Kh (by
     rw [fillTo_zero, hnl, xU]; exact harr)
    have HM4 := Kh (HMP.out.kept hg4 (by simp)); have HA4 := Kh ((HA.out.kept HGM.out (by simp)).kept hg4 (by simp)); have HB4 := Kh (zB (zB HBX.out HGM.out (by simp)) hg4 (by simp))
    have HG4 := Kh (zA (zA HGR.out HGM.out (by simp)) hg4 (by simp))
    clear hsg hnl harr hg4 hF HMP HA HBX HGR HGM d0 d1 d2 d3 e0 e1 e2 e3
    go_loopg [9, 10, 11, 12, 13, 14, 15, 48] n (fun gh a9 a10 a11 a12 a13 a14 a15 i wr => ∃ (q c : Nat), gh + q = n ∧ i = .int .i64 q ∧ Arr wr F 3 (nats (qA (numb sg) q)) ∧ MapK 176 SigOk sigV wr mb q c (numF (yC (sg.take q))) ∧ c = (yC (sg.take q)).length ∧ Arr wr g 3 (nats p) ∧ wr.heap[P]? = some (.cells #[.int .i64 (k : Int), .int .i64 (S : Int), .slice (some ⟨fb, fo, none⟩) n fc, .slice (some ⟨b, off, none⟩) n cap] 42 (0, 0)) ∧ w.grownBy wr none)
    case atStart => exact ⟨0, 0, rfl, rfl, HF4.out, by simpa [yC] using HM4.out, by simp [yC], HA4.out, HB4.out, HG4.out⟩
    case round =>
     clear HF4 HM4 HA4 HB4 HG4
     obtain ⟨q, c, hgh, rfl, harr, hmap, hc, hap, hbx, hgr⟩ := hrel
     have HGH := Kh hgh; have HF := Kh harr; have HMP := Kh hmap; have HA := Kh hap; have HBX := Kh hbx; have HGR := Kh hgr; have HCC := Kh hc
     obtain ⟨d0, d1, d2, d3⟩ := zG hbx
     have hzr := hgr.size
     have hFz := harr.lt
     have hcq : c ≤ q := by rw [hc]; have := tS (sg.take q); rw [List.length_take] at this; omega
     clear hgh
     by_cases hq : q < n
     ·have hq' : (q : Int) < n := by omega
      have hh := (HAT.out _ hgr).hd q hq
      have hrc := (HAT.out _ hgr).rcap q hq
      have hrl := (HAT.out _ hgr).rlt q hq
      have hrc1 := hrc.1
      have hrc2 : RC q ≤ 9223372036854775807 := by have := hrc.2; unfold maxLen at this; omega
      have hcp0 := hap.nat q (by omega)
      obtain ⟨rb, hrb⟩ : ∃ rb, rb = RB q := ⟨_, rfl⟩
      obtain ⟨ro, hro⟩ : ∃ ro, ro = RO q := ⟨_, rfl⟩
      obtain ⟨rc, hrcE⟩ : ∃ rc, rc = RC q := ⟨_, rfl⟩
      rw [← hrb, ← hro, ← hrcE] at hh
      rw [← hrcE] at hrc1 hrc2
      have HEL : Hid (∀ W : World, w.grownBy W none → ∀ a, a < k → W.cell? ⟨rb, ro + a, none⟩ = some (.int .i64 ((nx d q a : Nat) : Int))) := Kh (fun W hg a ha => by rw [hrb, hro]; exact (HAT.out W hg).el q a hq ha)
      obtain ⟨pq, hpq⟩ : ∃ pq, pq = p.getD q 0 := ⟨_, rfl⟩
      rw [← hpq] at hcp0
      have HPQ := Kh hpq
      obtain ⟨wk, hwk⟩ : ∃ wk, wk = wr.alloc (.cells #[.int .i64 (pq : Int), .int .i64 0, .int .i64 0, .int .i64 0, .int .i64 0, .int .i64 0, .int .i64 0] 176) := ⟨_, rfl⟩
      obtain ⟨kb, hkb⟩ : ∃ kb, kb = wr.heap.size := ⟨_, rfl⟩
      have hgk : wr.grownBy wk none := by rw [hwk]; exact World.grownBy_alloc wr _ none
      have HK0 : Hid (Arr wk kb 176 (nats (oH d p q 0))) := Kh (by
       rw [hwk, hkb]
       have := Arr.new wr 176 #[.int .i64 (pq : Int), .int .i64 0, .int .i64 0, .int .i64 0, .int .i64 0, .int .i64 0, .int .i64 0]
       rw [show nats (oH d p q 0) = #[Value.int .i64 (pq : Int), .int .i64 0, .int .i64 0, .int .i64 0, .int .i64 0, .int .i64 0, .int .i64 0].toList by rw [oH, ← hpq]; rfl]
       exact this)
      have HWK := Kh hwk; have HKB := Kh hkb; have HGK := Kh (zA hgr hgk (by simp))
      have HF1 := Kh (harr.kept hgk (by simp)); have HM1 := Kh (hmap.kept hgk (by simp)); have HA1 := Kh (hap.kept hgk (by simp)); have HB1' := Kh (zB hbx hgk (by simp))
      have hFk : F < kb := by omega
      clear harr hmap hap hbx hgr hrb hro hrcE hpq hwk hkb hgk hrc hrl hc
      go_upto_region 16 with fail
      rw [← HWK.out, ← HKB.out]
      clear d0 d1 d2 d3 hcp0 hh HF HMP HA HBX HGR
      have hpg : g < kb := by omega
      go_wp2_with fail
      go_loopg [12, 13, 60] k (fun gh a12 a13 i wr => ∃ x : Nat, gh + x = k ∧ i = .int .i64 x ∧ Arr wr kb 176 (nats (oH d p q x)) ∧ wk.grownBy wr (some kb))
      case atStart => exact ⟨0, rfl, rfl, HK0.out, zL _ _⟩
      case round =>
       clear HK0
       obtain ⟨x, hgh, rfl, harr, hgr⟩ := hrel
       have HGH2 := Kh hgh; have HK := Kh harr; have HGR := Kh hgr
       have hgw' := zA HGK.out hgr (fun k e => by have e : kb = k := Option.some.inj e; omega)
       have HGW := Kh hgw'
       clear hgh
       by_cases hx : x < k
       ·have hx' : (x : Int) < k := by omega
        have cel := HEL.out wr hgw' x hx
        have hyn := kF HD.out hq hx
        obtain ⟨y, hy⟩ : ∃ y, y = nx d q x := ⟨_, rfl⟩
        rw [← hy] at cel hyn
        have hyn' : (y : Int) < n := by omega
        have cy := (HA1.out.kept hgr (fun e => by have e : kb = g := Option.some.inj e; omega)).nat y (by omega)
        have hset := sigTo_set (d := d) (p := p) (q := q) (x := x) (by omega)
        rw [← hy] at hset
        have HSET := Kh hset
        have hs7 := pH (d := d) (p := p) (q := q) (x := x) (by omega)
        have ck := harr.nat (1 + x) (by omega)
        have fk := harr.frozen (1 + x)
        have HS7 := Kh hs7
        obtain ⟨z, hz⟩ : ∃ z, z = p.getD y 0 := ⟨_, rfl⟩
        rw [← hz] at cy
        have HZ := Kh hz
        clear hset hs7 hz hy harr hgr hgw'
        go_wp2
        go_roundg (k - (x + 1))
        case measure => have := HGH2.out; omega
        case rel => exact ⟨x + 1, by have := HGH2.out; omega, by go_num, by rw [← HSET.out, ← HZ.out]; exact HK.out.nat_set (1 + x) (by rw [HS7.out]; omega) z, zF HGR.out (zD wr ⟨kb, 1 + x, none⟩ _)⟩
       ·have hxk : x = k := by have := HGH2.out; omega
        have HXK := Kh hxk
        rw [hxk] at harr HK
        have HFr := Kh (HF1.out.kept hgr (fun e => by have e : kb = F := Option.some.inj e; omega))
        have HMr := Kh (HM1.out.kept hgr (fun e => by have e : kb = mb := Option.some.inj e; omega))
        have HAr := Kh (HA1.out.kept hgr (fun e => by have e : kb = g := Option.some.inj e; omega))
        have HBr := Kh (zB HB1'.out hgr (fun e => by have e : kb = P := Option.some.inj e; omega))
        have hqs : q < sg.length := by omega
        have hsq : sg[q] = oH d p q k := by
         have e := HSG.out
         subst e
         exact sigL_get (by omega)
        have hnx := numb_stepG hqs
        have hfx := jX hqs
        rw [hsq] at hnx hfx
        obtain ⟨y0, y1, y2, y3, y4, y5, y6, hL⟩ := seven (pH (d := d) (p := p) (q := q) (x := k) hk6)
        have hok : SigOk [y0, y1, y2, y3, y4, y5, y6] := by
         rw [← hL]
         exact ⟨pH hk6, fun z hz => by have := sigTo_lt HPLT.out hn1 z hz; omega⟩
        rw [hL] at harr HK hnx hfx
        obtain ⟨k0, k1, k2, k3, k4, k5, k6⟩ := sig7_cells harr
        have hset := fillTo_set (l := numb sg) (k := q) (by have := HNL.out; omega)
        have hfl := fillTo_length (l := numb sg) (k := q) (by have := HNL.out; omega)
        have HFL : Hid ((qA (numb sg) q).length = n) := Kh (by rw [hfl, HNL.out])
        have cF := HFr.out.nat q (by rw [HFL.out]; exact hq)
        have fF := HFr.out.frozen q
        have hlk := HMr.out.lookup sig_key hok
        obtain ⟨Fs, hFs⟩ : ∃ Fs, Fs = yC (sg.take q) := ⟨_, rfl⟩
        rw [← hFs] at hnx hfx hlk HMr HCC
        have HFS := Kh hFs; have HOK := Kh hok
        clear hL hsq hfl harr hgr hgw' hFs hok hxk HF1 HM1 HA1 HB1'
        by_cases hin : [y0, y1, y2, y3, y4, y5, y6] ∈ Fs
        ·obtain ⟨I, hI⟩ : ∃ I, I = (numb sg).getD q 0 := ⟨_, rfl⟩
         have hsome := numb_old (hI.trans hnx) hin
         rw [sH hin] at hfx
         rw [hsome] at hlk
         rw [← hI] at hset
         replace hlk : (Instr.lookup 174 (.map (some mb)) (.agg #[.int .i64 (y0 : Int), .int .i64 (y1 : Int), .int .i64 (y2 : Int), .int .i64 (y3 : Int), .int .i64 (y4 : Int), .int .i64 (y5 : Int), .int .i64 (y6 : Int)]) true).run Try.prog wr = .ok (.tuple #[.int .i64 (I : Int), .bool true]) wr := hlk
         have HSET := Kh hset; have HFX := Kh hfx
         clear hset hfx hnx hI hin hsome
         go_wp2
         go_roundg (n - (q + 1))
         case measure => have := HGH.out; omega
         case rel =>
          refine ⟨q + 1, c, by have := HGH.out; omega, by go_num, by rw [← HSET.out]; exact HFr.out.nat_set q (by rw [HFL.out]; exact hq) I, ?_, by rw [HFX.out]; exact HCC.out, HAr.out.kept (zD wr ⟨F, q, none⟩ _) (fun e => by have e : F = g := Option.some.inj e; omega), zB HBr.out (zD wr ⟨F, q, none⟩ _) (fun e => by have e : F = P := Option.some.inj e; omega), zA HGW.out (zD wr ⟨F, q, none⟩ _) (fun k e => by have e : F = k := Option.some.inj e; omega)⟩
          rw [HFX.out]
          exact (HMr.out.mono (by omega)).kept (zD wr ⟨F, q, none⟩ _) (fun e => by have e : F = mb := Option.some.inj e; omega)
        ·obtain ⟨I, hI⟩ : ∃ I, I = (numb sg).getD q 0 := ⟨_, rfl⟩
         have hnone := numF_no hin
         have hIl := numb_new (hI.trans hnx) hin
         rw [vQ hin] at hfx
         rw [hnone] at hlk
         rw [← hI] at hset
         have hIc : I = c := by rw [hIl]; exact HCC.out.symm
         have hcz : c < 4611686018427387904 := by omega
         have hnewF := numF_new hin
         rw [← HCC.out] at hnewF
         subst hIc
         replace hlk : (Instr.lookup 174 (.map (some mb)) (.agg #[.int .i64 (y0 : Int), .int .i64 (y1 : Int), .int .i64 (y2 : Int), .int .i64 (y3 : Int), .int .i64 (y4 : Int), .int .i64 (y5 : Int), .int .i64 (y6 : Int)]) true).run Try.prog wr = .ok (.tuple #[.int .i64 0, .bool false]) wr := hlk
         have hlen := HMr.out.len sig_key
         have HSET := Kh hset; have HFX := Kh hfx; have HNEW := Kh hnewF; have HNONE := Kh hnone
         clear hset hfx hnx hI hin hnone hIl hnewF
         go_wp2_with (first | (at_mapUpdate; refine jA sig_key rfl _ _ _ rfl mb q I (numF Fs) [y0, y1, y2, y3, y4, y5, y6] I rfl rfl rfl HMr.out (by unfold maxLen; omega) HOK.out hcz ?_; intro w5 hmap5 hg5; (have HM5 := Kh hmap5); (have HG5 := Kh hg5); (have fF5 := (HFr.out.kept hg5 (fun e => by have e : mb = F := Option.some.inj e; omega)).frozen q); (have cF5 := (HFr.out.kept hg5 (fun e => by have e : mb = F := Option.some.inj e; omega)).nat q (by rw [HFL.out]; exact hq)); clear hmap5 hg5) | fail)
         rw [HNONE.out] at HM5
         replace HM5 := HM5.out
         have e5 : (if (none : Option Nat).isSome = true then I else I + 1) = I + 1 := rfl
         rw [e5, HNEW.out] at HM5
         have HM6 := Kh HM5
         clear HM5 e5
         go_roundg (n - (q + 1))
         case measure => have := HGH.out; omega
         case rel =>
          have hgs := zD w5 ⟨F, q, none⟩ (.int .i64 (I : Int))
          refine ⟨q + 1, I + 1, by have := HGH.out; omega, by go_num, ?_, ?_, by rw [HFX.out, List.length_append, ← HCC.out]; rfl, (HAr.out.kept HG5.out (fun e => by have e : mb = g := Option.some.inj e; omega)).kept hgs (fun e => by have e : F = g := Option.some.inj e; omega), zB (zB HBr.out HG5.out (fun e => by have e : mb = P := Option.some.inj e; omega)) hgs (fun e => by have e : F = P := Option.some.inj e; omega), zA (zA HGW.out HG5.out (fun k e => by have e : mb = k := Option.some.inj e; omega)) hgs (fun k e => by have e : F = k := Option.some.inj e; omega)⟩
          ·rw [← HSET.out]
           exact (HFr.out.kept HG5.out (fun e => by have e : mb = F := Option.some.inj e; omega)).nat_set q (by rw [HFL.out]; exact hq) I
          ·rw [HFX.out]
           exact HM6.out.kept hgs (fun e => by have e : F = mb := Option.some.inj e; omega)
     ·have hqn2 : q = n := by have := HGH.out; omega
      have hcc : c = cls (yO d k (m + 1)) := by
       rw [hc, hqn2, List.take_of_length_le (by omega), ← HPS.out, cls_numb]
      have hlen := hmap.len sig_key
      have HFE : Hid (Arr wr F 3 (nats (yO d k (m + 1)))) := Kh (by
       have e : qA (numb sg) q = yO d k (m + 1) := by rw [hqn2, ← HPS.out, ← HNL.out]; exact fillTo_end _
       rw [← e]; exact harr)
      have HCE := Kh hcc
      rw [← hcc] at HST HMO
      have hcn2 : c ≤ n := by omega
      clear harr hmap hc hap hqn2
      by_cases he : c = C
      ·have HEQ := Kh (HST.out he)
       have HN2 : Hid ((yR d k).length = n) := Kh (by rw [wP, HN.out])
       subst he
       clear HST HMO HCE
       go_wp2
       go_ret
       rw [HEQ.out] at HFE
       exact ⟨F, by rw [HN2.out]; rfl, hFw, HFE.out, hgr⟩
      ·have hlt := HMO.out he
       have he' : ((c : Int) == (C : Int)) = false := by rw [beq_eq_false_iff_ne]; omega
       have HHE := Kh he
       have HGC := Kh hgr
       clear HST HMO he hgr
       go_wp2
       go_roundg (n - cls (yO d k (m + 1)))
       case measure => have := HCE.out; have := HCD.out; omega
       case rel => exact ⟨m + 1, F, rfl, by have := HCE.out; omega, rfl, rfl, HFE.out, hFw, by omega, hbx, HGC.out⟩
end Go.Proofs.Ytjfdomfendbhfaa
