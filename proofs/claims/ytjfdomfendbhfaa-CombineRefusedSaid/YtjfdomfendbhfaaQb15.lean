/- Part 15 of the proof: PTrim, SigPlain, MapK. -/
import Derived.Test.YtjfdomfendbhfaaQb14
set_option linter.unusedVariables false
set_option linter.unusedSimpArgs false
namespace Go.Proofs.Ytjfdomfendbhfaa
open Go.RowKit
def PTrimOk (w : World) (d : DfaV) (n k : Nat) (e : Ending) (w' : World) : Prop :=
 ∃ v G, e = .returned (.tuple #[v, .slice (some ⟨G, 0, none⟩) n n]) ∧ tQ w w' v (xV d k) ∧ w.heap.size ≤ G ∧ Arr w' G 3 (ints (tU n (zX d k))) ∧ w.grownBy w' none
set_option maxRecDepth 100000 in
set_option maxHeartbeats 2000000 in
theorem ptrim_any (B : Nat) (w : World) (v : Value) (d : DfaV) (n k : Nat) (hB : B ≤ w.heap.size) (h : sC B w v d) (hd : VD d n k) (h5 : n ≤ 512) :
  Calls Try.prog 110 #[v] w (PTrimOk w d n k) := by
 have hdok := h
 obtain ⟨fb, fo, fc, b, off, cap, RB, RO, RC, rfl, hat⟩ := h.at hd
 have hn := hd.hn
 have hn1 := hd.n1
 have hk6 := hd.k6
 have hk1 := hd.k1
 have hfc := hat.fcap.1
 have hfc2 := hat.fcap.2
 have hcp := hat.cap.1
 have hcp2 := hat.cap.2
 have hmx1 : fc ≤ 9223372036854775807 := by unfold maxLen at hfc2; omega
 have hmx2 : cap ≤ 9223372036854775807 := by unfold maxLen at hcp2; omega
 obtain ⟨S, hS⟩ : ∃ S, S = st0 d := ⟨_, rfl⟩
 have HSE := Kh hS
 have hvd : dAgg k (st0 d) fb fo fc b off cap n = .agg #[.int .i64 (k : Int), .int .i64 (S : Int), .slice (some ⟨fb, fo, none⟩) n fc, .slice (some ⟨b, off, none⟩) n cap] := by rw [hS]; rfl
 rw [hvd] at hdok ⊢
 obtain ⟨hb1, hb2, hgA, hzA⟩ := rY w #[.int .i64 (k : Int), .int .i64 (S : Int), .slice (some ⟨fb, fo, none⟩) n fc, .slice (some ⟨b, off, none⟩) n cap] #[.int .i64 0, .int .i64 0, .slice none 0 0, .slice none 0 0] 42
 obtain ⟨wA, hWA⟩ : ∃ wA, wA = (w.alloc (.cells #[.int .i64 (k : Int), .int .i64 (S : Int), .slice (some ⟨fb, fo, none⟩) n fc, .slice (some ⟨b, off, none⟩) n cap] 42)).alloc (.cells #[.int .i64 0, .int .i64 0, .slice none 0 0, .slice none 0 0] 42) := ⟨_, rfl⟩
 rw [← hWA] at hb1 hb2 hgA hzA
 obtain ⟨c0, c1, c2, c3⟩ := zG hb1
 obtain ⟨P, hP⟩ : ∃ P, P = w.heap.size := ⟨_, rfl⟩
 obtain ⟨Q, hQ⟩ : ∃ Q, Q = w.heap.size + 1 := ⟨_, rfl⟩
 have HPE := Kh hP; have HQE : Hid (Q = P + 1) := Kh (by omega)
 have hPQ : P < Q := by omega
 have hQw : Q < wA.heap.size := by omega
 have hPw : w.heap.size ≤ P := by omega
 have hBA : B ≤ wA.heap.size := by omega
 rw [← hQ] at hb2
 rw [← hP] at hb1 c0 c1 c2 c3 hB
 have HB1 := Kh hb1; have HB2 := Kh hb2; have HGA := Kh hgA; have HWA := Kh hWA; have HAT := Kh (hat.kept hgA (by simp)); have HN := Kh hn; have HD := Kh hd
 have HVA := Kh (uF B wA _ d hBA (hdok.kept hgA (by simp)))
 have HV0 := Kh (nQ hd h5)
 clear hb1 hb2 hgA hWA hat hn hd h hdok hvd hfc2 hcp2 hS hzA hP hQ
 go_enter Try.func110, Try.ntmps110
 go_upto_region 1 with fail
 rw [← HWA.out, ← HPE.out, ← HQE.out]
 go_wp2_with fail
 refine HVA.out.mono ?_
 rintro e w1 ⟨rfl, hg1⟩
 rw [HV0.out]
 have hz1 := hg1.size
 have HG1 := Kh hg1
 have HB11 := Kh (zB HB1.out hg1 (by simp)); have HB21 := Kh (zB HB2.out hg1 (by simp))
 have HEX := Kh (explore_any B w1 P d n k S fb fo fc b off cap RB RO RC HSE.out h5 ⟨HB11.out, HAT.out.kept hg1 (by simp)⟩)
 obtain ⟨d0, d1, d2, d3⟩ := zG HB11.out
 clear hg1 HVA c0 c1 c2 c3
 go_wp2_with fail
 refine HEX.out.mono ?_
 rintro e w2 ⟨v2, sa, sc, rfl, ⟨o, hs, sf, cf, sn, cn, rfl, ho, hblt⟩, hown2, hg2⟩
 clear HEX d0 d1 d2 d3
 obtain ⟨hacc, hln⟩ := xL HD.out
 obtain ⟨l, hl⟩ : ∃ l, l = zX d k := ⟨_, rfl⟩
 have HL := Kh hl
 rw [← hl] at hown2 hacc hln ⊢
 have hl0 := hacc.hd.1
 obtain ⟨gl, rfl, hlc, hlm, harl⟩ := xJ hown2 hl0
 obtain ⟨m, hm⟩ : ∃ m, m = xV d k := ⟨_, rfl⟩
 rw [← hm] at hblt
 have HM := Kh hm
 have hms : (xV d k).start = 0 := rfl
 have hmk : (xV d k).letters = k := HD.out.hk
 rw [← hm] at hms hmk
 rw [← hm, hms, hmk]
 have HAL := Kh harl; have HG2 := Kh hg2; have HACC := Kh hacc; have HBL := Kh hblt; have HMS := Kh hms; have HMK := Kh hmk
 have hz2 := hg2.size
 obtain ⟨FL, hFL⟩ : ∃ FL, FL = m.final.length := ⟨_, rfl⟩
 obtain ⟨NL, hNL⟩ : ∃ NL, NL = m.next.length := ⟨_, rfl⟩
 rw [← hFL, ← hNL]
 have HFL := Kh hFL; have HNL := Kh hNL
 clear hl hown2 harl hg2 hacc hm hms hmk hblt hFL hNL
 obtain ⟨w3, hw3⟩ : ∃ w3, w3 = w2.alloc (.cells #[.int .i64 (k : Int), .int .i64 0, .slice sf FL cf, .slice sn NL cn] 42) := ⟨_, rfl⟩
 obtain ⟨T, hT⟩ : ∃ T, T = w2.heap.size := ⟨_, rfl⟩
 have hg3 := World.grownBy_alloc w2 (.cells #[.int .i64 (k : Int), .int .i64 0, .slice sf FL cf, .slice sn NL cn] 42) none
 have hb3 := heap_alloc_new w2 (.cells #[.int .i64 (k : Int), .int .i64 0, .slice sf FL cf, .slice sn NL cn] 42)
 rw [← hw3] at hg3 hb3
 rw [← hT] at hb3
 have HG3 := Kh hg3; have HB3 := Kh hb3; have HW3 := Kh hw3; have HTE := Kh hT
 have hz3 := hg3.size
 have hTz := zN hb3
 have hQT : Q < T := by omega
 have hPz : P + 1 < w3.heap.size := by omega
 obtain ⟨d0, d1, d2, d3⟩ := zG (zB (zB HB11.out HG2.out (by simp)) hg3 (by simp))
 clear hg3 hb3 hw3 hT
 go_upto_region 4 with fail
 rw [← HW3.out, ← HTE.out]
 go_wp2_with (first | (at_make; refine make1 rfl _ _ _ rfl xP rfl .i64 .i64 _ _ n rfl rfl rfl rfl ?b1 ?b2 ?_; (case b1 => omega); (case b2 => (unfold maxLen; omega)); intro w4 harr hg4 hlt4) | fail)
 obtain ⟨G, hG⟩ : ∃ G, G = w3.heap.size := ⟨_, rfl⟩
 rw [← hG] at harr hlt4 ⊢
 have HA2 := Kh harr; have HG4 := Kh hg4; have HGE := Kh hG
 have hGP : T < G := by omega
 clear harr hg4 hG d0 d1 d2 d3
 go_loopg [8, 32] n (fun gh a7 i wr => ∃ q : Nat, gh + q = n ∧ i = .int .i64 q ∧ Arr wr G 3 (ints (fillM n q)) ∧ w3.grownBy wr none)
 case atStart => exact ⟨0, rfl, rfl, by simpa [fillM, oO] using HA2.out, HG4.out⟩
 case round =>
  clear HA2 HG4
  obtain ⟨q, hg, rfl, harr, hgr⟩ := hrel
  have HG := Kh hg; have HA := Kh harr; have HGR := Kh hgr
  clear hg
  by_cases hq : q < n
  ·have hq' : (q : Int) < n := by omega
   have cgk := harr.int q (by rw [lV (by omega)]; exact hq)
   have fgk := harr.frozen q
   have HS := Kh (fillM_set hq)
   clear harr hgr
   go_wp2
   go_roundg (n - (q + 1))
   case measure => have := HG.out; omega
   case rel =>
    refine ⟨q + 1, by omega, by go_num, ?_, zA HGR.out (zD wr ⟨G, q, none⟩ _) (fun q e => by have h7 : G = q := Option.some.inj e; have := HGE.out; omega)⟩
    rw [← HS.out]
    exact HA.out.int_set q (by rw [lV (by omega)]; exact hq) (-1)
  ·have hqn : q = n := by have := HG.out; omega
   have HF : Hid (fillM n q = tU n (l.take 0)) := Kh (by rw [hqn, List.take_zero, placeL_nil]; simp [fillM])
   rw [HF.out] at HA
   clear hqn harr hgr HG
   obtain ⟨w5, rfl⟩ : ∃ w5 : World, w5 = wr := ⟨_, rfl⟩
   go_wp2
   go_loopg [9, 10, 41] l.length (fun gh a8 a9 i wr => ∃ q : Nat, gh + q = l.length ∧ i = .int .i64 q ∧ Arr wr G 3 (ints (tU n (l.take q))) ∧ w3.grownBy wr none)
   case atStart => exact ⟨0, rfl, rfl, HA.out, HGR.out⟩
   case round =>
    clear HA HGR HF
    obtain ⟨q, hg, rfl, harr, hgr⟩ := hrel
    have HG := Kh hg; have HA := Kh harr; have HGR := Kh hgr
    clear hg
    by_cases hq : q < l.length
    ·have hq' : (q : Int) < l.length := by omega
     have cl := ((HAL.out.kept HG3.out (by simp)).kept hgr (by simp)).nat q hq
     have hsn : l.getD q 0 < n := HACC.out.lt _ (by rw [zI hq]; exact List.getElem_mem _)
     have hst : l.take (q + 1) = l.take q ++ [l.getD q 0] := yH hq
     have hnot : l.getD q 0 ∉ l.take q := by
      have h1 := HACC.out.nd
      have h2 : (l.take (q + 1)).Nodup := h1.sublist (List.take_sublist _ _)
      rw [hst, List.nodup_append] at h2
      exact fun hm => h2.2.2 _ hm _ (by simp) rfl
     obtain ⟨s, hs⟩ : ∃ s, s = l.getD q 0 := ⟨_, rfl⟩
     rw [← hs] at cl hsn hst hnot
     have hsn' : (s : Int) < n := by omega
     have cgk := harr.int s (by rw [uO]; exact hsn)
     have fgk := harr.frozen s
     have HS : Hid ((tU n (l.take q)).set s (q : Int) = tU n (l.take (q + 1))) := Kh (by
      have := placeL_set (n := n) hnot
      rw [List.length_take, Nat.min_eq_left (by omega)] at this
      rw [this, hst])
     clear harr hgr hst hnot hs
     go_wp2
     go_roundg (l.length - (q + 1))
     case measure => have := HG.out; omega
     case rel =>
      refine ⟨q + 1, by omega, by go_num, ?_, zA HGR.out (zD wr ⟨G, s, none⟩ _) (fun q e => by have h7 : G = q := Option.some.inj e; have := HGE.out; omega)⟩
      rw [← HS.out]
      exact HA.out.int_set s (by rw [uO]; exact hsn) (q : Int)
    ·have hql : q = l.length := by have := HG.out; omega
     have hpl : l.take q = l := by rw [hql]; exact List.take_length
     rw [hpl] at HA harr
     have HPL := Kh harr; have HGR3 := Kh hgr
     clear hql hpl harr HA HG hgr
     obtain ⟨e0, e1, e2, e3⟩ := zG (zB HB3.out HGR3.out (by simp))
     have hbQ := zB (zB (zB HB21.out HG2.out (by simp)) HG3.out (by simp)) HGR3.out (by simp)
     obtain ⟨q0, q1, q2, q3⟩ := zG hbQ
     have f0 := zE hbQ 0
     have f1 := zE hbQ 1
     have f2 := zE hbQ 2
     have f3 := zE hbQ 3
     have HBQ := Kh hbQ
     clear hbQ
     go_wp2
     obtain ⟨hbz, hgz⟩ := vD HBQ.out (.int .i64 (k : Int)) (.int .i64 0) (.slice sf FL cf) (.slice sn NL cn)
     obtain ⟨wz, hwz⟩ : ∃ wz, wz = (((wr.setCell ⟨Q, 0, none⟩ (.int .i64 (k : Int))).setCell ⟨Q, 1, none⟩ (.int .i64 0)).setCell ⟨Q, 2, none⟩ (.slice sf FL cf)).setCell ⟨Q, 3, none⟩ (.slice sn NL cn) := ⟨_, rfl⟩
     rw [← hwz] at hbz hgz ⊢
     clear hwz
     obtain ⟨r0, r1, r2, r3⟩ := zG hbz
     clear e0 e1 e2 e3 q0 q1 q2 q3 f0 f1 f2 f3
     refine bodyPost_ret (v := .tuple #[.agg #[.int .i64 (k : Int), .int .i64 0, .slice sf FL cf, .slice sn NL cn], .slice (some ⟨G, 0, none⟩) n n]) (by simp [results, Try.results110, go_sem, r0, r1, r2, r3]) rfl ?_
     have hgW : w.grownBy wz none := zA (zA (zA (zA (zA HGA.out HG1.out (by simp)) HG2.out (by simp)) HG3.out (by simp)) HGR3.out (by simp)) hgz (fun k e => by have h7 : Q = k := Option.some.inj e; omega)
     have hbw := ((HBL.out.grow HG3.out).grow HGR3.out).far hgz HBQ.out (by omega)
     have hmd : xV d k = m := HM.out.symm
     refine ⟨_, G, rfl, ⟨o, hs, sf, cf, sn, cn, ?_, by omega, by rw [hmd]; exact hbw⟩, by have := HGE.out; omega, ?_, hgW⟩
     ·rw [hmd, HMS.out, HMK.out, HFL.out, HNL.out]
     ·rw [← HL.out]
      exact HPL.out.kept hgz (fun e => by have h7 : Q = G := Option.some.inj e; omega)
end Go.Proofs.Ytjfdomfendbhfaa
namespace Go.Proofs.Ytjfdomfendbhfaa
def oH (d : DfaV) (p : List Nat) (q x : Nat) : List Nat := (p.getD q 0 :: (List.range x).map fun a => p.getD (nx d q a) 0) ++ List.replicate (6 - x) 0
theorem pH {d : DfaV} {p : List Nat} {q x : Nat} (h : x ≤ 6) : (oH d p q x).length = 7 := by simp [oH]; omega
theorem sigTo_set {d : DfaV} {p : List Nat} {q x : Nat} (h : x < 6) : (oH d p q x).set (1 + x) (p.getD (nx d q x) 0) = oH d p q (x + 1) := by
 unfold oH
 rw [List.set_append_right _ _ (by simp; omega), List.range_succ, List.map_append, show 6 - x = (6 - (x + 1)) + 1 by omega, List.replicate_succ]
 simp [Nat.add_comm]
theorem sigTo_lt {d : DfaV} {p : List Nat} {q x N : Nat} (h : ∀ c ∈ p, c < N) (hN : 0 < N) : ∀ y ∈ oH d p q x, y < N := by
 intro y hy
 rcases List.mem_append.1 hy with hy | hy
 ·rcases List.mem_cons.1 hy with rfl | hy
  ·exact mX h hN
  ·obtain ⟨a, _, rfl⟩ := List.mem_map.1 hy
   exact mX h hN
 ·rw [List.mem_replicate] at hy; omega
theorem sigTo_iff {d : DfaV} {p : List Nat} {q q' k : Nat} : oH d p q k = oH d p q' k ↔ p.getD q 0 = p.getD q' 0 ∧ ∀ a, a < k → p.getD (nx d q a) 0 = p.getD (nx d q' a) 0 := by
 unfold oH
 constructor
 ·intro h
  have h := List.append_cancel_right h
  rw [List.cons.injEq, List.map_inj_left] at h
  exact ⟨h.1, fun a ha => h.2 a (List.mem_range.2 ha)⟩
 ·rintro ⟨h1, h2⟩
  rw [h1, List.map_congr_left (fun a ha => h2 a (List.mem_range.1 ha))]
def sigL (d : DfaV) (k : Nat) (p : List Nat) : List (List Nat) := (List.range p.length).map fun q => oH d p q k
theorem oX (d : DfaV) (k : Nat) (p : List Nat) : (sigL d k p).length = p.length := by simp [sigL]
theorem sigL_get {d : DfaV} {k : Nat} {p : List Nat} {q : Nat} (h : q < p.length) : (sigL d k p)[q]'(by rw [oX]; exact h) = oH d p q k := by simp [sigL]
theorem sig_refTo {d : DfaV} {n k : Nat} (hd : VD d n k) {p : List Nat} (hp : p.length = n) (hn : Norm p) : numb (sigL d k p) = rA d p k := by
 have hlt : ∀ c ∈ p, c < n := by have := jQ hn; rwa [hp] at this
 have hl := oX d k p
 refine norm_ext (jP _) (mQ hn k) ⟨by rw [yS, hl, xI], fun i j hi hj => ?_⟩
 rw [yS, hl] at hi hj
 rw [qO (by omega) (by omega), sigL_get hi, sigL_get hj, sigTo_iff, sL hd hp hlt (by omega) (by omega) k (Nat.le_refl _)]
theorem numb_stepG {α : Type} [DecidableEq α] {l : List α} {k : Nat} (hk : k < l.length) : (numb l).getD k 0 = if l[k] ∈ yC (l.take k) then (yC (l.take k)).idxOf l[k] else (yC (l.take k)).length := by
 rw [zI (by rw [yS]; exact hk), qN hk, ← numb_take hk, List.take_succ_eq_append_getElem hk, sT]
 by_cases h : l[k] ∈ yC (l.take k)
 ·rw [sH h, if_pos h]
 ·rw [vQ h, if_neg h, List.idxOf_append, if_neg h]; simp
theorem jX {α : Type} [DecidableEq α] {l : List α} {k : Nat} (hk : k < l.length) : yC (l.take (k + 1)) = xK (yC (l.take k)) l[k] := by
 rw [List.take_succ_eq_append_getElem hk, sT]
theorem cls_numb {α : Type} [DecidableEq α] (l : List α) : cls (numb l) = (yC l).length := by
 unfold cls numb
 rw [firsts_map_inj _ _ (fun x hx y _ h => idxOf_inj (xX.2 hx) h), List.length_map]
def wJ (d : DfaV) (q : Nat) : List Nat := (List.range q).map fun i => if d.final.getD i false = d.final.getD 0 false then 0 else 1
def fstC (d : DfaV) (q : Nat) : Nat := if (wJ d q).all (· == 0) then 1 else 2
def fstF (d : DfaV) (n q : Nat) : List Nat := wJ d q ++ List.replicate (n - q) 0
theorem nH {d : DfaV} {n q : Nat} (h : q ≤ n) : (fstF d n q).length = n := by simp [fstF, wJ]; omega
theorem fstF_same {d : DfaV} {n q : Nat} (h : q < n) (e : d.final.getD q false = d.final.getD 0 false) : fstF d n (q + 1) = fstF d n q ∧ fstC d (q + 1) = fstC d q := by
 have h1 : wJ d (q + 1) = wJ d q ++ [0] := by
  simp only [wJ, List.range_succ, List.map_append, List.map_cons, List.map_nil, if_pos e]
 constructor
 ·unfold fstF
  rw [h1, show n - q = (n - (q + 1)) + 1 by omega, List.replicate_succ, List.append_assoc]
  rfl
 ·unfold fstC
  rw [h1, List.all_append]; simp
theorem fstF_diff {d : DfaV} {n q : Nat} (h : q < n) (e : d.final.getD q false ≠ d.final.getD 0 false) : fstF d n (q + 1) = (fstF d n q).set q 1 ∧ fstC d (q + 1) = 2 := by
 have h1 : wJ d (q + 1) = wJ d q ++ [1] := by
  simp only [wJ, List.range_succ, List.map_append, List.map_cons, List.map_nil, if_neg e]
 have hl : (wJ d q).length = q := by simp [wJ]
 constructor
 ·unfold fstF
  rw [h1, List.set_append_right _ _ (by omega), hl, Nat.sub_self, show n - q = (n - (q + 1)) + 1 by omega, List.replicate_succ, List.set_cons_zero, List.append_assoc]
  rfl
 ·unfold fstC
  rw [h1, List.all_append]; simp
theorem fst_part0 {d : DfaV} {n k : Nat} (hd : VD d n k) : wJ d n = kE d ∧ fstC d n = cls (kE d) := by
 have hl : (wJ d n).length = n := by simp [wJ]
 have hg : ∀ i, i < n → (wJ d n).getD i 0 = if d.final.getD i false = d.final.getD 0 false then 0 else 1 := fun i hi => by
  rw [zI (by omega)]; simp [wJ]
 have hker : ∀ i j, i < n → j < n → ((wJ d n).getD i 0 = (wJ d n).getD j 0 ↔ (kE d).getD i 0 = (kE d).getD j 0) := fun i j hi hj => by
  rw [hg i hi, hg j hj, jH hd hi hj]
  cases d.final.getD i false <;> cases d.final.getD j false <;> cases d.final.getD 0 false <;> simp
 have hp0 := lL d
 have hn1 := hd.n1
 have hnorm : Norm (wJ d n) := by
  -- the first one is 0; what differs from it is 1
  unfold Norm
  have h0 : (wJ d n).getD 0 0 = 0 := by rw [hg 0 (by omega), if_pos rfl]
  refine List.ext_getElem (yS _) fun i h1 h2 => ?_
  have hi : i < n := by omega
  rw [qN h2]
  have key : ∀ m, 0 < m → m ≤ n → yC ((wJ d n).take m) = if (∃ j, j < m ∧ (wJ d n).getD j 0 = 1) then [0, 1] else [0] := by
   intro m hm hmn
   induction m with
   | zero => omega
   | succ m ih =>
    have hm' : m < (wJ d n).length := by omega
    rw [jX hm', ← zI (d := 0) hm']
    have h01 : (wJ d n).getD m 0 = 0 ∨ (wJ d n).getD m 0 = 1 := by rw [hg m (by omega)]; split <;> simp
    by_cases hm0 : m = 0
    ·subst hm0
     rw [h0]
     have : ¬ ∃ j, j < 0 + 1 ∧ (wJ d n).getD j 0 = 1 := by
      rintro ⟨j, hj, e⟩
      have : j = 0 := by omega
      subst this; omega
     rw [if_neg this]; rfl
    ·rw [ih (by omega) (by omega)]
     by_cases hex : ∃ j, j < m ∧ (wJ d n).getD j 0 = 1
     ·have hex2 : ∃ j, j < m + 1 ∧ (wJ d n).getD j 0 = 1 := hex.imp fun j h => ⟨by omega, h.2⟩
      rw [if_pos hex, if_pos hex2]
      rcases h01 with e | e <;> rw [e] <;> rfl
     ·rw [if_neg hex]
      rcases h01 with e | e
      ·have hex2 : ¬ ∃ j, j < m + 1 ∧ (wJ d n).getD j 0 = 1 := by
        rintro ⟨j, hj, e2⟩
        rcases Nat.lt_succ_iff_lt_or_eq.1 hj with hj | rfl
        ·exact hex ⟨j, hj, e2⟩
        ·omega
       rw [if_neg hex2, e]; rfl
      ·rw [if_pos ⟨m, by omega, e⟩, e]; rfl
  have hk := key n (by omega) (Nat.le_refl _)
  rw [show (wJ d n).take n = wJ d n by rw [List.take_of_length_le (by omega)]] at hk
  rw [hk]
  have h01 : (wJ d n).getD i 0 = 0 ∨ (wJ d n).getD i 0 = 1 := by rw [hg i hi]; split <;> simp
  rw [zI h2] at h01
  rcases h01 with e | e
  ·rw [e]; split <;> rfl
  ·rw [e, if_pos ⟨i, hi, by rw [zI h2, e]⟩]; rfl
 have heq : wJ d n = kE d := norm_ext hnorm (part0_norm d) ⟨by rw [hl, hp0, hd.hn], fun i j hi hj => hker i j (by omega) (by omega)⟩
 refine ⟨heq, ?_⟩
 rw [← heq]
 unfold fstC
 by_cases ha : (wJ d n).all (· == 0) = true
 ·rw [if_pos ha]
  have : wJ d n = List.replicate n 0 := by
   refine List.eq_replicate_iff.2 ⟨hl, fun x hx => ?_⟩
   simpa using List.all_eq_true.1 ha x hx
  rw [this]
  have h1 : (yC (List.replicate n 0)) ⊆ [0] := fun x hx => by
   have := xX.1 hx
   rw [List.mem_replicate] at this
   simp [this.2]
  have h2 := (tO (List.replicate n 0)).length_le_of_subset h1
  have h3 := cls_pos (p := List.replicate n 0) (by simp; omega)
  unfold cls at h3 ⊢
  simp at h2
  omega
 ·rw [if_neg ha]
  have h1 : yC (wJ d n) ⊆ [0, 1] := fun x hx => by
   obtain ⟨i, _, rfl⟩ := List.mem_map.1 (xX.1 hx)
   split <;> simp
  have h2 := (tO (wJ d n)).length_le_of_subset h1
  have hn1 : ∃ x ∈ wJ d n, x ≠ 0 := by
   apply Classical.byContradiction
   intro hno
   exact ha (List.all_eq_true.2 fun x hx => by
    have : x = 0 := Classical.byContradiction fun h => hno ⟨x, hx, h⟩
    simp [this])
  obtain ⟨x, hx, hx0⟩ := hn1
  have hx1 : x = 1 := by
   obtain ⟨i, _, rfl⟩ := List.mem_map.1 hx
   split at hx0
   ·omega
   ·rename_i h; rw [if_neg h]
  have h0m : 0 ∈ wJ d n := by
   rw [wJ, List.mem_map]
   exact ⟨0, List.mem_range.2 (by omega), if_pos rfl⟩
  have h3 : [0, 1] ⊆ yC (wJ d n) := fun y hy => by
   simp only [List.mem_cons, List.not_mem_nil, or_false] at hy
   rcases hy with rfl | rfl
   ·exact xX.2 h0m
   ·exact xX.2 (hx1 ▸ hx)
  have h4 := (show [0, 1].Nodup by decide).length_le_of_subset h3
  unfold cls
  simp at h2 h4
  omega
theorem clsIt_sig {d : DfaV} {n k : Nat} (hd : VD d n k) (m : Nat) : numb (sigL d k (yO d k m)) = yO d k (m + 1) := sig_refTo hd (by rw [yX, hd.hn]) (uC d k m)
theorem clsIt_stop {d : DfaV} {n k : Nat} (hd : VD d n k) {m : Nat} (hm : m ≤ n) (h : cls (yO d k (m + 1)) = cls (yO d k m)) : yO d k (m + 1) = yR d k := by
 have e : rA d (yO d k m) k = yO d k m := Classical.byContradiction fun hne => by
  have := oY hd (by rw [yX, hd.hn]) (uC d k m) hne
  rw [yO] at h
  omega
 rw [oR (by rw [hd.hn]; exact hm) e, yO, e]
theorem clsIt_more {d : DfaV} {n k : Nat} (hd : VD d n k) {m : Nat} (h : cls (yO d k (m + 1)) ≠ cls (yO d k m)) : cls (yO d k m) < cls (yO d k (m + 1)) := by
 have e : rA d (yO d k m) k ≠ yO d k m := fun e => h (by rw [yO, e])
 exact oY hd (by rw [yX, hd.hn]) (uC d k m) e
theorem cls_le_n {d : DfaV} {n k : Nat} (hd : VD d n k) (m : Nat) : cls (yO d k m) ≤ n := by
 have := cls_le (yO d k m)
 rwa [yX, hd.hn] at this
end Go.Proofs.Ytjfdomfendbhfaa
namespace Go.Proofs.Ytjfdomfendbhfaa
open Go.RowKit Go.Maps
structure KeyK {α : Type} (mt kt : TypeId) (V : α → Prop) (kv : α → Value) : Prop where
 key : Keyed Try.prog kt
 und : Try.prog.underlying mt = some (.map kt 3)
 of : ∀ a, V a → (keyOf Try.prog kt (kv a)).isSome = true
 inj : ∀ a b, V a → V b → kv a = kv b → a = b
section
variable {α : Type} {mt kt : TypeId} {V : α → Prop} {kv : α → Value}
def MapK (kt : TypeId) (V : α → Prop) (kv : α → Value) (w : World) (b n c : Nat) (f : α → Option Nat) : Prop :=
 ∃ D : DataW Unit, w.ownsMap Try.prog kt (plainElem Try.prog 3) b n D ∧ size D = c ∧
  ∀ a l, V a → keyOf Try.prog kt (kv a) = some l → has D l = (f a).isSome ∧ D.atKey l (.lit (.int .i64 0)) = .lit (.int .i64 (((f a).getD 0 : Nat) : Int))
theorem MapK.made (kt : TypeId) (V : α → Prop) (kv : α → Value) (w : World) : MapK kt V kv (w.alloc (.map #[] 0)) w.heap.size 0 0 (fun _ => none) := by
 refine ⟨.map [], World.ownsMap_made _ _ _ _, rfl, fun x _ _ _ => ⟨by simp [has_eq], ?_⟩⟩
 rw [WideAt.atKey_none _ (by simp)]
 simp
variable {w w' : World} {b n c : Nat} {f : α → Option Nat}
theorem MapK.kept {row : Option Nat} (h : MapK kt V kv w b n c f) (hg : w.grownBy w' row) (hne : row ≠ some b) : MapK kt V kv w' b n c f := by
 obtain ⟨D, h1, h2, h3⟩ := h
 exact ⟨D, h1.kept hg (fun e => hne e.symm), h2, h3⟩
theorem MapK.mono {n' : Nat} (h : MapK kt V kv w b n c f) (hn : n ≤ n') : MapK kt V kv w b n' c f := by
 obtain ⟨D, h1, h2, h3⟩ := h
 exact ⟨D, h1.mono hn, h2, h3⟩
theorem MapK.lt (h : MapK kt V kv w b n c f) : b < w.heap.size := by
 obtain ⟨D, h1, _⟩ := h
 exact h1.lt
theorem MapK.obj (h : MapK kt V kv w b n c f) : ∃ es clock, w.heap[b]? = some (.map es clock) := by
 obtain ⟨D, ⟨es, clock, hb, _⟩, _⟩ := h
 exact ⟨es, clock, hb⟩
theorem MapK.lookup (h : MapK kt V kv w b n c f) (K : KeyK mt kt V kv) {x : α} (hx : V x) : (Instr.lookup mt (.map (some b)) (kv x) true).run Try.prog w = .ok (.tuple #[.int .i64 (((f x).getD 0 : Nat) : Int), .bool (f x).isSome]) w := by
 obtain ⟨D, h1, h2, h3⟩ := h
 obtain ⟨kl, hkl⟩ := Option.isSome_iff_exists.1 (K.of x hx)
 obtain ⟨v, ps, hrun, hv⟩ := h1.look_ok K.key K.und (zero_int w) (plainElem_int tM (by decide)) hkl
 obtain ⟨c, rfl, hc, _⟩ := plainElem_int_inv tM hv
 obtain ⟨e1, e2⟩ := h3 x kl hx hkl
 have e3 := congrArg Prod.fst hc
 simp only [e2] at e3
 rw [hrun, e1]
 have e4 : (((f x).getD 0 : Nat) : Int) = c := by
  simp only [Lit.int.injEq, DataW.lit.injEq, true_and] at e3
  exact e3
 rw [e4]
theorem MapK.len (h : MapK kt V kv w b n c f) (K : KeyK mt kt V kv) : (Builtin.len_ #[mt] 3 #[.map (some b)]).run Try.prog w = .ok (.int .i64 (c : Nat)) w := by
 obtain ⟨D, h1, h2, h3⟩ := h
 have hrun := h1.len K.und 3
 rw [h2] at hrun
 exact hrun
theorem jA [DecidableEq α] {ops : Array Oper} {rest : List Oper} {o : Oper} {a : Act} {Q : Exit → Act → World → Prop} (K : KeyK mt kt V kv) (hg : o.guard = none) (m x v : Operand) (hop : o.op = Op.mapUpdate mt m x v)
  (b n c : Nat) (f : α → Option Nat) (z : α) (y : Nat) (hm : a.eval m = .map (some b)) (hx : a.eval x = kv z) (hv : a.eval v = .int .i64 (y : Int)) (h : MapK kt V kv w b n c f) (hn : n < maxLen) (hz : V z) (hy : y < 4611686018427387904)
  (hK : ∀ w', MapK kt V kv w' b (n + 1) (if (f z).isSome then c else c + 1) (fun q => if q = z then some y else f q) → w.grownBy w' (some b) → wpList Try.prog ops Q rest (a.put o.dst undef) w') :
  wpList Try.prog ops Q (o :: rest) a w := by
 obtain ⟨D, h1, h2, h3⟩ := h
 obtain ⟨kl, hkl⟩ := Option.isSome_iff_exists.1 (K.of z hz)
 obtain ⟨w', hrun, hown, hgr⟩ := h1.update K.key K.und hn hkl (plainElem_int tM (mid_wf (x := (y : Int)) ⟨by omega, by omega⟩))
 refine wpList_plain hg fun K' hK' => ?_
 unfold Oper.wp
 simp [execOp, hop, hm, hx, hv, hrun, Result.andThen]
 refine hK' _ _ (hK w' ⟨_, hown, ?_, fun q ql hq hql => ?_⟩ hgr)
 ·rw [size_put (h1.tidy K.key), (h3 z kl hz hkl).1, h2]
 ·by_cases e : q = z
  ·subst e
   rw [hkl] at hql
   cases hql
   refine ⟨by rw [has_put_same h1.isMap (K.key.key hkl)]; simp, ?_⟩
   simp only [if_pos]
   rw [atKey_put_same h1.isMap (K.key.key hkl)]; rfl
  ·have hne : ql ≠ kl := fun h => e (K.inj q z hq hz (K.key.inj (hql.trans (congrArg some h)) hkl))
   obtain ⟨e1, e2⟩ := h3 q ql hq hql
   simp only [if_neg e]
   exact ⟨by rw [has_put_other hne, e1], by rw [atKey_put_other hne, e2]⟩
end
end Go.Proofs.Ytjfdomfendbhfaa
