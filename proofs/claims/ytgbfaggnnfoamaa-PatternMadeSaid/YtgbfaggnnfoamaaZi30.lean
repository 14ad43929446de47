/- Part 30 of the proof: Minimal. -/
import Derived.Test.YtgbfaggnnfoamaaZi29
set_option linter.unusedVariables false
set_option linter.unusedSimpArgs false
namespace Go.Proofs.Ytgbfaggnnfoamaa
open Go.RowKit
def nM (d : DfaV) (p : List Nat) (i : Nat) : List Bool := (wX p i).map fun q => d.final.getD q false
def nL (d : DfaV) (p : List Nat) (i : Nat) : List (List Int) := (wX p i).map fun q => xY p (d.next.getD q [])
theorem minFs_new {d : DfaV} {p : List Nat} {i : Nat} (h : p.getD i 0 = cls (p.take i)) : nM d p (i + 1) = nM d p i ++ [d.final.getD i false] := by simp only [nM, wC h, List.map_append, List.map_cons, List.map_nil]
theorem minTs_new {d : DfaV} {p : List Nat} {i : Nat} (h : p.getD i 0 = cls (p.take i)) : nL d p (i + 1) = nL d p i ++ [xY p (d.next.getD i [])] := by simp only [nL, wC h, List.map_append, List.map_cons, List.map_nil]
theorem minFs_old {d : DfaV} {p : List Nat} {i : Nat} (h : p.getD i 0 ≠ cls (p.take i)) : nM d p (i + 1) = nM d p i := by simp only [nM, xZ h]
theorem minTs_old {d : DfaV} {p : List Nat} {i : Nat} (h : p.getD i 0 ≠ cls (p.take i)) : nL d p (i + 1) = nL d p i := by simp only [nL, xZ h]
theorem pU {d : DfaV} {n k : Nat} (hd : VD d n k) {p : List Nat} {q : Nat} (hq : q < n) : (xY p (d.next.getD q [])).length = k := by rw [xY, List.length_map, hd.row q hq]
theorem mapRow_at {d : DfaV} {n k : Nat} (hd : VD d n k) {p : List Nat} {q a : Nat} (hq : q < n) (ha : a < k) : (xY p (d.next.getD q [])).getD a 0 = ((p.getD (nx d q a) 0 : Nat) : Int) := by
 rw [oP (by rw [hd.row q hq]; exact ha)]
 rfl
def MinOk (w : World) (m : DfaV) (e : Ending) (w' : World) : Prop := ∃ v, e = .returned v ∧ uK w w' v m ∧ w.grownBy w' none
set_option maxRecDepth 100000 in
set_option maxHeartbeats 2000000 in
theorem minimal_any (B : Nat) (w : World) (v : Value) (d : DfaV) (n k : Nat) (hB : B ≤ w.heap.size) (h : vR B w v d) (hd : VD d n k) :
  Calls Try.prog 61 #[v] w (MinOk w (minD d k)) := by
 have hdok := h
 obtain ⟨fb, fo, fc, b, off, cap, RB, RO, RC, rfl, hat⟩ := h.at hd
 have hn := hd.hn
 have hn1 := hd.n1
 have hnbig := hd.nbig
 have hk6 := hd.k6
 have hk1 := hd.k1
 have hfc := hat.fcap.1
 have hfc2 := hat.fcap.2
 have hcp := hat.cap.1
 have hcp2 := hat.cap.2
 have hmx1 : fc ≤ 9223372036854775807 := by unfold maxLen at hfc2; omega
 have hmx2 : cap ≤ 9223372036854775807 := by unfold maxLen at hcp2; omega
 obtain ⟨S, hS⟩ : ∃ S, S = st0 d := ⟨_, rfl⟩
 have hSn : S < n := by rw [hS]; exact pI hd
 have HSE := Kh hS
 have hvd : dAgg k (st0 d) fb fo fc b off cap n = .agg #[.int .i64 (k : Int), .int .i64 (S : Int), .slice (some ⟨fb, fo, none⟩) n fc, .slice (some ⟨b, off, none⟩) n cap] := by rw [hS]; rfl
 rw [hvd] at hdok ⊢
 obtain ⟨hb1, hb2, hgA, hzA⟩ := uR w #[.int .i64 (k : Int), .int .i64 (S : Int), .slice (some ⟨fb, fo, none⟩) n fc, .slice (some ⟨b, off, none⟩) n cap] #[.int .i64 0, .int .i64 0, .slice none 0 0, .slice none 0 0] 49
 obtain ⟨wA, hWA⟩ : ∃ wA, wA = (w.alloc (.cells #[.int .i64 (k : Int), .int .i64 (S : Int), .slice (some ⟨fb, fo, none⟩) n fc, .slice (some ⟨b, off, none⟩) n cap] 49)).alloc (.cells #[.int .i64 0, .int .i64 0, .slice none 0 0, .slice none 0 0] 49) := ⟨_, rfl⟩
 rw [← hWA] at hb1 hb2 hgA hzA
 obtain ⟨c0, c1, c2, c3⟩ := zG hb1
 obtain ⟨P, hP⟩ : ∃ P, P = w.heap.size := ⟨_, rfl⟩
 have HPE := Kh hP
 rw [← hP] at hb1 hb2 c0 c1 c2 c3 hzA hB
 have HB1 := Kh hb1; have HB2 := Kh hb2; have HGA := Kh hgA; have HWA := Kh hWA; have HAT := Kh (hat.kept hgA (by simp)); have HN := Kh hn; have HD := Kh hd
 have HCL := Kh (classes_any B wA _ d n k (by omega) (hdok.kept hgA (by simp)) hd)
 clear hb1 hb2 hgA hWA hat hn hd h hdok hvd hfc2 hcp2 hS
 go_enter Try.func61, Try.ntmps61
 go_upto_region 1 with fail
 rw [← HWA.out, ← HPE.out]
 clear hP
 go_wp2_with fail
 refine HCL.out.mono ?_
 rintro e w1 ⟨G, rfl, hg1P, hra1, hg1⟩
 have hpl : (yK d k).length = n := by rw [xN, HN.out]
 have hpn := vQ d k
 obtain ⟨p, hp⟩ : ∃ p, p = yK d k := ⟨_, rfl⟩
 have HP := Kh hp
 rw [← hp] at hra1 hpl hpn ⊢
 rw [hpl]
 have hplt := rD hpn
 rw [hpl] at hplt
 have HRA := Kh hra1; have HG1 := Kh hg1; have HPN := Kh hpn; have HPL := Kh hpl; have HPLT := Kh hplt
 have hz1 := hg1.size
 have hgl := hra1.1
 obtain ⟨d0, d1, d2, d3⟩ := zG (zA HB1.out hg1 (by simp))
 have cp := hra1.nat S (by rw [hpl]; exact hSn)
 rw [Nat.zero_add] at cp
 obtain ⟨ps, hps⟩ : ∃ ps, ps = p.getD S 0 := ⟨_, rfl⟩
 have HPS := Kh hps
 rw [← hps] at cp
 have hSn' : (S : Int) < n := by omega
 have hn0 := World.new_ne w1 _ d0
 have hn1' := World.new_ne w1 _ d1
 have hn2 := World.new_ne w1 _ cp
 have hlP := World.block_lt_of_cell? w1 _ d0
 simp only at hn0 hn1' hn2 hlP
 have hPG : P < w1.heap.size := hlP
 clear hp hra1 hg1 hpl hpn hplt HCL c0 c1 c2 c3 d2 d3 hps
 go_upto_region 2 with fail
 go_region_held3 (fun w' => w'.cell? ⟨P, 0, none⟩ = some (.int .i64 (k : Int)) ∧ w'.cell? ⟨P, 1, none⟩ = some (.int .i64 (S : Int)) ∧ w'.cell? ⟨G, S, none⟩ = some (.int .i64 (ps : Int))) (first | go_keep | fail) (fail)
 obtain ⟨w4, rfl⟩ : ∃ w4 : World, w4 = w1 := ⟨_, rfl⟩
 obtain ⟨O, hO⟩ : ∃ O, O = w4.heap.size := ⟨_, rfl⟩
 obtain ⟨w6, hw6⟩ : ∃ w6, w6 = (w4.alloc (.cells #[.int .i64 (k : Int), .int .i64 (ps : Int), .slice none 0 0, .slice none 0 0] 49)).drew := ⟨_, rfl⟩
 rw [← hw6, ← hO]
 have hg46 : w4.grownBy w6 none := by rw [hw6]; exact zE (World.grownBy_alloc w4 _ none) (zX _ _)
 have hbO : w6.heap[O]? = some (.cells #[.int .i64 (k : Int), .int .i64 (ps : Int), .slice none 0 0, .slice none 0 0] 49 (0, 0)) := by rw [hw6, hO]; exact heap_alloc_new w4 _
 have hB6 : Built O w6 O k ps [] [] [] none 0 none 0 := ⟨hbO, World.ownsRow_nil _ _ _ _, World.ownsRow_nil _ _ _ _, uF.nil, rfl⟩
 have HB6 := Kh hB6; have HG46 := Kh hg46; have HOE := Kh hO
 have hGO : G < O := by omega
 have hPO : P + 1 < O := by omega
 have hz46 := hg46.size
 clear hbO hB6 hg46 hw6 hO hn0 hn1' hn2 hlP hPG d0 d1 cp
 go_wp2
 go_loopg [5, 6, 7, 23] n (fun gh v5 a6 a7 i wr => ∃ (i' : Nat) (hs : List Value) (sf : Option Addr) (cf : Nat) (sn : Option Addr) (cn : Nat), gh + i' = n ∧ i = .int .i64 i' ∧ v5 = .int .i64 (cls (p.take i') : Nat) ∧ Built O wr O k ps (nM d p i') (nL d p i') hs sf cf sn cn ∧ w4.grownBy wr (some O))
 case atStart => exact ⟨0, [], none, 0, none, 0, rfl, rfl, rfl, HB6.out, yY HG46.out⟩
 case round =>
  clear HB6 HG46
  obtain ⟨i, hs, sf, cf, sn, cn, hg, rfl, rfl, hbt, hgr⟩ := hrel
  have HGI := Kh hg
  have HBT0 := Kh hbt; have HGR := Kh hgr
  have hzr := hgr.size
  clear hg
  by_cases hi : i < n
  ·have hi' : (i : Int) < n := by omega
   have hP1 : O ≠ P := by omega
   have hG1 : O ≠ G := by omega
   have hci := (HRA.out.kept hgr (fun e => hG1 (Option.some.inj e))).nat i (by rw [HPL.out]; exact hi)
   rw [Nat.zero_add] at hci
   obtain ⟨hnw0, hnw1, hnw2⟩ := pS HPN.out (q := i) (by rw [HPL.out]; exact hi)
   have hcl := nI (p.take i)
   rw [List.length_take] at hcl
   obtain ⟨c, hc⟩ : ∃ c, c = cls (p.take i) := ⟨_, rfl⟩
   rw [← hc] at hnw0 hnw1 hnw2 hcl ⊢
   obtain ⟨x, hx⟩ : ∃ x, x = p.getD i 0 := ⟨_, rfl⟩
   rw [← hx] at hci hnw0 hnw1 hnw2
   by_cases hxc : x = c
   ·have HFS := Kh (minFs_new (d := d) (hx.symm.trans (hxc.trans hc))); have HTS := Kh (minTs_new (d := d) (hx.symm.trans (hxc.trans hc)))
    have HCN : Hid (cls (p.take (i + 1)) = c + 1) := Kh (hnw1 hxc)
    have e1 : ((x : Int) != (c : Int)) = false := by rw [hxc]; simp
    have hfl : (nM d p i).length = c := by simp only [nM, List.length_map]; rw [wF HPN.out i (by rw [HPL.out]; omega), hc]
    have htl : (nL d p i).length = c := by simp only [nL, List.length_map]; rw [wF HPN.out i (by rw [HPL.out]; omega), hc]
    have hA := (HAT.out.kept HG1.out (by simp)).kept hgr (fun k e => by have := Option.some.inj e; omega)
    have ch := hA.hd i hi
    obtain ⟨d0, d1, d2, d3⟩ := zG (zA (zA HB1.out HG1.out (by simp)) hgr (fun e => hP1 (Option.some.inj e)))
    obtain ⟨wo, rfl⟩ : ∃ wo : World, wo = wr := ⟨_, rfl⟩
    have HAO := Kh hA
    clear hA hbt hgr hnw0 hnw1 hnw2 hx hxc hc
    go_wp2
    go_loopg [8, 39] k (fun gh ov i' wr => ∃ (a : Nat) (sr : Option Addr) (cr : Nat), gh + a = k ∧ i' = .int .i64 a ∧ ov = .slice sr a cr ∧ wr.ownsRow wo.heap.size 3 1 (.slice sr a cr) a (ints ((xY p (d.next.getD i [])).take a)) ∧ wo.grownBy wr none)
    case atStart => exact ⟨0, none, 0, rfl, rfl, rfl, by simpa [ints] using World.ownsRow_nil _ _ _ _, zO _ _⟩
    case round =>
     obtain ⟨a, sr, cr, hg, rfl, rfl, hown, hgr⟩ := hrel
     have HGQ := Kh hg; have HOWN := Kh hown; have HGRQ := Kh hgr
     clear hg hown d0 d1 d2 d3
     by_cases ha : a < k
     ·have ha' : (a : Int) < k := by omega
      have hA := HAO.out.kept hgr (by simp)
      have ce := hA.el i a hi ha
      have hrc := (hA.rcap i hi).1
      have hnx := qI HD.out hi ha
      have cp := ((HRA.out.kept HGR.out (fun e => hG1 (Option.some.inj e))).kept hgr (by simp)).nat (nx d i a) (by rw [HPL.out]; exact hnx)
      rw [Nat.zero_add] at cp
      have HRT : Hid ((xY p (d.next.getD i [])).take (a + 1) = (xY p (d.next.getD i [])).take a ++ [((p.getD (nx d i a) 0 : Nat) : Int)]) := Kh (by
       rw [zY (d := 0) (by rw [pU HD.out hi]; exact ha), mapRow_at HD.out hi ha])
      obtain ⟨s, hs⟩ : ∃ s, s = nx d i a := ⟨_, rfl⟩
      rw [← hs] at ce hnx cp HRT
      obtain ⟨y, hy⟩ : ∃ y, y = p.getD s 0 := ⟨_, rfl⟩
      rw [← hy] at cp HRT
      have hgs := hgr.size
      have hnx' : (s : Int) < n := by omega
      clear hA hs hy hgr
      go_wp2_with (first | (at_builtin; refine app1 rfl _ _ _ rfl xI wo.heap.size _ a (ints ((xY p (d.next.getD i [])).take a)) rfl HOWN.out _ rfl rfl ?c1 ?c2 ?c3 ?_) | fail)
      case c1 => unfold maxLen; omega
      case c2 => omega
      case c3 => exact hgs
      intro sa' sc' w6 hown6 hg6 hlt6
      have HO6 := Kh hown6; have HG6 := Kh hg6
      clear hown6 hg6
      go_wp2
      go_roundg (k - (a + 1))
      case measure => have := HGQ.out; omega
      case rel =>
       refine ⟨a + 1, sa', sc', by omega, by go_num, rfl, ?_, zB HGRQ.out HG6.out (fun q e => (HOWN.out.lt q e).1)⟩
       rw [HRT.out, ints_snoc]
       exact HO6.out
     ·have hak : a = k := by have := HGQ.out; omega
      have hrk : (xY p (d.next.getD i [])).take a = xY p (d.next.getD i []) := by rw [hak, ← pU HD.out (p := p) hi]; exact List.take_length
      rw [hrk] at HOWN
      obtain ⟨w5, hw5⟩ : ∃ w5, w5 = wr.drew := ⟨_, rfl⟩
      have HW5 := Kh hw5
      have hg5 : wr.grownBy w5 none := by rw [hw5]; exact zX wr none
      have HBT := Kh ((HBT0.out.grow hgr).grow hg5)
      have HROW : Hid (RowT w5.heap.size 3 w5 (.slice sr a cr) (ints (xY p (d.next.getD i [])))) := Kh (RowT.of_owns (yQ HOWN.out hg5 (by simp)))
      have HG5 := Kh (zE HGR.out (yY (zE hgr hg5) (row := some O)))
      have hBX := HBT.out.box
      have HBX5 := Kh hBX; have HNB := Kh HBT.out.notbox
      have hz5 : O ≤ w5.heap.size := by have := hgr.size; have := hg5.size; have := HOE.out; omega
      have cq := (((HAO.out.kept hgr (by simp)).kept hg5 (by simp))).fin hi
      obtain ⟨_, _, d2, _⟩ := zG (zA (zA (zA (zA HB1.out HG1.out (by simp)) HGR.out (fun e => hP1 (Option.some.inj e))) hgr (by simp)) hg5 (by simp))
      have hfw := HAO.out.flt
      have hfO : O ≠ fb := by omega
      obtain ⟨bq, hbq⟩ : ∃ bq, bq = d.final.getD i false := ⟨_, rfl⟩
      rw [← hbq] at cq HFS
      obtain ⟨fsl, hfsl⟩ : ∃ x, x = nM d p i := ⟨_, rfl⟩
      obtain ⟨tsl, htsl⟩ : ∃ x, x = nL d p i := ⟨_, rfl⟩
      rw [← hfsl] at HBT HBX5 HFS hfl
      rw [← htsl] at HBT HBX5 HTS htl
      obtain ⟨m, hm⟩ : ∃ m, m = c := ⟨_, rfl⟩
      rw [← hm] at hfl htl
      have HTL2 := Kh htl
      have hM0 := HBT.out.many
      have hM : Many w5 (FB sf sn) w5 [⟨O, 30, .slice sn m cn, m, hs, 1⟩, ⟨O, 4, .slice sf m cf, m, bls fsl, 1⟩] [] [] := by
       have h1 := hM0
       simp only [rN, rF, hfl, htl] at h1
       exact h1
      have HAF : Hid (∀ W : World, (W.cell? ⟨P, 2, none⟩ = some (.slice (some ⟨fb, fo, none⟩) n fc) ∧ W.cell? ⟨fb, fo + i, none⟩ = some (.bool bq)) → ∀ (c : Nat) (X : Value), (W.setCell ⟨O, c, none⟩ X).cell? ⟨P, 2, none⟩ = some (.slice (some ⟨fb, fo, none⟩) n fc) ∧ (W.setCell ⟨O, c, none⟩ X).cell? ⟨fb, fo + i, none⟩ = some (.bool bq)) := Kh (fun W h c X =>
       ⟨by rw [World.cell?_setCell_far W ⟨O, c, none⟩ ⟨P, 2, none⟩ X hP1]; exact h.1, by rw [World.cell?_setCell_far W ⟨O, c, none⟩ ⟨fb, fo + i, none⟩ X hfO]; exact h.2⟩)
      have HAB : Hid (∀ W rs ls, Many w5 (FB sf sn) W rs ls [] → (W.cell? ⟨P, 2, none⟩ = some (.slice (some ⟨fb, fo, none⟩) n fc) ∧ W.cell? ⟨fb, fo + i, none⟩ = some (.bool bq)) ∧ (W.cell? ⟨O, 3, none⟩ = some (.slice sn m cn) ∧ W.cell? ⟨O, 2, none⟩ = some (.slice sf m cf))) := Kh (fun W rs ls h => by
       have hge := HBT.out.ge
       have hb := h.but.heap HBX5.out HNB.out
       rw [hfl, htl] at hb
       obtain ⟨_, _, e2, e3⟩ := zG hb
       exact ⟨⟨h.but.cell d2 (fun hf => by have := hge _ hf; simp only at this; omega), h.but.cell cq (fun hf => by have := hge _ hf; simp only at this; omega)⟩, e3, e2⟩)
      rw [hfl, htl] at HBX5
      have hmi : Hid (m = c) := Kh hm
      have hm9 : m ≤ 4194304 := by omega
      clear hM0 hBX hrk hak hw5 hg5 hgr hbq hfsl htsl hm hfl htl ch d2 cq
      go_upto_region 15 with fail
      refine wp_region_noPanic ?_
      refine oE (G := tY 15 (fun W => W.cell? ⟨P, 2, none⟩ = some (.slice (some ⟨fb, fo, none⟩) n fc) ∧ W.cell? ⟨fb, fo + i, none⟩ = some (.bool bq)) (fun W => W.cell? ⟨O, 3, none⟩ = some (.slice sn m cn) ∧ W.cell? ⟨O, 2, none⟩ = some (.slice sf m cf))) (by kernel_rfl) ?_
      rw [← HW5.out]
      refine takeC (i := 0) (v := ?_) rfl rfl (Or.inl ⟨by rfl, ?_⟩) ⟨(HAB.out _ _ _ hM).1, fun _ => (HAB.out _ _ _ hM).2⟩ ?_
      rotate_left
      ·(intro wz hz; (try dsimp only at hz); go_simp; (try with_reducible rfl))
      try simp only [Act.put, sPa, sPb, sPc]
      refine takeD (i := 1) (v := ?_) rfl rfl (Or.inl ⟨by rfl, ?_⟩) ⟨(HAB.out _ _ _ hM).1, fun _ => (HAB.out _ _ _ hM).2⟩ ?_
      rotate_left
      ·(intro wz hz; (try dsimp only at hz); go_simp; (try with_reducible rfl))
      try simp only [Act.put, sPa, sPb, sPc]
      refine takeC (i := 2) (v := ?_) rfl rfl (Or.inl ⟨by rfl, ?_⟩) ⟨(HAB.out _ _ _ hM).1, fun _ => (HAB.out _ _ _ hM).2⟩ ?_
      rotate_left
      ·(intro wz hz; (try dsimp only at hz); go_simp; (try with_reducible rfl))
      try simp only [Act.put, sPa, sPb, sPc]
      refine takeC (i := 5) (v := ?_) rfl rfl (Or.inl ⟨by rfl, ?_⟩) ⟨(HAB.out _ _ _ hM).1, fun _ => (HAB.out _ _ _ hM).2⟩ ?_
      rotate_left
      ·(intro wz hz; (try dsimp only at hz); go_simp; (try with_reducible rfl))
      try simp only [Act.put, sPa, sPb, sPc]
      refine takeD (i := 6) (v := ?_) rfl rfl (Or.inl ⟨by rfl, ?_⟩) ⟨(HAB.out _ _ _ hM).1, fun _ => (HAB.out _ _ _ hM).2⟩ ?_
      rotate_left
      ·(intro wz hz; (try dsimp only at hz); go_simp; (try with_reducible rfl))
      try simp only [Act.put, sPa, sPb, sPc]
      refine takeC (i := 7) (v := ?_) rfl rfl (Or.inl ⟨by rfl, ?_⟩) ⟨(HAB.out _ _ _ hM).1, fun _ => (HAB.out _ _ _ hM).2⟩ ?_
      rotate_left
      ·(intro wz hz; (try dsimp only at hz); go_simp; (try with_reducible rfl))
      try simp only [Act.put, sPa, sPb, sPc]
      refine takeC (i := 8) (v := ?_) rfl rfl (Or.inl ⟨by rfl, ?_⟩) ⟨(HAB.out _ _ _ hM).1, fun _ => (HAB.out _ _ _ hM).2⟩ ?_
      rotate_left
      ·(intro wz hz; (try dsimp only at hz); go_simp; (try with_reducible rfl))
      try simp only [Act.put, sPa, sPb, sPc]
      refine takeC (i := 9) (v := ?_) rfl rfl (Or.inl ⟨by rfl, ?_⟩) ⟨(HAB.out _ _ _ hM).1, fun _ => (HAB.out _ _ _ hM).2⟩ ?_
      rotate_left
      ·(intro wz hz; (try dsimp only at hz); go_simp; (try with_reducible rfl))
      try simp only [Act.put, sPa, sPb, sPc]
      refine takeC (i := 10) (v := ?_) rfl rfl (Or.inl ⟨by rfl, ?_⟩) ⟨(HAB.out _ _ _ hM).1, fun _ => (HAB.out _ _ _ hM).2⟩ ?_
      rotate_left
      ·(intro wz hz; (try dsimp only at hz); go_simp; (try with_reducible rfl))
      try simp only [Act.put, sPa, sPb, sPc]
      refine takeC (i := 11) (v := ?_) rfl rfl (Or.inl ⟨by rfl, ?_⟩) ⟨(HAB.out _ _ _ hM).1, fun _ => (HAB.out _ _ _ hM).2⟩ ?_
      rotate_left
      ·(intro wz hz; (try dsimp only at hz); go_simp; (try with_reducible rfl))
      try simp only [Act.put, sPa, sPb, sPc]
      refine twoG (i := 3) (j := 12) (by kernel_rfl) rfl rfl (fun K hK => ?_) (fun K hK => ?_)
      ·skip
       go_simp
       refine hK.out _ _ ⟨(HAB.out _ _ _ (hM.alloc _)).1, fun _ => (HAB.out _ _ _ (hM.alloc _)).2⟩ ?_
       clear hK K
       try simp only [Act.put, sPa, sPb, sPc]
       refine twoG (i := 4) (j := 12) (by kernel_rfl) rfl rfl (fun K hK => ?_) (fun K hK => ?_)
       ·skip
        refine wI rfl (.tmp 52) (.tmp 54) 47 rfl vX 0 _ _ rfl ⟨_, _, _, _, _, (hM.alloc _), _, rfl, rfl, rfl, rfl, ?g3, ?g4, hz5, _, _, _, List.Mem.head _, (by first | rfl | simp), rfl, ?_⟩
        case g3 => (simp only []; unfold maxLen; omega)
        case g4 => (simp only []; omega)
        intro sa1 sc1 w1x hM1
        have hl0 := hM1.litcell (List.Mem.head _)
        try simp only [zL] at hl0
        refine hK.out _ _ ⟨(HAB.out _ _ _ hM1).1, fun _ => (HAB.out _ _ _ hM1).2⟩ ?_
        clear hK K
        try simp only [Act.put, sPa, sPb, sPc]
        refine takeC (i := 14) (v := ?_) rfl rfl (Or.inl ⟨by rfl, ?_⟩) ⟨(HAB.out _ _ _ hM1).1, fun _ => (HAB.out _ _ _ hM1).2⟩ ?_
        rotate_left
        ·(intro wz hz; (try dsimp only at hz); go_simp; (try with_reducible rfl))
        try simp only [Act.put, sPa, sPb, sPc]
        refine oneG (i := 12) (by kernel_rfl) rfl (fun K hK => ?_)
        go_simp
        refine hK.out _ _ ⟨(HAB.out _ _ _ (hM1.alloc _)).1, fun _ => (HAB.out _ _ _ (hM1.alloc _)).2⟩ ?_
        clear hK K
        try simp only [Act.put, sPa, sPb, sPc]
        refine oneG (i := 13) (by kernel_rfl) rfl (fun K hK => ?_)
        refine wI rfl (.tmp 57) (.tmp 63) 46 rfl wL 1 _ _ rfl ⟨_, _, _, _, _, (hM1.alloc _), _, rfl, rfl, rfl, rfl, ?g3, ?g4, hz5, _, _, _, List.Mem.head _, (by first | rfl | simp), rfl, ?_⟩
        case g3 => (simp only []; unfold maxLen; omega)
        case g4 => (simp only []; omega)
        intro sa2 sc2 w2x hM2
        have hl0 := hM2.litcell (List.Mem.head _)
        try simp only [zL] at hl0
        have hl1 := hM2.litcell (List.Mem.tail _ (List.Mem.head _))
        try simp only [zL] at hl1
        refine hK.out _ _ ⟨(HAB.out _ _ _ hM2).1, fun _ => (HAB.out _ _ _ hM2).2⟩ ?_
        clear hK K
        try simp only [Act.put, sPa, sPb, sPc]
        refine oneG (i := 15) (by kernel_rfl) rfl (fun K hK => ?_)
        have hbx := hM2.but.heap HBX5.out HNB.out
        have cb3 := zK hbx 3 (by simp)
        have cb2 := zK hbx 2 (by simp)
        have fb3 := zD hbx 3
        have fb2 := zD hbx 2
        simp only [List.getElem_toArray, List.getElem_cons_zero, List.getElem_cons_succ] at cb3 cb2
        go_simp
        have hbx2 := heap_setCell_same _ O 3 _ _ (.slice sa1 (m + 1) sc1) hbx
        have cb22 := zK hbx2 2 (by simp)
        have fb22 := zD hbx2 2
        simp at cb22
        have hAS := HAF.out _ (HAB.out _ _ _ hM2).1 3 (.slice sa1 (m + 1) sc1)
        refine hK.out _ _ ⟨hAS, fun h => by simp at h⟩ ?_
        clear hK K
        try simp only [Act.put, sPa, sPb, sPc]
        refine takeC (i := 16) (v := ?_) rfl rfl (Or.inl ⟨by rfl, ?_⟩) ⟨hAS, fun h => by simp at h⟩ ?_
        rotate_left
        ·(intro wz hz; (try dsimp only at hz); go_simp; (try with_reducible rfl))
        try simp only [Act.put, sPa, sPb, sPc]
        refine oneG (i := 17) (by kernel_rfl) rfl (fun K hK => ?_)
        go_simp
        have hAS2 := HAF.out _ hAS 2 (.slice sa2 (m + 1) sc2)
        refine hK.out _ _ ⟨hAS2, fun h => by simp at h⟩ ?_
        clear hK K
        try simp only [Act.put, sPa, sPb, sPc]
        refine doneG (by kernel_rfl) ?_ _
        refine NoPanic.normal ?_
        obtain ⟨hbt, hgw⟩ := HBT.out.push (b := bq) (row := xY p (d.next.getD i [])) HTL2.out hM2 HROW.out rfl
        have HBT7 := Kh hbt
        have HG7 := Kh (hgw w4 HG5.out (by have := HOE.out; omega))
        clear hbt hgw cb3 cb2 fb3 fb2 hbx hbx2 cb22 fb22 hAS hAS2 hM2
        (try clear hM1)
        go_wp2
        go_roundg (n - (i + 1))
        case measure => have := HGI.out; omega
        case rel => exact ⟨i + 1, _, _, _, _, _, by omega, by go_num, by rw [HCN.out]; rfl, HBT7.out.congr HFS.out HTS.out, HG7.out⟩
       ·skip
        go_simp
        refine hK.out _ _ ⟨(HAB.out _ _ _ ((hM.alloc _).alloc _)).1, fun _ => (HAB.out _ _ _ ((hM.alloc _).alloc _)).2⟩ ?_
        clear hK K
        try simp only [Act.put, sPa, sPb, sPc]
        refine oneG (i := 4) (by kernel_rfl) rfl (fun K hK => ?_)
        refine wI rfl (.tmp 52) (.tmp 54) 47 rfl vX 0 _ _ rfl ⟨_, _, _, _, _, ((hM.alloc _).alloc _), _, rfl, rfl, rfl, rfl, ?g3, ?g4, hz5, _, _, _, List.Mem.tail _ (List.Mem.head _), (by first | rfl | simp), rfl, ?_⟩
        case g3 => (simp only []; unfold maxLen; omega)
        case g4 => (simp only []; omega)
        intro sa3 sc3 w3x hM3
        have hl0 := hM3.litcell (List.Mem.head _)
        try simp only [zL] at hl0
        have hl1 := hM3.litcell (List.Mem.tail _ (List.Mem.head _))
        try simp only [zL] at hl1
        refine hK.out _ _ ⟨(HAB.out _ _ _ hM3).1, fun _ => (HAB.out _ _ _ hM3).2⟩ ?_
        clear hK K
        try simp only [Act.put, sPa, sPb, sPc]
        refine takeC (i := 14) (v := ?_) rfl rfl (Or.inl ⟨by rfl, ?_⟩) ⟨(HAB.out _ _ _ hM3).1, fun _ => (HAB.out _ _ _ hM3).2⟩ ?_
        rotate_left
        ·(intro wz hz; (try dsimp only at hz); go_simp; (try with_reducible rfl))
        try simp only [Act.put, sPa, sPb, sPc]
        refine oneG (i := 13) (by kernel_rfl) rfl (fun K hK => ?_)
        refine wI rfl (.tmp 57) (.tmp 63) 46 rfl wL 1 _ _ rfl ⟨_, _, _, _, _, hM3, _, rfl, rfl, rfl, rfl, ?g3, ?g4, hz5, _, _, _, List.Mem.head _, (by first | rfl | simp), rfl, ?_⟩
        case g3 => (simp only []; unfold maxLen; omega)
        case g4 => (simp only []; omega)
        intro sa4 sc4 w4x hM4
        have hl0 := hM4.litcell (List.Mem.head _)
        try simp only [zL] at hl0
        have hl1 := hM4.litcell (List.Mem.tail _ (List.Mem.head _))
        try simp only [zL] at hl1
        refine hK.out _ _ ⟨(HAB.out _ _ _ hM4).1, fun _ => (HAB.out _ _ _ hM4).2⟩ ?_
        clear hK K
        try simp only [Act.put, sPa, sPb, sPc]
        refine oneG (i := 15) (by kernel_rfl) rfl (fun K hK => ?_)
        have hbx := hM4.but.heap HBX5.out HNB.out
        have cb3 := zK hbx 3 (by simp)
        have cb2 := zK hbx 2 (by simp)
        have fb3 := zD hbx 3
        have fb2 := zD hbx 2
        simp only [List.getElem_toArray, List.getElem_cons_zero, List.getElem_cons_succ] at cb3 cb2
        go_simp
        have hbx2 := heap_setCell_same _ O 3 _ _ (.slice sa3 (m + 1) sc3) hbx
        have cb22 := zK hbx2 2 (by simp)
        have fb22 := zD hbx2 2
        simp at cb22
        have hAS := HAF.out _ (HAB.out _ _ _ hM4).1 3 (.slice sa3 (m + 1) sc3)
        refine hK.out _ _ ⟨hAS, fun h => by simp at h⟩ ?_
        clear hK K
        try simp only [Act.put, sPa, sPb, sPc]
        refine takeC (i := 16) (v := ?_) rfl rfl (Or.inl ⟨by rfl, ?_⟩) ⟨hAS, fun h => by simp at h⟩ ?_
        rotate_left
        ·(intro wz hz; (try dsimp only at hz); go_simp; (try with_reducible rfl))
        try simp only [Act.put, sPa, sPb, sPc]
        refine oneG (i := 17) (by kernel_rfl) rfl (fun K hK => ?_)
        go_simp
        have hAS2 := HAF.out _ hAS 2 (.slice sa4 (m + 1) sc4)
        refine hK.out _ _ ⟨hAS2, fun h => by simp at h⟩ ?_
        clear hK K
        try simp only [Act.put, sPa, sPb, sPc]
        refine doneG (by kernel_rfl) ?_ _
        refine NoPanic.normal ?_
        obtain ⟨hbt, hgw⟩ := HBT.out.push (b := bq) (row := xY p (d.next.getD i [])) HTL2.out hM4 HROW.out rfl
        have HBT7 := Kh hbt
        have HG7 := Kh (hgw w4 HG5.out (by have := HOE.out; omega))
        clear hbt hgw cb3 cb2 fb3 fb2 hbx hbx2 cb22 fb22 hAS hAS2 hM4
        (try clear hM3)
        go_wp2
        go_roundg (n - (i + 1))
        case measure => have := HGI.out; omega
        case rel => exact ⟨i + 1, _, _, _, _, _, by omega, by go_num, by rw [HCN.out]; rfl, HBT7.out.congr HFS.out HTS.out, HG7.out⟩
      ·skip
       go_simp
       refine hK.out _ _ ⟨(HAB.out _ _ _ (hM.alloc _)).1, fun _ => (HAB.out _ _ _ (hM.alloc _)).2⟩ ?_
       clear hK K
       try simp only [Act.put, sPa, sPb, sPc]
       refine oneG (i := 3) (by kernel_rfl) rfl (fun K hK => ?_)
       go_simp
       refine hK.out _ _ ⟨(HAB.out _ _ _ ((hM.alloc _).alloc _)).1, fun _ => (HAB.out _ _ _ ((hM.alloc _).alloc _)).2⟩ ?_
       clear hK K
       try simp only [Act.put, sPa, sPb, sPc]
       refine oneG (i := 4) (by kernel_rfl) rfl (fun K hK => ?_)
       refine wI rfl (.tmp 52) (.tmp 54) 47 rfl vX 0 _ _ rfl ⟨_, _, _, _, _, ((hM.alloc _).alloc _), _, rfl, rfl, rfl, rfl, ?g3, ?g4, hz5, _, _, _, List.Mem.head _, (by first | rfl | simp), rfl, ?_⟩
       case g3 => (simp only []; unfold maxLen; omega)
       case g4 => (simp only []; omega)
       intro sa5 sc5 w5x hM5
       have hl0 := hM5.litcell (List.Mem.head _)
       try simp only [zL] at hl0
       have hl1 := hM5.litcell (List.Mem.tail _ (List.Mem.head _))
       try simp only [zL] at hl1
       refine hK.out _ _ ⟨(HAB.out _ _ _ hM5).1, fun _ => (HAB.out _ _ _ hM5).2⟩ ?_
       clear hK K
       try simp only [Act.put, sPa, sPb, sPc]
       refine takeC (i := 14) (v := ?_) rfl rfl (Or.inl ⟨by rfl, ?_⟩) ⟨(HAB.out _ _ _ hM5).1, fun _ => (HAB.out _ _ _ hM5).2⟩ ?_
       rotate_left
       ·(intro wz hz; (try dsimp only at hz); go_simp; (try with_reducible rfl))
       try simp only [Act.put, sPa, sPb, sPc]
       refine oneG (i := 13) (by kernel_rfl) rfl (fun K hK => ?_)
       refine wI rfl (.tmp 57) (.tmp 63) 46 rfl wL 1 _ _ rfl ⟨_, _, _, _, _, hM5, _, rfl, rfl, rfl, rfl, ?g3, ?g4, hz5, _, _, _, List.Mem.tail _ (List.Mem.head _), (by first | rfl | simp), rfl, ?_⟩
       case g3 => (simp only []; unfold maxLen; omega)
       case g4 => (simp only []; omega)
       intro sa6 sc6 w6x hM6
       have hl0 := hM6.litcell (List.Mem.head _)
       try simp only [zL] at hl0
       have hl1 := hM6.litcell (List.Mem.tail _ (List.Mem.head _))
       try simp only [zL] at hl1
       refine hK.out _ _ ⟨(HAB.out _ _ _ hM6).1, fun _ => (HAB.out _ _ _ hM6).2⟩ ?_
       clear hK K
       try simp only [Act.put, sPa, sPb, sPc]
       refine oneG (i := 15) (by kernel_rfl) rfl (fun K hK => ?_)
       have hbx := hM6.but.heap HBX5.out HNB.out
       have cb3 := zK hbx 3 (by simp)
       have cb2 := zK hbx 2 (by simp)
       have fb3 := zD hbx 3
       have fb2 := zD hbx 2
       simp only [List.getElem_toArray, List.getElem_cons_zero, List.getElem_cons_succ] at cb3 cb2
       go_simp
       have hbx2 := heap_setCell_same _ O 3 _ _ (.slice sa5 (m + 1) sc5) hbx
       have cb22 := zK hbx2 2 (by simp)
       have fb22 := zD hbx2 2
       simp at cb22
       have hAS := HAF.out _ (HAB.out _ _ _ hM6).1 3 (.slice sa5 (m + 1) sc5)
       refine hK.out _ _ ⟨hAS, fun h => by simp at h⟩ ?_
       clear hK K
       try simp only [Act.put, sPa, sPb, sPc]
       refine takeC (i := 16) (v := ?_) rfl rfl (Or.inl ⟨by rfl, ?_⟩) ⟨hAS, fun h => by simp at h⟩ ?_
       rotate_left
       ·(intro wz hz; (try dsimp only at hz); go_simp; (try with_reducible rfl))
       try simp only [Act.put, sPa, sPb, sPc]
       refine oneG (i := 17) (by kernel_rfl) rfl (fun K hK => ?_)
       go_simp
       have hAS2 := HAF.out _ hAS 2 (.slice sa6 (m + 1) sc6)
       refine hK.out _ _ ⟨hAS2, fun h => by simp at h⟩ ?_
       clear hK K
       try simp only [Act.put, sPa, sPb, sPc]
       refine doneG (by kernel_rfl) ?_ _
       refine NoPanic.normal ?_
       obtain ⟨hbt, hgw⟩ := HBT.out.push (b := bq) (row := xY p (d.next.getD i [])) HTL2.out hM6 HROW.out rfl
       have HBT7 := Kh hbt
       have HG7 := Kh (hgw w4 HG5.out (by have := HOE.out; omega))
       clear hbt hgw cb3 cb2 fb3 fb2 hbx hbx2 cb22 fb22 hAS hAS2 hM6
       (try clear hM5)
       go_wp2
       go_roundg (n - (i + 1))
       case measure => have := HGI.out; omega
       case rel => exact ⟨i + 1, _, _, _, _, _, by omega, by go_num, by rw [HCN.out]; rfl, HBT7.out.congr HFS.out HTS.out, HG7.out⟩
   ·have HFS := Kh (minFs_old (d := d) (fun e => hxc (hx.trans (e.trans hc.symm)))); have HTS := Kh (minTs_old (d := d) (fun e => hxc (hx.trans (e.trans hc.symm))))
    have HCN : Hid (cls (p.take (i + 1)) = c) := Kh (hnw2 hxc)
    have e1 : ((x : Int) != (c : Int)) = true := by rw [bne_iff_ne]; omega
    clear hbt hgr hnw0 hnw1 hnw2 hx hc hxc
    go_wp2
    go_roundg (n - (i + 1))
    case measure => have := HGI.out; omega
    case rel => exact ⟨i + 1, hs, sf, cf, sn, cn, by omega, by go_num, by rw [HCN.out], HBT0.out.congr HFS.out HTS.out, HGR.out⟩
  ·have hin : i = n := by have := HGI.out; omega
   have hE : (⟨(k : Int), (ps : Int), nM d p i, nL d p i⟩ : DfaV) = vG d p := by
    have h1 := HD.out.hk
    have h2 : reps p = wX p i := by rw [reps, HPL.out, hin]
    simp only [vG, nM, nL, h1, h2, HPS.out, HSE.out]
   have HQV := Kh (quot_vd HD.out HPL.out HPN.out)
   have hdf := hbt.dfa
   rw [hE] at hdf
   have HTR := Kh (trim_any wr.heap.size wr _ (vG d p) (cls p) k (Nat.le_refl _) hdf HQV.out)
   obtain ⟨d0, d1, d2, d3⟩ := zG hbt.box
   have hP1 : O ≠ P + 1 := by omega
   have hP2 : P + 1 ≠ O := by omega
   clear hE hdf hbt hin
   go_wp2_with fail
   refine HTR.out.mono ?_
   rintro e w7 ⟨v7, pv7, rfl, hnew7, hg7⟩
   have hme : yW (vG d p) k = minD d k := by rw [HP.out]; rfl
   rw [hme] at hnew7
   obtain ⟨o7, hs7, sf7, cf7, sn7, cn7, rfl, ho7, hb7⟩ := hnew7
   have hbO7 := zA HBT0.out.box hg7 (by simp)
   have hbR7 := zA (zA (zA HB2.out HG1.out (by simp)) hgr (fun e => hP1 (Option.some.inj e))) hg7 (by simp)
   have HBO7 := Kh hbO7; have HBR7 := Kh hbR7; have HB7 := Kh hb7; have HG7 := Kh hg7
   obtain ⟨x0, x1, x2, x3⟩ := zG hbO7
   obtain ⟨y0, y1, y2, y3⟩ := zG hbR7
   have fx0 := zD hbO7 0; have fx1 := zD hbO7 1; have fx2 := zD hbO7 2; have fx3 := zD hbO7 3
   have fy0 := zD hbR7 0; have fy1 := zD hbR7 1; have fy2 := zD hbR7 2; have fy3 := zD hbR7 3
   clear hbO7 hbR7 hb7 hg7 hgr d0 d1 d2 d3
   go_wp2
   refine bodyPost_ret (v := .agg #[.int .i64 (minD d k).letters, .int .i64 (minD d k).start, .slice sf7 (minD d k).final.length cf7, .slice sn7 (minD d k).next.length cn7]) (by simp [results, Try.results61, go_sem, y0, y1, y2, y3, hP1, hP2]) rfl ?_
   obtain ⟨hsO, hgO⟩ := wM HBO7.out (.int .i64 (minD d k).letters) (.int .i64 (minD d k).start) (.slice sf7 (minD d k).final.length cf7) (.slice sn7 (minD d k).next.length cn7)
   have hbR8 := zA HBR7.out hgO (fun e => hP1 (Option.some.inj e))
   obtain ⟨hsR, hgR⟩ := wM hbR8 (.int .i64 (minD d k).letters) (.int .i64 (minD d k).start) (.slice sf7 (minD d k).final.length cf7) (.slice sn7 (minD d k).next.length cn7)
   have hO2 : O < wr.heap.size := zQ HBT0.out.box
   refine ⟨_, rfl, ⟨o7, hs7, sf7, cf7, sn7, cn7, rfl, by have := HPE.out; omega, (HB7.out.far hgO HBO7.out (by omega)).far hgR hbR8 (by omega)⟩, ?_⟩
   have g1 : w.grownBy wr none := zE HGA.out (zE HG1.out (zB (zO _ _) HGR.out (fun x e => by have := Option.some.inj e; have := HOE.out; omega)))
   refine zB (zB (zE g1 HG7.out) hgO (fun x e => by have := Option.some.inj e; have := HPE.out; omega)) hgR (fun x e => by have := Option.some.inj e; have := HPE.out; omega)
end Go.Proofs.Ytgbfaggnnfoamaa
