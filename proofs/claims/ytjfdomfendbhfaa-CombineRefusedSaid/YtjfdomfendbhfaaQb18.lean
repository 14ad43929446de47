/- Part 18 of the proof: PMin. -/
import Derived.Test.YtjfdomfendbhfaaQb17
set_option linter.unusedVariables false
set_option linter.unusedSimpArgs false
namespace Go.Proofs.Ytjfdomfendbhfaa
open Go.RowKit Go.Maps
def PMinOk (w : World) (m : DfaV) (e : Ending) (w' : World) : Prop := ∃ v sv, e = .returned (.tuple #[v, sv]) ∧ tQ w w' v m ∧ w.grownBy w' none
def kG (d : DfaV) (p : List Nat) (k q x : Nat) : List Nat := (List.range x).map (fun a => p.getD (nx d q a) 0) ++ List.replicate (k - x) 0
theorem pM {d : DfaV} {p : List Nat} {k q x : Nat} (h : x ≤ k) : (kG d p k q x).length = k := by simp [kG]; omega
theorem mapTo_set {d : DfaV} {p : List Nat} {k q x : Nat} (h : x < k) : (kG d p k q x).set x (p.getD (nx d q x) 0) = kG d p k q (x + 1) := by
 unfold kG
 rw [List.set_append_right _ _ (by simp), List.range_succ, List.map_append, show k - x = (k - (x + 1)) + 1 by omega, List.replicate_succ]
 simp
theorem mapTo_full {d : DfaV} {n k q : Nat} {p : List Nat} (hd : VD d n k) (hq : q < n) : nats (kG d p k q k) = ints (rZ p (d.next.getD q [])) := by
 have e : (kG d p k q k).map (fun (x : Nat) => (x : Int)) = rZ p (d.next.getD q []) := by
  refine List.ext_getElem (by rw [List.length_map, pM (Nat.le_refl k), rZ, List.length_map, hd.row q hq]) fun i h1 h2 => ?_
  have hi : i < k := by rw [List.length_map, pM (Nat.le_refl k)] at h1; exact h1
  rw [← zI (d := 0) h2, mapRow_get (by rw [hd.row q hq]; exact hi)]
  simp [kG, hi, nx, entN, ent]
 rw [← e]; simp [nats, ints]
set_option maxRecDepth 100000 in
set_option maxHeartbeats 4000000 in
theorem pminimal_any (B : Nat) (w : World) (v : Value) (d : DfaV) (n k : Nat) (hB : B ≤ w.heap.size) (h : sC B w v d) (hd : VD d n k) (h5 : n ≤ 512) :
  Calls Try.prog 85 #[v] w (PMinOk w (minD (xV d k) k)) := by
 have hdok := h
 obtain ⟨fb, fo, fc, b, off, cap, RB, RO, RC, rfl, hat⟩ := h.at hd
 have hn1 := hd.n1
 have hk6 := hd.k6
 have hk1 := hd.k1
 have hTV := oV hd
 have hNn := (xL hd).2
 obtain ⟨T, hT⟩ : ∃ T, T = xV d k := ⟨_, rfl⟩
 obtain ⟨N, hN⟩ : ∃ N, N = (zX d k).length := ⟨_, rfl⟩
 rw [← hT, ← hN] at hTV
 rw [← hN] at hNn
 rw [← hT]
 have hN1 := hTV.n1
 have HTV := Kh hTV; have HTE := Kh hT; have HNE := Kh hN
 obtain ⟨p, hp⟩ : ∃ p, p = yR T k := ⟨_, rfl⟩
 have hpl : p.length = N := by rw [hp, wP, hTV.hn]
 have hpn : Norm p := by rw [hp]; exact sA T k
 have hmin : minD T k = xV (uM T p) k := by rw [hp]; rfl
 have HP := Kh hp; have HPN := Kh hpn; have HMIN := Kh hmin
 obtain ⟨S, hS⟩ : ∃ S, S = st0 d := ⟨_, rfl⟩
 have hvd : dAgg k (st0 d) fb fo fc b off cap n = .agg #[.int .i64 (k : Int), .int .i64 (S : Int), .slice (some ⟨fb, fo, none⟩) n fc, .slice (some ⟨b, off, none⟩) n cap] := by rw [hS]; rfl
 rw [hvd] at hdok ⊢
 obtain ⟨hb1, hb2, hgA, hzA⟩ := rY w #[.int .i64 (k : Int), .int .i64 (S : Int), .slice (some ⟨fb, fo, none⟩) n fc, .slice (some ⟨b, off, none⟩) n cap] #[.int .i64 0, .int .i64 0, .slice none 0 0, .slice none 0 0] 42
 obtain ⟨wA, hWA⟩ : ∃ wA, wA = (w.alloc (.cells #[.int .i64 (k : Int), .int .i64 (S : Int), .slice (some ⟨fb, fo, none⟩) n fc, .slice (some ⟨b, off, none⟩) n cap] 42)).alloc (.cells #[.int .i64 0, .int .i64 0, .slice none 0 0, .slice none 0 0] 42) := ⟨_, rfl⟩
 rw [← hWA] at hb1 hb2 hgA hzA
 obtain ⟨c0, c1, c2, c3⟩ := zG hb1
 obtain ⟨P, hP⟩ : ∃ P, P = w.heap.size := ⟨_, rfl⟩
 obtain ⟨Q, hQ⟩ : ∃ Q, Q = w.heap.size + 1 := ⟨_, rfl⟩
 have HPE := Kh hP; have HQE : Hid (Q = P + 1) := Kh (by omega)
 have hPQ : P < Q := by omega
 have hQw : Q < wA.heap.size := by omega
 have hPw : w.heap.size ≤ P := by omega
 have hBA : B ≤ wA.heap.size := by omega
 rw [← hQ] at hb2
 rw [← hP] at hb1 c0 c1 c2 c3 hB
 have HB1 := Kh hb1; have HB2 := Kh hb2; have HGA := Kh hgA; have HWA := Kh hWA
 have HTR := Kh (ptrim_any B wA _ d n k hBA (hdok.kept hgA (by simp)) hd h5)
 clear hb1 hb2 hgA hWA hat hd h hdok hvd hS hzA hP hQ hT hN hp hpn hmin hTV
 go_enter Try.func85, Try.ntmps85
 go_upto_region 1 with fail
 rw [← HWA.out, ← HPE.out, ← HQE.out]
 go_wp2_with fail
 refine HTR.out.mono ?_
 rintro e w1 ⟨v1, G, rfl, ⟨o, hs, sf, cf, sn, cn, rfl, ho, hblt⟩, hGw, hGa, hg1⟩
 rw [← HTE.out] at hblt ⊢
 have hTl : T.letters = k := HTV.out.hk
 have hTs : T.start = 0 := by rw [HTE.out]; rfl
 have hTf : T.final.length = N := HTV.out.hn
 have hTn : T.next.length = N := HTV.out.nl
 have hdT : sC w1.heap.size w1 (.agg #[.int .i64 (k : Int), .int .i64 0, .slice sf N cf, .slice sn N cn]) T := by
  have := hblt.dfa
  rw [hTl, hTs, hTf, hTn] at this
  have e : (⟨(k : Int), 0, T.final, T.next⟩ : DfaV) = T := by rw [← hTl, ← hTs]
  rwa [e] at this
 rw [hTl, hTs, hTf, hTn]
 obtain ⟨tfb, tfo, tfc, tb, toff, tcap, TRB, TRO, TRC, ev, hatT⟩ := hdT.at HTV.out
 have hst0 : (st0 T : Int) = 0 := by rw [st0_cast HTV.out]; exact hTs
 rw [dAgg, hst0, Value.agg.injEq] at ev
 have ev := congrArg Array.toList ev
 simp only [List.cons.injEq, Value.slice.injEq, true_and, and_true] at ev
 obtain ⟨⟨rfl, rfl⟩, rfl, rfl⟩ := ev
 have htf := hatT.fcap
 have htc := hatT.cap
 unfold maxLen at htf htc
 have HATT : Hid (∀ W : World, w1.grownBy W none → DAt w1.heap.size W T N k tfb tfo cf tb toff cn TRB TRO TRC) := Kh (fun W hg => hatT.kept hg (by simp))
 clear hatT
 obtain ⟨zs, hzs, hzl⟩ : ∃ zs : List Int, Arr w1 G 3 (ints zs) ∧ zs.length = n ∧ ∀ q, q < n → zs.getD q 0 = -1 ∨ ∃ i : Nat, i < N ∧ zs.getD q 0 = (i : Int) := ⟨_, hGa, uO _ _, fun q hq => by
  rw [placeL_get hq, qL]
  split
  ·rename_i hm
   exact .inr ⟨_, by rw [HNE.out]; exact List.idxOf_lt_length_of_mem hm, rfl⟩
  ·exact .inl rfl⟩
 have HZL := Kh hzl.2
 have hzn := hzl.1
 obtain ⟨T4, hT4⟩ : ∃ T4, T4 = w1.heap.size := ⟨_, rfl⟩
 obtain ⟨w2, hw2⟩ : ∃ w2, w2 = w1.alloc (.cells #[.int .i64 (k : Int), .int .i64 0, .slice (some ⟨tfb, tfo, none⟩) N cf, .slice (some ⟨tb, toff, none⟩) N cn] 42) := ⟨_, rfl⟩
 have hg2 := World.grownBy_alloc w1 (.cells #[.int .i64 (k : Int), .int .i64 0, .slice (some ⟨tfb, tfo, none⟩) N cf, .slice (some ⟨tb, toff, none⟩) N cn] 42) none
 have hb4 := heap_alloc_new w1 (.cells #[.int .i64 (k : Int), .int .i64 0, .slice (some ⟨tfb, tfo, none⟩) N cf, .slice (some ⟨tb, toff, none⟩) N cn] 42)
 rw [← hw2] at hg2 hb4
 rw [← hT4] at hb4
 have hz1 := hg1.size
 have hz2 := hg2.size
 have hT4z := zN hb4
 have hQT : Q < T4 := by omega
 obtain ⟨d0, d1, d2, d3⟩ := zG hb4
 have HB12 := Kh (zB (zB HB1.out hg1 (by simp)) hg2 (by simp)); have HB22 := Kh (zB (zB HB2.out hg1 (by simp)) hg2 (by simp))
 have HB4 := Kh hb4; have HW2 := Kh hw2; have HT4 := Kh hT4
 have HZS := Kh (hzs.kept hg2 (by simp))
 have hgz := hzs.lt
 have HDT := Kh (hdT.kept hg2 (by simp))
 have HG2 := Kh (zA (zA HGA.out hg1 (by simp)) hg2 (by simp)); have HG12 := Kh hg2
 have HCL := Kh (pclasses_any w1.heap.size w2 _ T N k hz2 (hdT.kept hg2 (by simp)) HTV.out (by omega))
 clear hblt hGa hTl hTs hTf hTn hdT hzs hzl hb4 hw2 hg2 hg1 HTR HB1 HB2 c0 c1 c2 c3 hT4
 obtain ⟨a0, a1, a2, a3⟩ := zG HB12.out
 go_upto_region 2 with fail
 rw [← HW2.out, ← HT4.out]
 go_wp2_with fail
 refine HCL.out.mono ?_
 rintro e w3 ⟨G6, rfl, hG6, harr6, hg3⟩
 rw [← HP.out] at harr6 ⊢
 rw [hpl]
 have hz3 := hg3.size
 have HB13 := Kh (zB HB12.out hg3 (by simp)); have HB23 := Kh (zB HB22.out hg3 (by simp)); have HB43 := Kh (zB HB4.out hg3 (by simp))
 have HZS3 := Kh (HZS.out.kept hg3 (by simp)); have HDT3 := Kh (HDT.out.kept hg3 (by simp)); have HG3 := Kh (zA HG2.out hg3 (by simp)); have HG13 := Kh (zA HG12.out hg3 (by simp))
 have HA6 := Kh harr6
 have hG6z := harr6.lt
 clear HCL harr6 hg3 d0 d1 d2 d3 a0 a1 a2 a3 HB12 HB22 HB4 HZS HDT
 obtain ⟨a0, a1, a2, a3⟩ := zG HB13.out
 obtain ⟨oQ, hoQ⟩ : ∃ oQ, oQ = w3.heap.size := ⟨_, rfl⟩
 obtain ⟨w5, hw5⟩ : ∃ w5, w5 = w3.alloc (.cells #[.int .i64 (k : Int), .int .i64 0, .slice none 0 0, .slice none 0 0] 42) := ⟨_, rfl⟩
 have hg5 := World.grownBy_alloc w3 (.cells #[.int .i64 (k : Int), .int .i64 0, .slice none 0 0, .slice none 0 0] 42) none
 have hb5 := heap_alloc_new w3 (.cells #[.int .i64 (k : Int), .int .i64 0, .slice none 0 0, .slice none 0 0] 42)
 rw [← hw5] at hg5 hb5
 rw [← hoQ] at hb5
 have HW5 := Kh hw5; have HOQ := Kh hoQ
 have HBX : Hid (BX w3 w5 oQ (fun _ => False) k (vT T p 0) (uV T p 0) [] none 0 none 0) := Kh (BX.start hb5 (by omega) hg5)
 have hoQz := zN hb5
 clear hw5 hoQ hg5 hb5
 go_upto_region 4 with fail
 rw [← HW5.out, ← HOQ.out]
 go_wp2_with fail
 go_loopg [8, 9, 10, 11, 12, 30] N (fun gh a8 a9 a10 a11 a12 i wr => ∃ (q : Nat) (X : Nat → Prop) (hs : List Value) (sf : Option Addr) (cf : Nat) (sn : Option Addr) (cn : Nat), gh + q = N ∧ i = .int .i64 q ∧ BX w3 wr oQ X k (vT T p q) (uV T p q) hs sf cf sn cn)
 case atStart => exact ⟨0, _, _, _, _, _, _, rfl, rfl, HBX.out⟩
 case round =>
  clear HBX
  obtain ⟨q, X, hs, sf, cf, sn, cn, hgh, rfl, hbx⟩ := hrel
  have HGH := Kh hgh; have HBX := Kh hbx
  have hgr := hbx.grown
  have HGR := Kh hgr
  obtain ⟨d0, d1, d2, d3⟩ := zG hbx.box
  obtain ⟨t0, t1, t2, t3⟩ := zG (zB HB43.out hgr (by simp))
  obtain ⟨a0, a1, a2, a3⟩ := zG (zB HB13.out hgr (by simp))
  by_cases hq : q < N
  ·have hq' : (q : Int) < N := by omega
   have cq := (HA6.out.kept hgr (by simp)).nat q (by omega)
   obtain ⟨hn1', hn2, hn3⟩ := kK HPN.out (q := q) (by omega)
   have hFl := quotFs_len (d := T) HPN.out (show q ≤ p.length by omega)
   have hTl := quotTs_len (d := T) HPN.out (show q ≤ p.length by omega)
   obtain ⟨M, hM⟩ : ∃ M, M = cls (p.take q) := ⟨_, rfl⟩
   obtain ⟨c, hc⟩ : ∃ c, c = p.getD q 0 := ⟨_, rfl⟩
   have hMq : M ≤ q := by rw [hM]; have := cls_le (p.take q); rw [List.length_take] at this; omega
   rw [← hM] at hFl hTl hn1' hn2
   rw [← hc] at cq hn1' hn2
   have HM := Kh hM; have HC := Kh hc; have HFL := Kh hFl; have HTL := Kh hTl
   rw [hFl] at d2
   rw [hTl] at d3
   clear hgh hbx hgr hn2 hn3 hM hc hFl hTl
   by_cases hcM : c < M
   ·have hcM' : (c : Int) < M := by omega
    have e1 : Hid (vT T p (q + 1) = vT T p q ∧ uV T p (q + 1) = uV T p q) := Kh (by
     have : p.getD q 0 ≠ cls (p.take q) := by rw [← HC.out, ← HM.out]; omega
     exact ⟨quotFs_old this, quotTs_old this⟩)
    go_wp2
    go_roundg (N - (q + 1))
    case measure => have := HGH.out; omega
    case rel => exact ⟨q + 1, X, hs, sf, cf, sn, cn, by have := HGH.out; omega, by go_num, by rw [e1.out.1, e1.out.2]; exact HBX.out⟩
   ·have hcE : c = M := by omega
    have hcM' : ¬ (c : Int) < M := by omega
    have e1 : Hid (vT T p (q + 1) = vT T p q ++ [T.final.getD q false] ∧ uV T p (q + 1) = uV T p q ++ [rZ p (T.next.getD q [])]) := Kh (by
     have : p.getD q 0 = cls (p.take q) := by rw [← HC.out, ← HM.out]; exact hcE
     exact ⟨quotFs_new this, quotTs_new this⟩)
    have hatr := HATT.out wr (zA HG13.out HGR.out (by simp))
    have hrcap := hatr.rcap q hq
    have hrc1 := hrcap.1
    have hrc2 : TRC q ≤ 9223372036854775807 := by have := hrcap.2; unfold maxLen at this; omega
    obtain ⟨rb, hrb⟩ : ∃ rb, rb = TRB q := ⟨_, rfl⟩
    obtain ⟨ro, hro⟩ : ∃ ro, ro = TRO q := ⟨_, rfl⟩
    obtain ⟨rc, hrc⟩ : ∃ rc, rc = TRC q := ⟨_, rfl⟩
    have HHD : Hid (∀ W : World, w3.grownBy W none → W.cell? ⟨tb, toff + q, none⟩ = some (.slice (some ⟨rb, ro, none⟩) k rc)) := Kh (fun W hg => by rw [hrb, hro, hrc]; exact (HATT.out W (zA HG13.out hg (by simp))).hd q hq)
    have HEL : Hid (∀ W : World, w3.grownBy W none → ∀ a, a < k → W.cell? ⟨rb, ro + a, none⟩ = some (.int .i64 ((nx T q a : Nat) : Int))) := Kh (fun W hg a ha => by rw [hrb, hro]; exact (HATT.out W (zA HG13.out hg (by simp))).el q a hq ha)
    have HFIN : Hid (∀ W : World, w3.grownBy W none → W.cell? ⟨tfb, tfo + q, none⟩ = some (.bool (T.final.getD q false))) := Kh (fun W hg => (HATT.out W (zA HG13.out hg (by simp))).fin hq)
    rw [← hrc] at hrc1 hrc2
    clear hatr hrcap hrb hro hrc
    go_wp2_with (first | (at_make; refine make1 rfl _ _ _ rfl xP rfl .i64 .i64 _ _ k rfl rfl rfl rfl ?b1 ?b2 ?_; (case b1 => omega); (case b2 => (unfold maxLen; omega)); intro w7 harr hg7 hlt7; (obtain ⟨u0, u1, u2, u3⟩ := zG (zB (zB HB43.out HGR.out (by simp)) hg7 (by simp))); (have chd := HHD.out _ (zA HGR.out hg7 (by simp)))) | fail)
    obtain ⟨g, hg⟩ : ∃ g, g = wr.heap.size := ⟨_, rfl⟩
    rw [← hg] at harr hlt7 ⊢
    have HA7 : Hid (Arr w7 g 3 (nats (kG T p k q 0))) := Kh (by
     rw [show kG T p k q 0 = List.replicate k 0 by simp [kG], xU]; exact harr)
    have HBX7 := Kh (HBX.out.grow hg7)
    have hgX : ∀ j, X j → j < g := fun j hj => by have := HBX.out.lt j hj; omega
    have HGX := Kh hgX
    have hgQ : oQ < g := by have := zN HBX.out.box; omega
    have hg3z : w3.heap.size ≤ g := by have := HGR.out.size; omega
    have HG7 := Kh (zA HGR.out hg7 (by simp))
    have HSZ := Kh hg7.size
    have hgu : wr.heap.size ≤ g := by omega
    clear harr hg7 hgX hg d0 d1 d2 d3 t0 t1 t2 t3 a0 a1 a2 a3 u0 u1 u2 u3 chd cq
    go_loopg [11, 12, 49] k (fun gh a11 a12 i wr => ∃ x : Nat, gh + x = k ∧ i = .int .i64 x ∧ Arr wr g 3 (nats (kG T p k q x)) ∧ w7.grownBy wr (some g))
    case atStart => exact ⟨0, rfl, rfl, HA7.out, zL _ _⟩
    case round =>
     obtain ⟨x, hgh, rfl, harr, hgr⟩ := hrel
     have HGH2 := Kh hgh; have HA := Kh harr; have HGR7 := Kh hgr
     have hg3r := zA HG7.out hgr (fun k e => by have e : g = k := Option.some.inj e; omega)
     have HG3R := Kh hg3r
     clear hgh
     by_cases hx : x < k
     ·have hx' : (x : Int) < k := by omega
      have cel := HEL.out wr hg3r x hx
      have hyn := kF HTV.out hq hx
      obtain ⟨y, hy⟩ : ∃ y, y = nx T q x := ⟨_, rfl⟩
      rw [← hy] at cel hyn
      have hyn' : (y : Int) < N := by omega
      have cy := (HA6.out.kept hg3r (by simp)).nat y (by omega)
      have hset := mapTo_set (d := T) (p := p) (q := q) hx
      rw [← hy] at hset
      have HSET := Kh hset
      have HL7 := Kh (pM (d := T) (p := p) (q := q) (k := k) (x := x) (by omega))
      have ck := harr.nat x (by rw [HL7.out]; exact hx)
      have fk := harr.frozen x
      obtain ⟨z, hz⟩ : ∃ z, z = p.getD y 0 := ⟨_, rfl⟩
      rw [← hz] at cy
      have HZ := Kh hz
      clear hset hz hy harr hgr hg3r
      go_wp2
      go_roundg (k - (x + 1))
      case measure => have := HGH2.out; omega
      case rel => exact ⟨x + 1, by have := HGH2.out; omega, by go_num, by rw [← HSET.out, ← HZ.out]; exact HA.out.nat_set x (by rw [HL7.out]; exact hx) z, zF HGR7.out (zD wr ⟨g, x, none⟩ _)⟩
     ·have hxk : x = k := by have := HGH2.out; omega
      subst hxk
      obtain ⟨cur, rest, hcur, _⟩ := HA7.out
      have hXg : ¬ X g := fun hx => by have := HGX.out g hx; omega
      have hbxr := HBX7.out.put hgr hcur hXg hg3z
      have HBR := Kh hbxr
      have HAG : Hid (Arr wr g 3 (ints (rZ p (T.next.getD q [])))) := Kh (by rw [← mapTo_full HTV.out hq]; exact harr)
      obtain ⟨d0, d1, d2, d3⟩ := zG hbxr.box
      have fz2 := zE hbxr.box 2
      have hb4r := zB HB43.out hg3r (by simp)
      obtain ⟨t0, t1, t2, t3⟩ := zG hb4r
      have cfin := HFIN.out wr hg3r
      have hT4r := zN hb4r
      have hoQr := zN hbxr.box
      have htfr : tfb < wr.heap.size := by
       have := (HATT.out wr (zA HG13.out hg3r (by simp))).frow.1
       exact this
      rw [HFL.out] at d2
      rw [HTL.out] at d3
      obtain ⟨bf, hbf⟩ : ∃ bf, bf = T.final.getD q false := ⟨_, rfl⟩
      rw [← hbf] at cfin
      have HBF := Kh hbf
      have HOF : Hid (∀ W1 : World, wr.grownBy W1 none → W1.ownsRow oQ 4 1 (.slice sf M cf) M (bls (vT T p q)) ∧ oQ ≤ W1.heap.size) := Kh (fun W1 hg => ⟨by have := zV HBR.out.ownF hg; rwa [HFL.out] at this, by have := hg.size; omega⟩)
      have HPUSH : Hid (∀ (W1 w' : World) (sf' : Option Addr) (cf' : Nat), w'.ownsRow oQ 4 1 (.slice sf' (M + 1) cf') (M + 1) (bls (vT T p q) ++ [.bool bf]) → W1.grownBy w' (Value.slice sf M cf).ownBlock → wr.grownBy W1 none →
        BX w3 (w'.setCell ⟨oQ, 2, none⟩ (.slice sf' (M + 1) cf')) oQ X x (vT T p q ++ [bf]) (uV T p q) hs sf' cf' sn cn ∧ Arr (w'.setCell ⟨oQ, 2, none⟩ (.slice sf' (M + 1) cf')) g 3 (ints (rZ p (T.next.getD q []))) ∧ w'.frozen? ⟨oQ, 2, none⟩ = false ∧ w'.cell? ⟨oQ, 2, none⟩ = some (.slice sf M cf)) := Kh (fun W1 w' sf' cf' ho hg h1 => by
       have hS1 := HBR.out.grow h1
       have hF1 := hS1.ownF
       have hb0 := hS1.box
       rw [HFL.out] at hF1 hb0
       have hb1 := zB hb0 hg (zS hF1 hb0 (by decide))
       have hp := hS1.pushF (b := bf) HFL.out ho hg rfl
       have ha1 := HAG.out.kept h1 (by simp)
       obtain ⟨cg, rg, hcg, _⟩ := id ha1
       exact ⟨hp, (ha1.kept hg (zS hF1 hcg (by decide))).kept (zD w' ⟨oQ, 2, none⟩ _) (fun e => by have e : oQ = g := Option.some.inj e; omega), zE hb1 2, (zG hb1).2.2.1⟩)
      obtain ⟨wo, rfl⟩ : ∃ wo : World, wo = wr := ⟨_, rfl⟩
      clear hcur hbxr harr hgr hg3r hb4r hbf HA7
      go_wp2_with fail
      go_region_law (first | (refine pE ?g1 (.tmp 63) (.tmp 69) 39 ?g2 qC oQ (.slice sf M cf) M (bls (vT T p q)) ?g3 ?g4 (.bool bf) wo.heap.size (0, 0) ?g5 ?g6 ?g7 ?g8 ?g9 ?g10 ?_; (case g1 => rfl); (case g2 => rfl); (case g3 => rfl); (case g4 => (refine (HOF.out _ ?_).1; exact sG (o := .cells #[.bool bf] 4) rfl rfl rfl rfl)); (case g5 => rfl); (case g6 => exact heap_alloc_new (wo.drew) _); (case g7 => rfl); (case g8 => (unfold maxLen; omega)); (case g9 => omega); (case g10 => (refine (HOF.out _ ?_).2; exact sG (o := .cells #[.bool bf] 4) rfl rfl rfl rfl)); intro sf8 cf8 w8 hown8 hg8; have hp8 := HPUSH.out _ _ _ _ hown8 hg8 (sG (o := .cells #[.bool bf] 4) rfl rfl rfl rfl); have hfz8 := hp8.2.2.1; have hfc8 := hp8.2.2.2; have HP8 := Kh hp8; clear hp8 hown8 hg8) | fail)
      all_goals
       clear HPUSH HOF hfz8 hfc8 d0 d1 d2 d3 fz2 t0 t1 t2 t3 cfin HBR HAG HBX7 HBX HHD HEL HFIN
       obtain ⟨w9, hw9⟩ : ∃ W9, W9 = w8.setCell ⟨oQ, 2, none⟩ (.slice sf8 (M + 1) cf8) := ⟨_, rfl⟩
       rw [← hw9] at HP8 ⊢
       have hbx9 := HP8.out.1
       have HA9 := Kh HP8.out.2.1
       have HX9 := Kh hbx9
       have hN9 := hbx9.ownN
       obtain ⟨d0, d1, d2, d3⟩ := zG hbx9.box
       rw [HTL.out] at d3 hN9
       have HN9 := Kh hN9
       have hoz9 := zN hbx9.box
       clear hw9 HP8 hbx9 hN9
       go_wp2_with (first | (at_builtin; refine app1s rfl _ _ _ rfl qY oQ (.slice sn M cn) M hs rfl HN9.out (.slice (some ⟨g, 0, none⟩) x x) rfl rfl ?a1 ?a2 ?a3 ?_; (case a1 => (unfold maxLen; omega)); (case a2 => omega); (case a3 => omega); intro sn6 cn6 w10 hown6 hg6 hz6 hmv6; (have HO6 := Kh hown6); (have HG6 := Kh hg6); (have hb6 := zB HX9.out.box hg6 (zS HN9.out HX9.out.box (by decide))); (obtain ⟨e0, e1', e2, e3⟩ := zG hb6); (have fz6 := zE hb6 3); clear hown6 hg6 hmv6) | fail)
       go_roundg (N - (q + 1))
       case measure => have := HGH.out; omega
       case rel =>
        have hp := HX9.out.pushN (Y := fun j => X j ∨ j = g) HTL.out (fun j hj => .inl hj) (fun j hj => by
         rcases hj with hj | rfl
         ·exact HX9.out.lt j hj
         ·exact HA9.out.lt) HO6.out HG6.out (RowX.of_arr HA9.out (by rw [yW, rZ, List.length_map, HTV.out.row q hq]) (by unfold maxLen; omega) (.inr rfl)) rfl
        rw [HBF.out, ← e1.out.1, ← e1.out.2] at hp
        exact ⟨q + 1, _, _, _, _, _, _, by have := HGH.out; omega, by go_num, hp⟩
  ·have hqN : q = N := by have := HGH.out; omega
   have hFl : (vT T p q).length = cls p := by rw [quotFs_len HPN.out (by omega), hqN, ← hpl, List.take_length]
   have hTl : (uV T p q).length = cls p := by rw [quotTs_len HPN.out (by omega), hqN, ← hpl, List.take_length]
   have hq0 : (⟨(k : Int), 0, vT T p q, uV T p q⟩ : DfaV) = uM T p := by
    have := quot_full (d := T) (p := p) (q := q) (by omega) (by
     have e : st0 T = 0 := by rw [HTE.out]; rfl
     rw [e]; exact norm_zero HPN.out)
    rw [← this, HTV.out.hk]
   have hdq := (hbx.built (hFl.trans hTl.symm)).dfa
   rw [hq0, hFl, hTl] at hdq
   obtain ⟨M, hM⟩ : ∃ M, M = cls p := ⟨_, rfl⟩
   have hMN : M ≤ N := by rw [hM, ← hpl]; exact cls_le p
   have hqv : VD (uM T p) M k := by rw [hM]; exact quot_vd HTV.out hpl HPN.out
   rw [← hM] at hdq
   rw [hFl, ← hM] at d2
   rw [hTl, ← hM] at d3
   have HPL : Hid (∀ i, i < N → p.getD i 0 < M) := Kh (fun i hi => by rw [hM]; exact sM HPN.out (by omega))
   have HTR := Kh (ptrim_any wr.heap.size wr _ (uM T p) M k (Nat.le_refl _) hdq hqv (by omega))
   have HGE : Hid (w.grownBy wr none) := Kh (zA HG3.out hgr (by simp))
   clear hgh hbx hFl hTl hq0 hdq hqv hM hqN HGH t0 t1 t2 t3 a0 a1 a2 a3
   go_wp2_with fail
   refine HTR.out.mono ?_
   rintro e wt ⟨vt, Gt, rfl, ⟨ot, hst, sft, cft, snt, cnt, rfl, hot, hbt⟩, hGtw, harrt, hgt⟩
   rw [← HMIN.out] at hbt ⊢
   obtain ⟨R, hR⟩ : ∃ R, R = minD T k := ⟨_, rfl⟩
   rw [← hR] at hbt ⊢
   have hRk : R.letters = k := by rw [hR]; exact (lQ HTV.out).hk
   have hRs : R.start = 0 := by rw [hR]; rfl
   obtain ⟨FL, hFL⟩ : ∃ FL, FL = R.final.length := ⟨_, rfl⟩
   obtain ⟨NL, hNL⟩ : ∃ NL, NL = R.next.length := ⟨_, rfl⟩
   rw [hRk, hRs, ← hFL, ← hNL]
   obtain ⟨ys, hys, hyl⟩ : ∃ ys : List Int, Arr wt Gt 3 (ints ys) ∧ ys.length = M := ⟨_, harrt, uO _ _⟩
   have HRE := Kh hR; have HRK := Kh hRk; have HRS := Kh hRs; have HFLE := Kh hFL; have HNLE := Kh hNL; have HBT := Kh hbt; have HYS := Kh hys
   have HGT := Kh (zA HGE.out hgt (by simp)); have HGT3 := Kh (zA HGR.out hgt (by simp))
   obtain ⟨T13, hT13⟩ : ∃ T13, T13 = wt.heap.size := ⟨_, rfl⟩
   obtain ⟨w13, hw13⟩ : ∃ w13, w13 = wt.alloc (.cells #[.int .i64 (k : Int), .int .i64 0, .slice sft FL cft, .slice snt NL cnt] 42) := ⟨_, rfl⟩
   have hg13 := World.grownBy_alloc wt (.cells #[.int .i64 (k : Int), .int .i64 0, .slice sft FL cft, .slice snt NL cnt] 42) none
   have hb13 := heap_alloc_new wt (.cells #[.int .i64 (k : Int), .int .i64 0, .slice sft FL cft, .slice snt NL cnt] 42)
   rw [← hw13] at hg13 hb13
   rw [← hT13] at hb13
   have hzr := HGR.out.size
   have hzt := hgt.size
   have hz13 := hg13.size
   have hT13z := zN hb13
   have hgtz := hys.lt
   have HB13' := Kh hb13; have HW13 := Kh hw13; have HT13 := Kh hT13; have HG13' := Kh hg13
   have hQ13 : Q < T13 := by omega
   have hT13W : w3.heap.size ≤ T13 := by omega
   clear hR hRk hRs hFL hNL hbt harrt hys hgt hb13 hw13 hT13 hg13 d0 d1 d2 d3 HBX HTR
   go_upto_region 18 with fail
   rw [← HW13.out, ← HT13.out]
   go_wp2_with (first | (at_make; refine make1 rfl _ _ _ rfl xP rfl .i64 .i64 _ _ n rfl rfl rfl rfl ?b1 ?b2 ?_; (case b1 => omega); (case b2 => (unfold maxLen; omega)); intro ws harr hgs hlts) | fail)
   obtain ⟨Gs, hGs⟩ : ∃ Gs, Gs = w13.heap.size := ⟨_, rfl⟩
   rw [← hGs] at harr hlts ⊢
   have HS0 : Hid (Arr ws Gs 3 (ints (List.replicate n 0))) := Kh (by simpa [oO] using harr)
   have hGsT : T13 < Gs := by omega
   have hGtG : Gt < Gs := by omega
   have HGS := Kh hgs
   have hGsW : w13.heap.size ≤ Gs := by omega
   clear harr hgs hGs hlts
   go_loopg [16, 17, 89] n (fun gh a16 a17 i wr => ∃ (j : Nat) (vs : List Int), gh + j = n ∧ i = .int .i64 j ∧ vs.length = n ∧ Arr wr Gs 3 (ints vs) ∧ w13.grownBy wr none)
   case atStart => exact ⟨0, _, rfl, rfl, by simp, HS0.out, HGS.out⟩
   case round =>
    clear HS0 HGS
    obtain ⟨j, vs, hgh, rfl, hvl, harr, hgr'⟩ := hrel
    have HGH3 := Kh hgh; have HA := Kh harr; have HGR' := Kh hgr'
    have hg3' := zA (zA HGT3.out HG13'.out (by simp)) hgr' (by simp)
    clear hgh
    by_cases hj : j < n
    ·have hj' : (j : Int) < n := by omega
     have cz := (HZS3.out.kept hg3' (by simp)).int j (by omega)
     have cs := harr.int j (by omega)
     have fs := harr.frozen j
     have hcase := HZL.out j hj
     obtain ⟨z, hz⟩ : ∃ z, z = zs.getD j 0 := ⟨_, rfl⟩
     rw [← hz] at cz hcase
     have hvl' : (ints vs).length = n := by rw [yW, hvl]
     rcases hcase with rfl | ⟨i, hi, rfl⟩
     ·clear hz harr hgr' hg3'
      go_wp2
      go_roundg (n - (j + 1))
      case measure => have := HGH3.out; omega
      case rel => exact ⟨j + 1, vs.set j (-1), by have := HGH3.out; omega, by go_num, by rw [List.length_set, hvl], HA.out.int_set j (by omega) (-1), zA HGR'.out (zD wr ⟨Gs, j, none⟩ _) (fun k e => by have e : Gs = k := Option.some.inj e; omega)⟩
     ·have hi' : (i : Int) < N := by omega
      have cp := (HA6.out.kept hg3' (by simp)).nat i (by omega)
      have hcM := HPL.out i hi
      obtain ⟨c, hc⟩ : ∃ c, c = p.getD i 0 := ⟨_, rfl⟩
      rw [← hc] at cp hcM
      have hcM' : (c : Int) < M := by omega
      have cy := ((HYS.out.kept HG13'.out (by simp)).kept hgr' (by simp)).int c (by omega)
      obtain ⟨y, hy⟩ : ∃ y, y = ys.getD c 0 := ⟨_, rfl⟩
      rw [← hy] at cy
      have HCI := Kh (And.intro hi hcM)
      clear hz hc hy harr hgr' hg3'
      have hne1 : G6 ≠ Gs := by omega
      have hne2 : Gt ≠ Gs := by omega
      go_wp2
      go_roundg (n - (j + 1))
      case measure => have := HGH3.out; omega
      case rel => exact ⟨j + 1, (vs.set j (-1)).set j y, by have := HGH3.out; omega, by go_num, by rw [List.length_set, List.length_set, hvl], (HA.out.int_set j (by omega) (-1)).int_set j (by rw [List.length_set]; omega) y, zA (zA HGR'.out (zD wr ⟨Gs, j, none⟩ _) (fun k e => by have e : Gs = k := Option.some.inj e; omega)) (zD (wr.setCell ⟨Gs, j, none⟩ (.int .i64 (-1))) ⟨Gs, j, none⟩ _) (fun k e => by have e : Gs = k := Option.some.inj e; omega)⟩
    ·obtain ⟨e0, e1, e2, e3⟩ := zG (zB HB13'.out hgr' (by simp))
     have hbQ := zB HB23.out hg3' (by simp)
     obtain ⟨q0, q1, q2, q3⟩ := zG hbQ
     have f0 := zE hbQ 0
     have f1 := zE hbQ 1
     have f2 := zE hbQ 2
     have f3 := zE hbQ 3
     have HBQ := Kh hbQ
     clear hbQ
     go_wp2
     obtain ⟨hbz, hgz'⟩ := vD HBQ.out (.int .i64 (k : Int)) (.int .i64 0) (.slice sft FL cft) (.slice snt NL cnt)
     obtain ⟨wz, hwz⟩ : ∃ wz, wz = (((wr.setCell ⟨Q, 0, none⟩ (.int .i64 (k : Int))).setCell ⟨Q, 1, none⟩ (.int .i64 0)).setCell ⟨Q, 2, none⟩ (.slice sft FL cft)).setCell ⟨Q, 3, none⟩ (.slice snt NL cnt) := ⟨_, rfl⟩
     rw [← hwz] at hbz hgz' ⊢
     clear hwz
     obtain ⟨r0, r1, r2, r3⟩ := zG hbz
     clear e0 e1 e2 e3 q0 q1 q2 q3 f0 f1 f2 f3
     refine bodyPost_ret (v := .tuple #[.agg #[.int .i64 (k : Int), .int .i64 0, .slice sft FL cft, .slice snt NL cnt], .slice (some ⟨Gs, 0, none⟩) n n]) (by simp [results, Try.results85, go_sem, r0, r1, r2, r3]) rfl ?_
     have hgW : w.grownBy wz none := zA (zA (zA HGT.out HG13'.out (by simp)) hgr' (by simp)) hgz' (fun k e => by have h7 : Q = k := Option.some.inj e; omega)
     have hbw := ((HBT.out.grow HG13'.out).grow hgr').far hgz' HBQ.out (by omega)
     refine ⟨_, _, rfl, ⟨ot, hst, sft, cft, snt, cnt, ?_, by omega, by rw [← HRE.out]; exact hbw⟩, hgW⟩
     rw [← HRE.out, HRS.out, HRK.out, HFLE.out, HNLE.out]
end Go.Proofs.Ytjfdomfendbhfaa
