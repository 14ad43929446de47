/- Part 39 of the proof: RSets. -/
import Derived.Test.YtgbfaggnnfoamaaZi38
set_option linter.unusedVariables false
set_option linter.unusedSimpArgs false
namespace Go.Proofs.Ytgbfaggnnfoamaa
open Go.RowKit Go.Maps
set_option maxHeartbeats 800000 in
theorem psame_any (w : World) (g1 g2 n : Nat) (xs ys : List Bool) (hx : xs.length = n) (hy : ys.length = n) (hn : n ≤ 4096) (h1 : Arr w g1 4 (bls xs)) (h2 : Arr w g2 4 (bls ys)) :
  Calls Try.prog 60 #[.slice (some ⟨g1, 0, none⟩) n n, .slice (some ⟨g2, 0, none⟩) n n] w fun e w' => e = .returned (.bool (xs == ys)) ∧ w.grownBy w' none := by
 have H1 := Kh h1; have H2 := Kh h2; have HX := Kh hx; have HY := Kh hy
 clear h1 h2 hx hy
 go_enter Try.func60, Try.ntmps60
 go_wp2
 go_loopg [5, 8] n (fun gh a5 i wr => ∃ k : Nat, gh + k = n ∧ i = .int .i64 k ∧ xs.take k = ys.take k ∧ w.grownBy wr none)
 case atStart => exact ⟨0, rfl, rfl, rfl, zO _ _⟩
 case round =>
  obtain ⟨k, hgh, rfl, htk, hg⟩ := hrel
  have HGH := Kh hgh; have HTK := Kh htk; have HG := Kh hg
  clear hgh htk
  by_cases hk : k < n
  ·have hk' : (k : Int) < n := by omega
   have c1 := (H1.out.kept hg (by simp)).bool k (by rw [HX.out]; exact hk)
   have c2 := (H2.out.kept hg (by simp)).bool k (by rw [HY.out]; exact hk)
   have ex : xs.take (k + 1) = xs.take k ++ [xs.getD k false] := zY (by rw [HX.out]; exact hk)
   have ey : ys.take (k + 1) = ys.take k ++ [ys.getD k false] := zY (by rw [HY.out]; exact hk)
   obtain ⟨x, hxe⟩ : ∃ x, x = xs.getD k false := ⟨_, rfl⟩
   obtain ⟨y, hye⟩ : ∃ y, y = ys.getD k false := ⟨_, rfl⟩
   rw [← hxe] at c1 ex
   rw [← hye] at c2 ey
   have EX := Kh ex; have EY := Kh ey
   clear hxe hye ex ey hg
   by_cases hxy : x = y
   ·have e0 : (x == y) = true := by simp [hxy]
    have HXY := Kh hxy
    clear hxy
    go_wp2
    go_quiet (fail)
    go_wp2
    go_roundg (n - (k + 1))
    case rel => exact ⟨k + 1, by have := HGH.out; omega, by go_num, by rw [EX.out, EY.out, HTK.out, HXY.out], zB HG.out (by first | exact zX _ none | exact zJ _ _ none) (by simp)⟩
    case measure => have := HGH.out; omega
   ·have e0 : (x == y) = false := by simp [hxy]
    have HXY := Kh hxy
    clear hxy
    go_wp2
    go_quiet (fail)
    go_wp2
    go_ret
    refine ⟨zW ?_, zB HG.out (by first | exact zX _ none | exact zJ _ _ none) (by simp)⟩
    symm
    rw [beq_eq_false_iff_ne]
    intro e
    have h9 := EX.out
    rw [e, EY.out] at h9
    have := List.append_inj_right' h9 rfl
    exact HXY.out (by simpa using this.symm)
  ·have hk' : ¬ (k : Int) < n := by omega
   have HKN : Hid (k = n) := Kh (by have := HGH.out; omega)
   clear hg
   go_wp2
   go_ret
   refine ⟨zW ?_, HG.out⟩
   have h9 := HTK.out
   rw [List.take_of_length_le (by rw [HX.out, HKN.out]; exact Nat.le_refl _), List.take_of_length_le (by rw [HY.out, HKN.out]; exact Nat.le_refl _)] at h9
   simp [h9]
set_option maxHeartbeats 800000 in
theorem pstart_any (w : World) (m : Nat) (h0 : 0 < m) (hm : m ≤ 4096) :
  Calls Try.prog 59 #[.int .i64 (m : Int)] w fun e w' => e = .returned (.slice (some ⟨w.heap.size, 0, none⟩) m m) ∧ Arr w' w.heap.size 4 (bls (sN m)) ∧ w.grownBy w' none := by
 go_enter Try.func59, Try.ntmps59
 obtain ⟨G, hG⟩ : ∃ G, G = w.heap.size := ⟨_, rfl⟩
 have HGE := Kh hG
 rw [← hG]
 go_wp2_with (first | (at_make; refine pV rfl _ _ _ rfl wL rfl .i64 .i64 _ _ m rfl rfl rfl rfl ?b1 ?b2 ?_; (case b1 => omega); (case b2 => (unfold maxLen; omega)); intro ws harr hgs hlts; rw [← hG] at harr hlts ⊢; (have ha0 : Arr ws G 4 (bls (List.replicate m false)) := by rw [sJ]; exact harr); (have c0 := ha0.bool 0 (by simpa using h0)); (have f0 := ha0.frozen 0); (have hset := ha0.bool_set 0 (by simpa using h0) true); (have HSET := Kh hset); (have HGS := Kh hgs); clear hset hgs ha0 harr hG) | fail)
 go_ret
 exact ⟨rfl, HSET.out, zB HGS.out (zC ws ⟨G, 0, none⟩ _) (fun k e => by have e : G = k := Option.some.inj e; have := HGE.out; omega)⟩
structure RCtx (W : World) (bs : List ByteArray) (kb off kc pb pc mb m : Nat) : Prop where
 blk : wE W kb off (txtV bs)
 cap : bs.length ≤ kc ∧ kc ≤ maxLen
 pos : PosAt W pb (xG (bs.map zH))
 pcap : m ≤ pc ∧ pc ≤ maxLen
 map : MapK 86 PosOk posV W mb m m (numP (xG (bs.map zH)))
 len : (xG (bs.map zH)).length = m
 big : m ≤ 4096
theorem RCtx.kept {W W' : World} {bs : List ByteArray} {kb off kc pb pc mb m : Nat} {row : Option Nat} (h : RCtx W bs kb off kc pb pc mb m) (hg : W.grownBy W' row) (h1 : row ≠ some kb) (h2 : row ≠ some pb) (h3 : row ≠ some mb) : RCtx W' bs kb off kc pb pc mb m :=
 ⟨h.blk.kept hg h1, h.cap, h.pos.kept hg h2, h.pcap, h.map.kept hg h3, h.len, h.big⟩
theorem RCtx.grow {W W' : World} {bs : List ByteArray} {kb off kc pb pc mb m : Nat} (h : RCtx W bs kb off kc pb pc mb m) (hg : W.grownBy W' none) : RCtx W' bs kb off kc pb pc mb m := h.kept hg (by simp) (by simp) (by simp)
theorem RCtx.at {W : World} {bs : List ByteArray} {kb off kc pb pc mb m : Nat} (h : RCtx W bs kb off kc pb pc mb m) {p : Nat} (hp : p < m) : ∃ bi bk, bi < bs.length ∧ bk ≤ (bs.getD bi ⟨#[]⟩).size ∧ p = offP (bs.map zH) bi + bk ∧ atP (bs.map zH) p = (bi, bk) ∧ lenP (bs.map zH) bi = (bs.getD bi ⟨#[]⟩).size ∧
  W.cell? ⟨pb, p * 2, none⟩ = some (.int .i64 (bi : Int)) ∧ W.cell? ⟨pb, p * 2 + 1, none⟩ = some (.int .i64 (bk : Int)) ∧ W.cell? ⟨kb, off + bi, none⟩ = some (.string (bs.getD bi ⟨#[]⟩)) := by
 obtain ⟨bi, bk, h1, h2, h3⟩ := posOf_cover (bs := bs.map zH) (p := p) (by rw [h.len]; exact hp)
 have hb : bi < bs.length := by simpa using h1
 have hl : lenP (bs.map zH) bi = (bs.getD bi ⟨#[]⟩).size := by
  unfold lenP
  rw [zI h1, zI hb]; simp [yH]
 have e := rP h1 h2
 rw [← h3] at e
 have c0 := h.pos.x0 p (by rw [h.len]; exact hp)
 have c1 := h.pos.x1 p (by rw [h.len]; exact hp)
 have e' : (xG (bs.map zH)).getD p (0, 0) = (bi, bk) := e
 rw [e'] at c0 c1
 exact ⟨bi, bk, hb, by rw [← hl]; exact h2, h3, e, hl, c0, c1, xT h.blk bi hb⟩
theorem RCtx.num {W : World} {bs : List ByteArray} {kb off kc pb pc mb m : Nat} (h : RCtx W bs kb off kc pb pc mb m) {bi bk : Nat} (h1 : bi < bs.length) (h2 : bk ≤ (bs.getD bi ⟨#[]⟩).size) :
  (Instr.lookup 84 (.map (some mb)) (posV (bi, bk)) false).run Try.prog W = .ok (.int .i64 ((offP (bs.map zH) bi + bk : Nat) : Int)) W ∧ offP (bs.map zH) bi + bk < m := by
 have hb : bi < (bs.map zH).length := by simpa using h1
 have hl : lenP (bs.map zH) bi = (bs.getD bi ⟨#[]⟩).size := by
  unfold lenP
  rw [zI hb, zI h1]; simp [yH]
 have hlt := uH hb (show bk ≤ lenP (bs.map zH) bi by omega)
 rw [h.len] at hlt
 have hbig := h.big
 have hio : bi ≤ offP (bs.map zH) bi := by unfold offP; omega
 have := h.map.look1 pos_key (x := (bi, bk)) ⟨by show bi < _; omega, by show bk < _; omega⟩
 rw [numP_get hb (by omega)] at this
 exact ⟨this, hlt⟩
set_option maxRecDepth 100000 in
set_option maxHeartbeats 1600000 in
theorem spread_any (W : World) (bs : List ByteArray) (kb off kc pb pc mb m g : Nat) (S : List Bool) (h : RCtx W bs kb off kc pb pc mb m) (hS : S.length = m) (ha : Arr W g 4 (bls S)) (h1 : g ≠ kb) (h2 : g ≠ pb) (h3 : g ≠ mb) :
  Calls Try.prog 58 #[.agg #[.slice (some ⟨kb, off, none⟩) bs.length kc], .slice (some ⟨pb, 0, none⟩) m pc, .map (some mb), .slice (some ⟨g, 0, none⟩) m m] W fun e w' => e = .returned (.slice (some ⟨g, 0, none⟩) m m) ∧ Arr w' g 4 (bls (spr (bs.map zH) S)) ∧ W.grownBy w' (some g) := by
 have hcap := h.cap
 have hpcap := h.pcap
 have hbig := h.big
 unfold maxLen at hcap hpcap
 have H := Kh h; have HS := Kh hS
 have hgz := ha.lt
 obtain ⟨w1, hw1⟩ : ∃ w1, w1 = W.alloc (.cells #[.slice (some ⟨kb, off, none⟩) bs.length kc] 36) := ⟨_, rfl⟩
 have hg1 := World.grownBy_alloc W (.cells #[.slice (some ⟨kb, off, none⟩) bs.length kc] 36) none
 have hb1 := heap_alloc_new W (.cells #[.slice (some ⟨kb, off, none⟩) bs.length kc] 36)
 rw [← hw1] at hg1 hb1
 obtain ⟨P, hP⟩ : ∃ P, P = W.heap.size := ⟨_, rfl⟩
 rw [← hP] at hb1
 have hPg : P ≠ g := by omega
 have HA1 := Kh (ha.kept hg1 (by simp)); have HG1 := Kh hg1; have HB1 := Kh hb1; have HW1 := Kh hw1; have HP := Kh hP
 clear h hS ha hg1 hb1 hw1 hP
 go_enter Try.func58, Try.ntmps58
 go_upto_region 1 with fail
 rw [← HW1.out, ← HP.out]
 go_wp2
 go_loopg [9, 10, 11, 14] m (fun gh a9 a10 a11 i wr => ∃ k : Nat, gh + k = m ∧ i = .int .i64 k ∧ Arr wr g 4 (bls (tU (bs.map zH) S k)) ∧ w1.grownBy wr (some g))
 case atStart => exact ⟨0, rfl, rfl, HA1.out, zO _ _⟩
 case round =>
  clear HA1
  obtain ⟨k, hgh, rfl, harr, hgr⟩ := hrel
  have HGH := Kh hgh
  clear hgh
  by_cases hk : k < m
  ·have hk' : (k : Int) < m := by omega
   have hl := vY (bs.map zH) S k
   have c0 := harr.bool k (by rw [hl, HS.out]; exact hk)
   have hctx := (H.out.grow HG1.out).kept hgr (by simpa using h1) (by simpa using h2) (by simpa using h3)
   obtain ⟨bi, bk, hbi, hbk, hp, hat, hlp, cx0, cx1, cu⟩ := hctx.at hk
   obtain ⟨u, hu⟩ : ∃ u, u = bs.getD bi ⟨#[]⟩ := ⟨_, rfl⟩
   rw [← hu] at hbk hlp cu
   obtain ⟨c, hc⟩ : ∃ c, c = (tU (bs.map zH) S k).getD k false := ⟨_, rfl⟩
   rw [← hc] at c0
   have cP := zK (zA HB1.out hgr (fun e => hPg (Option.some.inj e).symm)) 0 (by simp)
   simp only [List.getElem_toArray, List.getElem_cons_zero] at cP
   have hbi' : (bi : Int) < bs.length := by omega
   have hus : u.size ≤ 4096 := by
    have h9 := uH (bs := bs.map zH) (i := bi) (k := lenP (bs.map zH) bi) (by simpa using hbi) (Nat.le_refl _)
    rw [H.out.len, hlp] at h9
    omega
   have HPE := Kh hp; have HAT := Kh hat; have HLP := Kh hlp; have HU := Kh hu; have HC := Kh hc; have HL := Kh hl; have HA := Kh harr; have HGR := Kh hgr
   clear hp hat hlp hu hc hl harr hgr hctx
   go_upto_region 5 with fail
   have hg2 := World.grownBy_alloc wr (.cells #[.int .i64 (bi : Int), .int .i64 (bk : Int)] 86) none
   have hb2 := heap_alloc_new wr (.cells #[.int .i64 (bi : Int), .int .i64 (bk : Int)] 86)
   obtain ⟨w2, hw2⟩ : ∃ w2, w2 = wr.alloc (.cells #[.int .i64 (bi : Int), .int .i64 (bk : Int)] 86) := ⟨_, rfl⟩
   obtain ⟨A, hA⟩ : ∃ A, A = wr.heap.size := ⟨_, rfl⟩
   rw [← hw2, ← hA]
   rw [← hw2] at hg2 hb2
   rw [← hA] at hb2
   obtain ⟨d0, d1⟩ := wD hb2
   have hgwr := HA.out.lt
   have hctx2 := ((H.out.grow HG1.out).kept HGR.out (by simpa using h1) (by simpa using h2) (by simpa using h3)).grow hg2
   have cu2 := xT hctx2.blk bi hbi
   rw [← HU.out] at cu2
   have cP2 := zK (zA (zA HB1.out HGR.out (fun e => hPg (Option.some.inj e).symm)) hg2 (by simp)) 0 (by simp)
   simp only [List.getElem_toArray, List.getElem_cons_zero] at cP2
   have HA2 := Kh (HA.out.kept hg2 (by simp)); have HX2 := Kh hctx2; have HG2 := Kh hg2
   have HGW : Hid (∀ w', w2.grownBy w' none → w1.grownBy w' (some g)) := Kh (fun w' hg => zE (zB HGR.out HG2.out (by simp)) (yY hg))
   clear hw2 hA hg2 hb2 hctx2 c0 cx0 cx1 cu cP HB1 HA HGR
   have hnext : Hid ((c = false ∨ bk ≠ u.size ∨ ¬ bi + 1 < bs.length) → tU (bs.map zH) S (k + 1) = tU (bs.map zH) S k) := Kh (fun hno => by
    show (if bitP _ _ && enP _ _ then _ else _) = _
    rw [if_neg]
    intro hh
    rw [Bool.and_eq_true, HAT.out, enP, Bool.and_eq_true, decide_eq_true_eq, decide_eq_true_eq, HLP.out, List.length_map] at hh
    obtain ⟨ha, hb, hcc⟩ := hh
    have ha : c = true := by rw [HC.out]; exact ha
    rcases hno with h | h | h
    ·rw [h] at ha; cases ha
    ·exact h hb
    ·exact h hcc)
   cases c with
   | false =>
    have HNX := Kh (hnext.out (.inl rfl))
    clear hnext
    go_quiet (fail)
    go_wp2
    go_roundg (m - (k + 1))
    case measure => have := HGH.out; omega
    case rel => exact ⟨k + 1, by have := HGH.out; omega, by go_num, by rw [HNX.out]; exact HA2.out.kept (zJ w2 _ none) (by simp), HGW.out _ (zJ w2 _ none)⟩
   | true =>
    by_cases e1 : bk = u.size
    ·have e1' : ((bk : Int) == (u.size : Int)) = true := by simp [e1]
     by_cases e2 : bi + 1 < bs.length
     ·have e2' : decide ((bi : Int) + 1 < (bs.length : Int)) = true := by rw [decide_eq_true_eq]; omega
      have hoff : offP (bs.map zH) (bi + 1) + 0 = k + 1 := by
       rw [pR (bs := bs.map zH) (by simpa using e2), HLP.out, HPE.out, e1]
      have hnum := HX2.out.num (bi := bi + 1) (bk := 0) e2 (Nat.zero_le _)
      have hk1 : k + 1 < m := by have := hnum.2; omega
      have hlk : ∀ q, (Instr.lookup 84 (.map (some mb)) (.agg #[.int .i64 ((bi : Int) + 1), .int .i64 0]) false).run Try.prog (w2.drewN q) = .ok (.int .i64 ((k : Int) + 1)) (w2.drewN q) := fun q => by
       have := ((HX2.out.grow (zJ w2 q none)).num (bi := bi + 1) (bk := 0) e2 (Nat.zero_le _)).1
       rw [hoff] at this
       simpa [posV] using this
      have hl2 := HL.out
      have ca := HA2.out.bool (k + 1) (by rw [hl2, HS.out]; exact hk1)
      have fa := HA2.out.frozen (k + 1)
      have hset := HA2.out.bool_set (k + 1) (by rw [hl2, HS.out]; exact hk1) true
      obtain ⟨old, hold⟩ : ∃ old, old = (tU (bs.map zH) S k).getD (k + 1) false := ⟨_, rfl⟩
      rw [← hold] at ca
      have HNX : Hid (tU (bs.map zH) S (k + 1) = (tU (bs.map zH) S k).set (k + 1) true) := Kh (by
       show (if bitP _ _ && enP _ _ then _ else _) = _
       rw [if_pos]
       rw [Bool.and_eq_true, HAT.out, enP, Bool.and_eq_true, decide_eq_true_eq, decide_eq_true_eq, HLP.out, List.length_map]
       exact ⟨HC.out.symm, e1, e2⟩)
      have HE1 := Kh e1
      have hk1' : (k : Int) + 1 < m := by omega
      clear hnext hnum hoff hl2 hset hold e1
      go_quiet (fail)
      go_wp2
      go_roundg (m - (k + 1))
      case measure => have := HGH.out; omega
      case rel =>
       have hgd := zJ w2 nq none
       refine ⟨k + 1, by have := HGH.out; omega, by go_num, ?_, ?_⟩
       ·rw [HNX.out]; exact (HA2.out.kept hgd (by simp)).bool_set (k + 1) (by rw [HL.out, HS.out]; exact hk1) true
       ·exact zE (HGW.out _ hgd) (zC (w2.drewN nq) ⟨g, k + 1, none⟩ _)
     ·have e2' : decide ((bi : Int) + 1 < (bs.length : Int)) = false := by rw [decide_eq_false_iff_not]; omega
      have HNX := Kh (hnext.out (.inr (.inr e2)))
      have HE1 := Kh e1
      clear hnext e1
      go_quiet (fail)
      go_wp2
      go_roundg (m - (k + 1))
      case measure => have := HGH.out; omega
      case rel => exact ⟨k + 1, by have := HGH.out; omega, by go_num, by rw [HNX.out]; exact HA2.out.kept (zJ w2 _ none) (by simp), HGW.out _ (zJ w2 _ none)⟩
    ·have e1' : ((bk : Int) == (u.size : Int)) = false := by rw [beq_eq_false_iff_ne]; omega
     have HNX := Kh (hnext.out (.inr (.inl e1)))
     clear hnext
     go_quiet (fail)
     go_wp2
     go_roundg (m - (k + 1))
     case measure => have := HGH.out; omega
     case rel => exact ⟨k + 1, by have := HGH.out; omega, by go_num, by rw [HNX.out]; exact HA2.out.kept (zJ w2 _ none) (by simp), HGW.out _ (zJ w2 _ none)⟩
  ·have hkm : k = m := by have := HGH.out; omega
   have hk' : ¬ (k : Int) < m := by omega
   have HR : Hid (Arr wr g 4 (bls (spr (bs.map zH) S))) := Kh (by
    unfold spr
    rw [HS.out, ← hkm]; exact harr)
   have HGR := Kh (zE (yY (row := some g) HG1.out) hgr)
   clear hkm harr hgr
   go_wp2
   refine bodyPost_ret (v := .slice (some ⟨g, 0, none⟩) m m) (by simp [results, Try.results58, go_sem]) rfl ⟨rfl, HR.out, HGR.out⟩
end Go.Proofs.Ytgbfaggnnfoamaa
