/- Part 43 of the proof: RChains. -/
import Derived.Test.YtjfdomfendbhfaaQb42
set_option linter.unusedVariables false
set_option linter.unusedSimpArgs false
namespace Go.Proofs.Ytjfdomfendbhfaa
open Go.RowKit
def allC (ws : List (List Int)) : Nat → List (List (List Int))
 | 0 => []
 | i + 1 => allC ws i ++ exts (chB ws i) ws
theorem chL_all (ws : List (List Int)) : ∀ i, chL ws i = ws.map oneB ++ allC ws i
 | 0 => by simp [chL, allC]
 | i + 1 => by rw [chL, chL_all ws i, allC, List.append_assoc]
theorem allC_pre (ws : List (List Int)) (i : Nat) : ∀ d, allC ws i <+: allC ws (i + d)
 | 0 => List.prefix_refl _
 | d + 1 => (allC_pre ws i d).trans (List.prefix_append _ _)
theorem allC_pre' (ws : List (List Int)) {i j : Nat} (h : i ≤ j) : allC ws i <+: allC ws j := by
 obtain ⟨d, rfl⟩ : ∃ d, j = i + d := ⟨j - i, by omega⟩
 exact allC_pre ws i d
theorem part_pre (ws : List (List Int)) {n m p : Nat} (hn : n ≤ m) (hp : p < (chB ws n).length) (r : Nat) : allC ws n ++ exts ((chB ws n).take p) ws ++ (ws.take r).map (fun u => (chB ws n)[p] ++ [u]) <+: allC ws (m + 1) := by
 refine List.IsPrefix.trans ?_ (allC_pre' ws (show n + 1 ≤ m + 1 by omega))
 rw [allC, List.append_assoc]
 exact List.prefix_append_right_inj _ |>.2 (exts_part hp r)
theorem take_of_pre {α : Type} {a b : List α} (h : a <+: b) {n : Nat} (hn : a.length = n) : a = b.take n := by rw [← hn]; exact List.prefix_iff_eq_take.1 h
theorem chB_all {ws : List (List Int)} (hw : 1 ≤ ws.length) {n : Nat} : (chB ws n).length ≤ ws.length + (allC ws n).length := by
 cases n with
 | zero => simp [chB, allC]
 | succ n =>
  rw [chB, allC, List.length_append, vW, vW, List.length_drop]
  have := Nat.mul_le_mul_left (chB ws n).length (show ws.length - 1 ≤ ws.length by omega)
  omega
theorem lX (l : List Int) : (strOfNums l).toList.isEmpty = l.isEmpty := by
 rw [ByteArray.toList_eq, strOfNums_data, Bool.eq_iff_iff, List.isEmpty_iff, List.isEmpty_iff, List.map_eq_nil_iff]
def tH (ws : List (List Int)) (r : Nat) : List (List Int) := (ws.take r).drop 1
theorem tailTo_one (ws : List (List Int)) : tH ws 1 = [] := by cases ws <;> simp [tH]
theorem kX (ws : List (List Int)) : tH ws 0 = [] := by simp [tH]
theorem tailTo_succ {ws : List (List Int)} {r : Nat} (h1 : 1 ≤ r) (h : r < ws.length) : tH ws (r + 1) = tH ws r ++ [ws[r]] := by
 rw [tH, List.take_succ_eq_append_getElem h, List.drop_append_of_le_length (by rw [List.length_take]; omega)]; rfl
theorem tailTo_all (ws : List (List Int)) : tH ws ws.length = ws.drop 1 := by rw [tH, List.take_length]
def nxP (b : Bool) (l : List (List (List Int))) : List (List (List Int)) := if b then l else []
def opP (ws : List (List Int)) (m n : Nat) : List (List (List Int)) := if n ≤ m then chB ws n else []
set_option maxRecDepth 100000 in
set_option maxHeartbeats 4000000 in
theorem rchains_any (B : Nat) (w : World) (v : Value) (ws : List (List Int)) (m : Nat) (hB : B ≤ w.heap.size) (h : RowT B 9 w v (strs ws)) (hm4 : m ≤ 4) (h2w : 2 ≤ ws.length) (hwl : ws.length ≤ 301) (hw0 : ws[0] = []) (hwn : ∀ r (h : r < ws.length), 1 ≤ r → ws[r] ≠ []) :
  Calls Try.prog 77 #[v, .int .i64 m] w (PatListed w ((allC ws (m + 1)).take 301)) := by
 obtain ⟨va, sc, rfl⟩ := h.row.shape
 rw [xG] at h ⊢
 obtain ⟨b, off, rfl, hc1, hc2⟩ := vZ h (by omega)
 have hc3 : sc ≤ 9223372036854775807 := by unfold maxLen at hc2; omega
 have HTB := Kh h
 have HWE : Hid (∀ r (h : r < ws.length), (strOfNums ws[r]).toList.isEmpty = decide (r = 0)) := Kh (fun r h => by
  rw [lX]
  by_cases h0 : r = 0
  ·subst h0; rw [hw0]; rfl
  ·rw [decide_eq_false h0, List.isEmpty_eq_false_iff]; exact hwn r h (by omega))
 obtain ⟨ba, hba⟩ : ∃ ba, ba = w.heap.size := ⟨_, rfl⟩
 have HBA := Kh hba
 have hbaw : w.heap.size ≤ ba := by omega
 have hBba : B ≤ ba := by omega
 obtain ⟨w1, hw1⟩ : ∃ w1, w1 = w.alloc (.cells #[] 26) := ⟨_, rfl⟩
 have hg1 : w.grownBy w1 none := by rw [hw1]; exact World.grownBy_alloc w _ none
 have hbk := heap_alloc_new w (.cells #[] 26)
 rw [← hw1, ← hba] at hbk
 have HL0 : Hid (LUp 26 ba w1 (.slice (some ⟨ba, 0, none⟩) 0 0) 0 [] []) := Kh ⟨mB hbk (Nat.le_refl _), wL.nil, by decide⟩
 have HW1 := Kh hw1
 have hT1 := h.kept hg1 (by simp)
 have hbz : ba ≤ w1.heap.size := by rw [hba]; exact hg1.size
 clear h hc2 hw0 hwn hba hw1 hbk
 go_enter Try.func77, Try.ntmps77
 go_upto_region 3 with fail
 rw [← HW1.out, ← HBA.out]
 go_wp2
 go_loopw [6, 18] (fun v i wr => ∃ (sb : Option Addr) (cb j : Nat) (svb : List Value), i = .int .i64 j ∧ j ≤ ws.length ∧ v = .slice sb j cb ∧
   LUp 26 ba wr (.slice sb j cb) j svb ((ws.take j).map oneB) ∧ RowT B 9 wr (.slice (some ⟨b, off, none⟩) ws.length sc) (strs ws) ∧ w.grownBy wr none ∧ ba ≤ wr.heap.size)
  (fun _ i _ => ws.length - (intOf i).toNat)
 case atStart => exact ⟨_, _, 0, _, rfl, Nat.zero_le _, rfl, by simpa using HL0.out, hT1, hg1, hbz⟩
 case round =>
  clear HL0 hT1 hg1 hbz
  obtain ⟨sb, cb, j, svb, rfl, hj, rfl, hlb, hT, hg, hbz⟩ := hrel
  obtain ⟨wo, rfl⟩ : ∃ wo : World, wo = wr := ⟨_, rfl⟩
  have HLB := Kh hlb
  clear hlb
  by_cases hlt : j < ws.length
  ·have hlt' : (j : Int) < ws.length := by omega
   have hcell := uE hT hlt
   obtain ⟨u, hu2⟩ : ∃ u, u = ws[j] := ⟨_, rfl⟩
   have HU := Kh hu2
   rw [← hu2] at hcell
   clear hu2
   have hgl := World.grownBy_alloc wo (.cells #[.string (strOfNums u)] 9) none
   have hol := (HLB.out.kept hgl (by simp)).own
   have hlit := World.ownsRow_lit (e := 9) (size := 1) wo #[.string (strOfNums u)] 1 (Nat.le_refl _) (by unfold maxLen; omega) (by simp)
   go_wp2_with (at_builtin; refine app1 rfl (.tmp 22) (.tmp 25) _ rfl elem_strs ba _ j svb rfl hol _ (by rw [zJ]; rfl) rfl ?c1 ?c2 ?c3 ?_)
   case c1 => unfold maxLen; omega
   case c2 => omega
   case c3 => (try rw [zJ]); omega
   intro sb' cb' w4 hown4 hg4 _
   obtain ⟨hp4, hg5⟩ := HLB.out.push (us := oneB u) hgl hlit hown4 hg4
   have hb4 := fun q (e : (Value.slice sb j cb).ownBlock = some q) => (HLB.out.own.lt q e).1
   have hT4 := hT.kept hg5 (fun q e => .inl (by have := hb4 q e; omega))
   have hg6 := zA hg hg5 (fun q e => by have := hb4 q e; omega)
   have hs6 := hg5.size
   have HP4 := Kh hp4
   clear hown4 hg4 hg5 hol hcell hp4 hT hgl hlit hb4
   go_wp2
   go_roundw
   case rel =>
    refine ⟨sb', cb', j + 1, svb ++ [Value.slice (some ⟨wo.heap.size, 0, none⟩) 1 1], by go_num, by omega, rfl, ?_, hT4, hg6, by omega⟩
    have e9 : ws[j]'hlt = u := HU.out.symm
    rw [nU oneB _ j hlt, e9]; exact HP4.out
   case measure => simp [intOf]; omega
  ·obtain rfl : j = ws.length := by omega
   rw [List.take_length] at HLB
   clear hlt
   have HBL : Hid (LRead wo.heap.size wo (.slice sb ws.length cb) svb (opP ws m 0)) := Kh (by rw [opP, if_pos (Nat.zero_le _)]; exact LRead.of HLB.out)
   have HNB : Hid (ws.length = (opP ws m 0).length) := Kh (by rw [opP, if_pos (Nat.zero_le _)]; simp [chB])
   have HLP : Hid (LUp 28 ba wo (.slice none 0 0) 0 [] (allC ws 0)) := Kh (LUp.nil (by decide) _ _)
   clear HLB
   go_wp2
   go_loopg [5, 6, 9, 10] (m + 1) (fun gh v5 v6 i v10 wx => ∃ (q n nb : Nat) (sl : Option Addr) (c : Nat) (svs : List Value) (sb : Option Addr) (cb : Nat) (svb : List Value), gh + q = m + 1 ∧ i = .int .i64 (q : Int) ∧ v5 = .slice sl n c ∧ v6 = .slice sb nb cb ∧
     LUp 28 ba wx (.slice sl n c) n svs (allC ws q) ∧ Hid (n ≤ 301) ∧ LRead wx.heap.size wx (.slice sb nb cb) svb (opP ws m q) ∧ Hid (nb = (opP ws m q).length) ∧ RowT B 9 wx (.slice (some ⟨b, off, none⟩) ws.length sc) (strs ws) ∧ w.grownBy wx none ∧ ba ≤ wx.heap.size)
   case atStart => exact ⟨0, 0, _, none, 0, [], sb, cb, svb, rfl, rfl, rfl, rfl, HLP.out, Kh (by omega), HBL.out, HNB, hT, hg, hbz⟩
   case round =>
    clear HLP HBL HNB hT hg hbz hj
    obtain ⟨q, n, nb, sl, c, svs, sb, cb, svb, hgh, rfl, rfl, rfl, hlp, hn301, hlr, hnb, hT, hg, hbz⟩ := hrel
    obtain ⟨wo, rfl⟩ : ∃ wo : World, wo = wr := ⟨_, rfl⟩
    have HGH := Kh hgh; have HLP := Kh hlp; have HLR := Kh hlr
    clear hgh hlp hlr
    by_cases hq : q ≤ m
    ·have hq' : (q : Int) ≤ (m : Int) := by omega
     have hOP : opP ws m q = chB ws q := by rw [opP, if_pos hq]
     rw [hOP] at HLR hnb
     have hnb1 : 1 ≤ nb := by rw [hnb.out]; exact chB_pos h2w q
     have hn3 := hn301.out
     have hnq := HLP.out.len
     have hnb2 : nb ≤ 700 := by
      have := chB_all (ws := ws) (by omega) (n := q)
      rw [hnb.out]; omega
     have HMEM : Hid (∀ bb ∈ chB ws q, bb.length = q + 1) := Kh (fun bb h => lC q h)
     have HPP : Hid (∀ p (hp : p < (chB ws q).length) r, allC ws q ++ exts ((chB ws q).take p) ws ++ (ws.take r).map (fun u => (chB ws q)[p] ++ [u]) <+: allC ws (m + 1)) := Kh (fun p hp r => part_pre ws hq hp r)
     have HBS : Hid (allC ws (q + 1) = allC ws q ++ exts (chB ws q) ws ∧ opP ws m (q + 1) = nxP (decide (q < m)) (exts (chB ws q) (ws.drop 1))) := Kh ⟨rfl, by
      by_cases hqm : q < m
      ·rw [opP, if_pos (by omega), decide_eq_true hqm]; rfl
      ·rw [opP, if_neg (by omega), decide_eq_false hqm]; rfl⟩
     obtain ⟨Bs, hBs⟩ : ∃ Bs, Bs = chB ws q := ⟨_, rfl⟩
     obtain ⟨L0, hL0⟩ : ∃ L0, L0 = allC ws q := ⟨_, rfl⟩
     obtain ⟨FU, hFU⟩ : ∃ FU, FU = allC ws (m + 1) := ⟨_, rfl⟩
     rw [← hBs] at HLR HMEM HBS hnb
     rw [← hL0] at HLP HBS
     have HPP2 : Hid (∀ p (hp : p < Bs.length) r, L0 ++ exts (Bs.take p) ws ++ (ws.take r).map (fun u => Bs[p] ++ [u]) <+: FU) := Kh (by
      intro p hp r
      have := HPP.out p (by rw [← hBs]; exact hp) r
      simp only [← hBs, ← hL0, ← hFU] at this
      exact this)
     rw [← hFU]
     have HFU := Kh hFU
     clear HPP hBs hL0 hFU hOP hn301 hnq
     obtain ⟨nq, hnq⟩ : ∃ nq, nq = decide (q < m) := ⟨_, rfl⟩
     rw [← hnq] at HBS
     have hqm : decide ((q : Int) < (m : Int)) = nq := by rw [hnq]; exact decide_eq_decide.2 (by omega)
     have HNQ := Kh hnq
     clear hnq
     obtain ⟨bb, bo, rfl, hbc1, hbc2⟩ := rowT_some HLR.out.row hnb1
     have hbc3 : cb ≤ 9223372036854775807 := by unfold maxLen at hbc2; omega
     have HNBL := hnb
     obtain ⟨BB, hBBe⟩ : ∃ BB, BB = wo.heap.size := ⟨_, rfl⟩
     have hBw : ba ≤ BB := by rw [hBBe]; exact hbz
     have hBo : BB ≤ wo.heap.size := by omega
     rw [← hBBe] at HLR
     have HNX : Hid (LUp 26 BB wo (.slice none 0 0) 0 [] (nxP nq (exts (Bs.take 0) (ws.drop 1)))) := Kh (by
      have : nxP nq (exts (Bs.take 0) (ws.drop 1)) = [] := by cases nq <;> simp [nxP, exts]
      rw [this]; exact LUp.nil (by decide) _ _)
     have HN3 := Kh hn3
     clear hBBe hbc2 hnb hbz hn3
     go_wp2
     go_loopw [5, 10, 35] (fun v5 v10 i wx => ∃ (p n nl : Nat) (sl : Option Addr) (c : Nat) (svs : List Value) (sg : Option Addr) (cg : Nat) (svg : List Value), i = .int .i64 p ∧ p ≤ nb ∧ v5 = .slice sl n c ∧ v10 = .slice sg nl cg ∧
       LUp 28 ba wx (.slice sl n c) n svs (L0 ++ exts (Bs.take p) ws) ∧ LUp 26 BB wx (.slice sg nl cg) nl svg (nxP nq (exts (Bs.take p) (ws.drop 1))) ∧ Hid (n ≤ 301) ∧ LRead BB wx (.slice (some ⟨bb, bo, none⟩) nb cb) svb Bs ∧ RowT B 9 wx (.slice (some ⟨b, off, none⟩) ws.length sc) (strs ws) ∧ w.grownBy wx none ∧ BB ≤ wx.heap.size)
      (fun _ _ i _ => nb - (intOf i).toNat)
     case atStart => exact ⟨0, n, 0, sl, c, svs, none, 0, [], rfl, Nat.zero_le _, rfl, rfl, by simpa [exts] using HLP.out, HNX.out, HN3, HLR.out, hT, hg, hBo⟩
     case round =>
      clear HLP HNX HLR hT hg hBo HN3
      obtain ⟨p, n, nl, sl, c, svs, sg, cg, svg, rfl, hp, rfl, rfl, hlp, hlg, hn3, hlr, hT, hg, hBo⟩ := hrel
      obtain ⟨wo, rfl⟩ : ∃ wo : World, wo = wr := ⟨_, rfl⟩
      have HLP := Kh hlp; have HLG := Kh hlg; have HLR := Kh hlr
      clear hlp hlg hlr
      by_cases hlt : p < nb
      ·have hlt' : (p : Int) < (nb : Int) := by omega
       have hpB : p < Bs.length := by rw [← HNBL.out]; exact hlt
       obtain ⟨ra, rc, hbc, hbr⟩ := HLR.out.at HNBL.out hlt
       have hmb := HMEM.out _ (List.getElem_mem hpB)
       obtain ⟨bl, hbl⟩ : ∃ bl, bl = Bs[p]'hpB := ⟨_, rfl⟩
       have HBL := Kh hbl
       rw [← hbl] at hbc hbr hmb
       obtain ⟨bn, hbn⟩ : ∃ bn, bn = bl.length := ⟨_, rfl⟩
       rw [← hbn] at hbc hbr
       have HBN := Kh hbn
       have hbn5 : bn ≤ 100 := by omega
       have HONE : Hid (∀ x ∈ strs bl, x.oneCell' = true) := Kh (fun x hx => by
        obtain ⟨y, _, rfl⟩ := List.mem_map.1 hx; rfl)
       clear hbl hbn hmb
       go_wp2
       go_loopw [5, 10, 41] (fun v5 v10 i wx => ∃ (r n nl : Nat) (sl : Option Addr) (c : Nat) (svs : List Value) (sg : Option Addr) (cg : Nat) (svg : List Value), i = .int .i64 r ∧ r ≤ ws.length ∧ v5 = .slice sl n c ∧ v10 = .slice sg nl cg ∧
         LUp 28 ba wx (.slice sl n c) n svs (L0 ++ exts (Bs.take p) ws ++ (ws.take r).map (fun u => bl ++ [u])) ∧ LUp 26 BB wx (.slice sg nl cg) nl svg (nxP nq (exts (Bs.take p) (ws.drop 1) ++ (tH ws r).map (fun u => bl ++ [u]))) ∧ Hid (n ≤ 301) ∧ LRead BB wx (.slice (some ⟨bb, bo, none⟩) nb cb) svb Bs ∧ RowT BB 9 wx (.slice ra bn rc) (strs bl) ∧ RowT B 9 wx (.slice (some ⟨b, off, none⟩) ws.length sc) (strs ws) ∧ w.grownBy wx none ∧ BB ≤ wx.heap.size)
        (fun _ _ i _ => ws.length - (intOf i).toNat)
       case atStart => exact ⟨0, n, nl, sl, c, svs, sg, cg, svg, rfl, Nat.zero_le _, rfl, rfl, by simpa using HLP.out, by simpa [kX] using HLG.out, hn3, HLR.out, hbr, hT, hg, hBo⟩
       case round =>
        clear HLP HLG HLR hT hg hBo hbr hbc hn3
        obtain ⟨r, n, nl, sl, c, svs, sg, cg, svg, rfl, hr, rfl, rfl, hlp, hlg, hn3, hlr, hbr, hT, hg, hBo⟩ := hrel
        obtain ⟨wo, rfl⟩ : ∃ wo : World, wo = wr := ⟨_, rfl⟩
        have HLP := Kh hlp; have HLG := Kh hlg; have HLR := Kh hlr
        have hn301 := hn3.out
        have hnl : nl ≤ 1000 := by
         have h1 := hlg.len
         have h2 := hlp.len
         have h3 : (nxP nq (exts (Bs.take p) (ws.drop 1) ++ (tH ws r).map (fun u => bl ++ [u]))).length ≤ (exts (Bs.take p) ws).length + r := by
          cases nq with
          | false => simp [nxP]
          | true =>
           show (exts (Bs.take p) (ws.drop 1) ++ (tH ws r).map (fun u => bl ++ [u])).length ≤ _
           have h4 : (tH ws r).length ≤ r := by rw [tH, List.length_drop, List.length_take]; omega
           rw [List.length_append, List.length_map, vW, vW, List.length_drop]
           have := Nat.mul_le_mul_left (Bs.take p).length (show ws.length - 1 ≤ ws.length by omega)
           omega
         simp only [List.length_append, List.length_map] at h2
         omega
        clear hlp hlg hlr
        by_cases hlr : r < ws.length
        ·have hlr' : (r : Int) < ws.length := by omega
         have hcell := uE hT hlr
         have hemp := HWE.out r hlr
         obtain ⟨u, hu2⟩ : ∃ u, u = ws[r] := ⟨_, rfl⟩
         have HU := Kh hu2
         rw [← hu2] at hcell hemp
         clear hu2
         by_cases hfull : 300 < n
         ·have hfull' : (300 : Int) < n := by omega
          have hl := HLP.out.len
          have hpre := HPP2.out p hpB r
          rw [← HBL.out] at hpre
          have e1 := take_of_pre hpre (n := 301) (by omega)
          have HL := Kh hl; have HE1 := Kh e1
          clear e1 hl hpre hemp
          go_wp2
          go_ret
          rw [← HE1.out]
          exact ⟨sl, c, svs, by rw [← HL.out]; rfl, by rw [← HL.out]; exact RowT.of_owns HLP.out.own, HLP.out.rows, hg⟩
         have hfull' : ¬ (300 : Int) < n := by omega
         have hge := World.grownBy_alloc wo (.cells #[] 9) none
         have hbe := heap_alloc_new wo (.cells #[] 9)
         obtain ⟨we, hwe⟩ : ∃ we, we = wo.alloc (.cells #[] 9) := ⟨_, rfl⟩
         have hoe := mB (base := wo.heap.size) hbe (Nat.le_refl _)
         have hbre := hbr.kept hge (by simp)
         go_wp2_with (at_builtin; refine appR rfl (.tmp 50) (.tmp 51) _ rfl qX wo.heap.size _ 0 [] rfl hoe _ (strs bl) rfl ⟨_, hbre.row⟩ HONE.out bn ?a1 ?a2 ?a3 hge.size ?_)
         case a1 => rw [xG, ← HBN.out] <;> omega
         case a2 => unfold maxLen; omega
         case a3 => omega
         intro s2 c2 w2 hown2 hg2
         try rw [List.nil_append] at hown2
         have hg02 := zA hge hg2 (fun q e => (hoe.lt q e).1)
         go_wp2_with (at_builtin; refine app1 rfl (.tmp 52) (.tmp 54) _ rfl qX wo.heap.size _ bn (strs bl) rfl hown2 _ rfl rfl ?c1 ?c2 ?c3 ?_)
         case c1 => unfold maxLen; omega
         case c2 => omega
         case c3 => exact hg02.size
         intro s4 c4 w4 hown4 hg4 _
         have hg04 := zA hg02 hg4 (fun q e => (hown2.lt q e).1)
         rw [strs_snoc] at hown4
         clear hge hbe hoe hbre hown2 hg2 hg02 hg4 hwe we
         have hL4 := HLP.out.kept hg04 (by simp)
         go_wp2_with (at_builtin; refine app1 rfl (.tmp 49) (.tmp 57) _ rfl yN ba _ n svs rfl hL4.own _ rfl rfl ?c1 ?c2 ?c3 ?_)
         case c1 => unfold maxLen; omega
         case c2 => omega
         case c3 => have := hg04.size; omega
         intro sl5 c5 w5 hown5 hg5 _
         obtain ⟨hp5, hg6⟩ := HLP.out.push (us := bl ++ [u]) hg04 hown4 hown5 hg5
         have hb5 := fun q (e : (Value.slice sl n c).ownBlock = some q) => (HLP.out.own.lt q e).1
         have hot := yB HLP.out.own (e' := 9) (by decide)
         have hot2 := yB HLP.out.own (e' := 26) (by decide)
         have hT5 := hT.kept hg6 (fun q e => .inr (hot q e))
         have hbr5 := hbr.kept hg6 (fun q e => .inr (hot q e))
         have HLR5 := Kh (HLR.out.kept hg6 (fun q e => .inr ⟨hot2 q e, hot q e⟩))
         have HLG5 := Kh (HLG.out.kept hg6 (fun q e => .inr ⟨hot q e, hot2 q e⟩))
         have hg7 := zA hg hg6 (fun q e => by have := hb5 q e; omega)
         have hs7 := hg6.size
         have HP5 : Hid (LUp 28 ba w5 (.slice sl5 (n + 1) c5) (n + 1) (svs ++ [Value.slice s4 (bn + 1) c4]) (L0 ++ exts (Bs.take p) ws ++ (ws.take (r + 1)).map (fun u => bl ++ [u]))) := Kh (by
          have e9 : ws[r]'hlr = u := HU.out.symm
          rw [nU (fun u => bl ++ [u]) _ r hlr, e9, ← List.append_assoc]; exact hp5)
         have HN5 : Hid (n + 1 ≤ 301) := Kh (by omega)
         clear hown4 hown5 hg04 hg5 hg6 hL4 hcell hp5 hT hbr hot hot2 hb5 HLP HLR HLG hg hn3
         cases nq with
         | false =>
          have hqm' : ¬ (q : Int) < (m : Int) := of_decide_eq_false hqm
          cases hdd : decide (r = 0) with
          | true =>
           rw [hdd] at hemp
           go_wp2
           go_roundw
           case rel =>
            exact ⟨r + 1, n + 1, nl, sl5, c5, svs ++ [Value.slice s4 (bn + 1) c4], sg, cg, svg, by go_num, by omega, rfl, rfl, HP5.out, HLG5.out, HN5, HLR5.out, hbr5, hT5, hg7, by omega⟩
           case measure => simp [intOf]; omega
          | false =>
           rw [hdd] at hemp
           go_wp2
           go_roundw
           case rel =>
            exact ⟨r + 1, n + 1, nl, sl5, c5, svs ++ [Value.slice s4 (bn + 1) c4], sg, cg, svg, by go_num, by omega, rfl, rfl, HP5.out, HLG5.out, HN5, HLR5.out, hbr5, hT5, hg7, by omega⟩
           case measure => simp [intOf]; omega
         | true =>
          have hqm' : (q : Int) < (m : Int) := of_decide_eq_true hqm
          by_cases hr0 : r = 0
          ·have HG0 : Hid (nxP true (exts (Bs.take p) (ws.drop 1) ++ (tH ws (r + 1)).map (fun u => bl ++ [u])) = nxP true (exts (Bs.take p) (ws.drop 1) ++ (tH ws r).map (fun u => bl ++ [u]))) := Kh (by rw [hr0, kX, tailTo_one])
           rw [decide_eq_true hr0] at hemp
           go_wp2
           go_roundw
           case rel =>
            exact ⟨r + 1, n + 1, nl, sl5, c5, svs ++ [Value.slice s4 (bn + 1) c4], sg, cg, svg, by go_num, by omega, rfl, rfl, HP5.out, by rw [HG0.out]; exact HLG5.out, HN5, HLR5.out, hbr5, hT5, hg7, by omega⟩
           case measure => simp [intOf]; omega
          ·have hemp2 : (strOfNums u).toList.isEmpty = false := by rw [hemp]; exact decide_eq_false hr0
           clear hemp
           obtain ⟨wo2, rfl⟩ : ∃ wo2 : World, wo2 = w5 := ⟨_, rfl⟩
           have hbr := hbr5
           have hge := World.grownBy_alloc wo2 (.cells #[] 9) none
           have hbe := heap_alloc_new wo2 (.cells #[] 9)
           obtain ⟨we, hwe⟩ : ∃ we, we = wo2.alloc (.cells #[] 9) := ⟨_, rfl⟩
           have hoe := mB (base := wo2.heap.size) hbe (Nat.le_refl _)
           have hbre := hbr.kept hge (by simp)
           go_wp2_with (at_builtin; refine appR rfl (.tmp 67) (.tmp 68) _ rfl qX wo2.heap.size _ 0 [] rfl hoe _ (strs bl) rfl ⟨_, hbre.row⟩ HONE.out bn ?a1 ?a2 ?a3 hge.size ?_)
           case a1 => rw [xG, ← HBN.out] <;> omega
           case a2 => unfold maxLen; omega
           case a3 => omega
           intro s2 c2 w2 hown2 hg2
           try rw [List.nil_append] at hown2
           have hg02 := zA hge hg2 (fun q e => (hoe.lt q e).1)
           go_wp2_with (at_builtin; refine app1 rfl (.tmp 69) (.tmp 71) _ rfl qX wo2.heap.size _ bn (strs bl) rfl hown2 _ rfl rfl ?c1 ?c2 ?c3 ?_)
           case c1 => unfold maxLen; omega
           case c2 => omega
           case c3 => exact hg02.size
           intro s8 c8 w8 hown8 hg8 _
           have hg08 := zA hg02 hg8 (fun q e => (hown2.lt q e).1)
           rw [strs_snoc] at hown8
           clear hge hbe hoe hbre hown2 hg2 hg02 hg8 hwe we
           have hL8 := HLG5.out.kept hg08 (by simp)
           go_wp2_with (at_builtin; refine app1 rfl (.tmp 66) (.tmp 73) _ rfl elem_strs BB _ nl svg rfl hL8.own _ rfl rfl ?c1 ?c2 ?c3 ?_)
           case c1 => unfold maxLen; omega
           case c2 => omega
           case c3 => have := hg08.size; omega
           intro sg9 c9 w9 hown9 hg9 _
           obtain ⟨hp9, hg10⟩ := HLG5.out.push (us := bl ++ [u]) hg08 hown8 hown9 hg9
           have hb9 := fun q (e : (Value.slice sg nl cg).ownBlock = some q) => (HLG5.out.own.lt q e).1
           have hot := yB HLG5.out.own (e' := 9) (by decide)
           have hot2 := yB HLG5.out.own (e' := 28) (by decide)
           have hT9 := hT5.kept hg10 (fun q e => .inr (hot q e))
           have hbr9 := hbr5.kept hg10 (fun q e => .inr (hot q e))
           have HLP9 := Kh (HP5.out.kept hg10 (fun q e => .inr ⟨hot q e, hot2 q e⟩))
           have HLR9 := Kh (HLR5.out.kept hg10 (fun q e => .inl (by have := hb9 q e; omega)))
           have hg11 := zA hg7 hg10 (fun q e => by have := hb9 q e; omega)
           have hs11 := hg10.size
           have HP9 : Hid (LUp 26 BB w9 (.slice sg9 (nl + 1) c9) (nl + 1) (svg ++ [Value.slice s8 (bn + 1) c8]) (nxP true (exts (Bs.take p) (ws.drop 1) ++ (tH ws (r + 1)).map (fun u => bl ++ [u])))) := Kh (by
            have e9 : ws[r]'hlr = u := HU.out.symm
            rw [tailTo_succ (by omega) hlr, e9, List.map_append, ← List.append_assoc]; exact hp9)
           clear hown8 hown9 hg08 hg9 hg10 hL8 hp9 hT5 hbr5 hot hot2 hb9 HLG5 HLR5 HP5 hg7 hbr
           go_wp2
           go_roundw
           case rel =>
            exact ⟨r + 1, n + 1, nl + 1, sl5, c5, svs ++ [Value.slice s4 (bn + 1) c4], sg9, c9, svg ++ [Value.slice s8 (bn + 1) c8], by go_num, by omega, rfl, rfl, HLP9.out, HP9.out, HN5, HLR9.out, hbr9, hT9, hg11, by omega⟩
           case measure => simp [intOf]; omega
        ·obtain rfl : r = ws.length := by omega
         rw [List.take_length, List.append_assoc, HBL.out, ← iB hpB] at HLP
         rw [tailTo_all, HBL.out, ← iB hpB] at HLG
         go_wp2
         go_roundw
         case rel => exact ⟨p + 1, n, nl, sl, c, svs, sg, cg, svg, by go_num, by omega, rfl, rfl, HLP.out, HLG.out, hn3, HLR.out, hT, hg, hBo⟩
         case measure => simp [intOf]; omega
      ·obtain rfl : p = nb := by omega
       rw [HNBL.out, List.take_length] at HLP HLG
       rw [← HBS.out.1] at HLP
       rw [← HBS.out.2] at HLG
       have HLGR := Kh (LRead.of HLG.out)
       have HNL := Kh HLG.out.len
       clear hlt
       go_wp2
       go_roundg (m + 1 - (q + 1))
       case measure => have := HGH.out; omega
       case rel => exact ⟨q + 1, n, nl, sl, c, svs, sg, cg, svg, by have := HGH.out; omega, by go_num, rfl, rfl, HLP.out, hn3, HLGR.out, HNL, hT, hg, by omega⟩
    ·obtain rfl : q = m + 1 := by have := HGH.out; omega
     have hq' : ¬ ((m + 1 : Nat) : Int) ≤ (m : Int) := by omega
     have hl := HLP.out.len
     have e1 : (allC ws (m + 1)).take 301 = allC ws (m + 1) := List.take_of_length_le (by rw [← hl]; exact hn301.out)
     have HE1 := Kh e1
     clear e1
     go_wp2
     go_ret
     rw [HE1.out]
     exact ⟨sl, c, svs, by rw [← hl]; rfl, by rw [← hl]; exact RowT.of_owns HLP.out.own, HLP.out.rows, hg⟩
end Go.Proofs.Ytjfdomfendbhfaa
