/- Part 11 of the proof: Chains. -/
import Derived.Test.YtgbfaggnnfoamaaZf10
set_option linter.unusedVariables false
set_option linter.unusedSimpArgs false
namespace Go.Proofs.Ytgbfaggnnfoamaa
open Go.RowKit
set_option maxRecDepth 100000 in
set_option maxHeartbeats 4000000 in
theorem chains_any (letters k m : Nat) (w : World) (h1 : 1 ≤ letters) (h6 : letters ≤ 6) (hk : k ≤ 8) (hm4 : m ≤ 4) (hN : (chL (upTo letters (k + 1)) (m + 1)).length ≤ 1000) (h2w : 2 ≤ (upTo letters (k + 1)).length) :
  Calls Try.prog 28 #[.int .i64 letters, .int .i64 k, .int .i64 m] w (yS w (chL (upTo letters (k + 1)) (m + 1))) := by
 obtain ⟨ws, hws⟩ : ∃ ws, ws = upTo letters (k + 1) := ⟨_, rfl⟩
 rw [← hws] at hN h2w ⊢
 have HW_ws := Kh hws
 have HCA := Kh (yH letters k w h1 h6 hk)
 rw [← hws] at HCA
 have hw1 : 1 ≤ ws.length := by omega
 have hwl : ws.length ≤ 1000 := by
  have := (vN ws 0 (m + 1)).length_le
  rw [Nat.zero_add] at this
  have e : (chL ws 0).length = ws.length := by simp [chL]
  omega
 have HLE : Hid (∀ i, i ≤ m + 1 → (chL ws i).length ≤ 1000) := Kh (fun i hi => by
  have := (vN ws i (m + 1 - i)).length_le
  rw [show i + (m + 1 - i) = m + 1 by omega] at this
  omega)
 clear hws hN
 go_enter Try.func28, Try.ntmps28
 go_wp2_with fail
 refine HCA.out.mono ?_
 rintro e w1 ⟨sa, sc, rfl, hrow, hg1⟩
 obtain ⟨b, off, rfl, hc1, hc2⟩ := zS hrow (by omega)
 have HZ1 := Kh hg1.size
 have hd3 : (1 : Int) < sc := by omega
 have hc3 : sc ≤ 9223372036854775807 := by unfold maxLen at hc2; omega
 clear HCA hc2
 go_wp2
 go_loopw [8, 28] (fun v i wr => ∃ (sl : Option Addr) (c j : Nat) (svs : List Value), i = .int .i64 j ∧ j ≤ ws.length ∧ v = .slice sl j c ∧
   PatsUp w1.heap.size wr v j svs ([] ++ ((ws.drop 0).take j).map oneB) ∧ RowT w1.heap.size 9 wr (.slice (some ⟨b, off, none⟩) ws.length sc) (strs ws) ∧ w.grownBy wr none ∧ w1.heap.size ≤ wr.heap.size)
  (fun _ i _ => ws.length - (intOf i).toNat)
 case atStart => exact ⟨_, _, 0, _, rfl, Nat.zero_le _, rfl, by simpa using PatsUp.nil _ _, hrow, hg1, Nat.le_refl _⟩
 case round =>
  clear hrow hg1
  obtain ⟨sl, c, j, svs, rfl, hj, rfl, hpu, hT, hg, hs⟩ := hrel
  have HPU := Kh hpu
  clear hpu
  by_cases hlt : j < ws.length
  ·have hlt' : (j : Int) < ((ws.length : Nat) : Int) := by omega
   have hcell : wr.cell? ⟨b, off + j, none⟩ = some (.string (strOfNums ws[j])) := by
    have := zL hT (i := j) (by omega)
    exact this
   have hu := yA (letters := letters) (n := k + 1) (by omega) (u := ws[j]) (by rw [← HW_ws.out]; exact List.getElem_mem (by omega))
   obtain ⟨u, hu2⟩ : ∃ u, u = ws[j] := ⟨_, rfl⟩
   have HU := Kh hu2
   rw [← hu2] at hu hcell
   clear hu2
   have hol := HPU.out.own.alloc (.cells #[.string (strOfNums u)] 9)
   go_wp2_with (at_builtin; refine app1 rfl (.tmp 32) (.tmp 36) _ rfl zG w1.heap.size _ j svs rfl hol _ (by rw [zB]; rfl) rfl ?c1 ?c2 ?c3 ?_)
   case c1 => unfold maxLen; omega
   case c2 => omega
   case c3 => rw [zB]; have := hg.size; have := HZ1.out; omega
   intro sl' c' w3 hown3 hg3 _
   obtain ⟨hp3, hg4⟩ := HPU.out.push (us := oneB u) (cs := #[.string (strOfNums u)]) (q := 1) rfl rfl (by unfold maxLen; omega) hown3 hg3
   have hb3 := fun q (e : (Value.slice sl j c).ownBlock = some q) => (HPU.out.own.lt q e).1
   have hT3 := hT.kept hg4 (fun q e => .inr (zH HPU.out.own (by decide) q e))
   have hg5 := zA hg hg4 (fun q e => by have := hb3 q e; have := HZ1.out; omega)
   have hs5 := hg4.size
   have HP3 := Kh hp3
   clear hown3 hg3 hol hcell hg4 hp3 hT
   go_wp2
   go_roundw
   case rel =>
    refine ⟨sl', c', j + 1, svs ++ [Value.slice (some ⟨wr.heap.size, 0, none⟩) 1 1], by go_num, by omega, rfl, ?_, hT3, hg5, by omega⟩
    have e7 : [] ++ ((ws.drop 0).take (j + 1)).map oneB = ([] ++ ((ws.drop 0).take j).map oneB) ++ [oneB u] := by
     have e9 : (ws.drop 0)[j]'(by rw [List.length_drop]; omega) = u := by rw [HU.out]; simp
     rw [zI oneB _ j (by rw [List.length_drop]; omega), e9]; simp only [List.append_assoc]
    rw [e7]; exact HP3.out
   case measure => simp [intOf]; omega
  ·obtain rfl : j = ws.length := by omega
   have e8 : [] ++ ((ws.drop 0).take (ws.length)).map oneB = [] ++ (ws.drop 0).map oneB := by rw [List.take_of_length_le (by rw [List.length_drop]; omega)]
   rw [e8] at HPU
   clear e8 hlt
   have HPL := Kh (LUp.ofPats HPU.out)
   rw [List.drop_zero, List.nil_append] at HPL
   obtain ⟨n8, hn8⟩ : ∃ n, n = ws.length := ⟨_, rfl⟩
   clear HPU
   go_wp2_with (at_make; refine make0 rfl _ _ _ rfl wH .i64 .i64 _ ws.length rfl rfl ?m1 ?m2 ?m3 ?_)
   case m1 => rfl
   case m2 => omega
   case m3 => unfold maxLen; omega
   intro w3 hown3 hg3
   have HPL3 := Kh (HPL.out.kept hg3 (by simp))
   have HB3 : Hid (LUp 34 wr.heap.size w3 (.slice (some ⟨wr.heap.size, 0, none⟩) 0 ws.length) 0 [] []) := Kh ⟨hown3, RowsT.nil, by decide⟩
   have hT3 := hT.kept hg3 (by simp)
   have hg03 := zA hg hg3 (by simp)
   have hs3 : w1.heap.size ≤ w3.heap.size := Nat.le_trans hs hg3.size
   obtain ⟨base, hbase⟩ : ∃ base, base = wr.heap.size := ⟨_, rfl⟩
   have hbz : base ≤ w3.heap.size := by rw [hbase]; exact hg3.size
   have hwb : w.heap.size ≤ base := by rw [hbase]; exact hg.size
   rw [← hbase] at HB3 ⊢
   clear hown3 hg3 hT hg hs HPL hbase
   go_wp2
   go_loopw [11, 44] (fun v i wq => ∃ (sb : Option Addr) (cb j : Nat) (svb : List Value), i = .int .i64 j ∧ j ≤ ws.length ∧ v = .slice sb j cb ∧
     LUp 34 base wq v j svb ((ws.take j).map oneB) ∧ LUp 36 w1.heap.size wq (.slice sl ws.length c) ws.length svs (ws.map oneB) ∧ RowT w1.heap.size 9 wq (.slice (some ⟨b, off, none⟩) ws.length sc) (strs ws) ∧ w.grownBy wq none ∧ base ≤ wq.heap.size ∧ w1.heap.size ≤ wq.heap.size)
    (fun _ i _ => ws.length - (intOf i).toNat)
   case atStart => exact ⟨_, _, 0, _, rfl, Nat.zero_le _, rfl, by simpa using HB3.out, HPL3.out, hT3, hg03, hbz, hs3⟩
   case round =>
    clear HB3 HPL3 hT3 hg03 hbz hs3
    obtain ⟨sb, cb, j, svb, rfl, hj, rfl, hlb, hlp, hT, hg, hbz, hs⟩ := hrel
    obtain ⟨wo, rfl⟩ : ∃ wo : World, wo = wr := ⟨_, rfl⟩
    have HLB := Kh hlb; have HLP := Kh hlp
    clear hlb hlp
    by_cases hlt : j < ws.length
    ·have hlt' : (j : Int) < ws.length := by omega
     have hcell := zL hT hlt
     have hu := yA (letters := letters) (n := k + 1) (by omega) (u := ws[j]) (by rw [← HW_ws.out]; exact List.getElem_mem hlt)
     obtain ⟨u, hu2⟩ : ∃ u, u = ws[j] := ⟨_, rfl⟩
     have HU := Kh hu2
     rw [← hu2] at hu hcell
     clear hu2
     have hgl := World.grownBy_alloc wo (.cells #[.string (strOfNums u)] 9) none
     have hol := (HLB.out.kept hgl (by simp)).own
     have hlit := World.ownsRow_lit (e := 9) (size := 1) wo #[.string (strOfNums u)] 1 (Nat.le_refl _) (by unfold maxLen; omega) (by simp)
     go_wp2_with (at_builtin; refine app1 rfl (.tmp 48) (.tmp 51) _ rfl wH base _ j svb rfl hol _ (by rw [zB]; rfl) rfl ?c1 ?c2 ?c3 ?_)
     case c1 => unfold maxLen; omega
     case c2 => omega
     case c3 => (try rw [zB]); omega
     intro sb' cb' w4 hown4 hg4 _
     obtain ⟨hp4, hg5⟩ := HLB.out.push (us := oneB u) hgl hlit hown4 hg4
     have hb4 := fun q (e : (Value.slice sb j cb).ownBlock = some q) => (HLB.out.own.lt q e).1
     have hot := zH HLB.out.own (e' := 9) (by decide)
     have hot2 := zH HLB.out.own (e' := 36) (by decide)
     have hT4 := hT.kept hg5 (fun q e => .inr (hot q e))
     have HLP4 := Kh (HLP.out.kept hg5 (fun q e => .inr ⟨hot q e, hot2 q e⟩))
     have hg6 := zA hg hg5 (fun q e => by have := hb4 q e; omega)
     have hs6 := hg5.size
     have HP4 := Kh hp4
     clear hown4 hg4 hg5 hol hcell hp4 hT hgl hlit hot hot2 hb4
     go_wp2
     go_roundw
     case rel =>
      refine ⟨sb', cb', j + 1, svb ++ [Value.slice (some ⟨wo.heap.size, 0, none⟩) 1 1], by go_num, by omega, rfl, ?_, HLP4.out, hT4, hg6, by omega, by omega⟩
      have e9 : ws[j]'hlt = u := HU.out.symm
      rw [zI oneB _ j hlt, e9]; exact HP4.out
     case measure => simp [intOf]; omega
    ·obtain rfl : j = ws.length := by omega
     rw [List.take_length] at HLB
     clear hlt
     have HBL := Kh (LRead.of HLB.out)
     have hnb : ws.length = (chB ws 0).length := by simp [chB]
     have hN0 : chL ws 0 = ws.map oneB := rfl
     have hB0 : chB ws 0 = ws.map oneB := rfl
     rw [← hN0] at HLP
     rw [← hB0] at HBL
     have HNB := Kh hnb
     clear hN0 hB0 HLB hnb
     go_wp2
     go_loopg [8, 11, 56] (m + 1) (fun gh v8 v11 i wx => ∃ (q n nb : Nat) (sl : Option Addr) (c : Nat) (svs : List Value) (sb : Option Addr) (cb : Nat) (svb : List Value), gh + q = m + 1 ∧ i = .int .i64 q ∧ v8 = .slice sl n c ∧ v11 = .slice sb nb cb ∧
       LUp 36 w1.heap.size wx (.slice sl n c) n svs (chL ws q) ∧ LRead wx.heap.size wx (.slice sb nb cb) svb (chB ws q) ∧ Hid (nb = (chB ws q).length) ∧ RowT w1.heap.size 9 wx (.slice (some ⟨b, off, none⟩) ws.length sc) (strs ws) ∧ w.grownBy wx none ∧ w1.heap.size ≤ wx.heap.size)
     case atStart => exact ⟨0, _, _, sl, c, svs, sb, cb, svb, rfl, rfl, rfl, rfl, HLP.out, HBL.out, HNB, hT, hg, hs⟩
     case round =>
      clear HLP HBL HNB hT hg hs hbz hwb
      obtain ⟨q, n, nb, sl, c, svs, sb, cb, svb, hgh, rfl, rfl, rfl, hlp, hlr, hnb, hT, hg, hs⟩ := hrel
      obtain ⟨wo, rfl⟩ : ∃ wo : World, wo = wr := ⟨_, rfl⟩
      have HGH := Kh hgh; have HLP := Kh hlp; have HLR := Kh hlr
      clear hgh hlp hlr
      by_cases hq : q < m + 1
      ·have hq' : (q : Int) < (m : Int) + 1 := by omega
       have hq5 : q ≤ 4 := by omega
       have hnb1 : 1 ≤ nb := by rw [hnb.out]; exact vS h2w q
       have hbl := chB_le hw1 q
       have hcl := HLE.out q (by omega)
       have hcl2 := HLE.out (q + 1) (by omega)
       have HMEM : Hid (∀ bb ∈ chB ws q, bb.length = q + 1) := Kh (fun bb h => wQ q h)
       obtain ⟨Bs, hBs⟩ : ∃ Bs, Bs = chB ws q := ⟨_, rfl⟩
       obtain ⟨L0, hL0⟩ : ∃ L0, L0 = chL ws q := ⟨_, rfl⟩
       have HCL2 : Hid ((L0 ++ exts Bs ws).length ≤ 1000) := Kh (by rw [hL0, hBs]; exact hcl2)
       have HXL : Hid ((exts Bs (ws.drop 1)).length ≤ 1000) := Kh (by rw [hBs]; omega)
       have hnb2 : nb ≤ 1000 := by rw [hnb.out]; omega
       have HNBL : Hid (nb = Bs.length) := Kh (by rw [hBs]; exact hnb.out)
       have HBS : Hid (chB ws (q + 1) = exts Bs (ws.drop 1) ∧ chL ws (q + 1) = L0 ++ exts Bs ws) := Kh (by rw [hBs, hL0]; exact ⟨rfl, rfl⟩)
       rw [← hBs] at HLR HMEM
       rw [← hL0] at HLP
       clear hbl hcl hcl2 hBs hL0 hnb
       obtain ⟨bb, bo, rfl, hbc1, hbc2⟩ := rowT_some HLR.out.row hnb1
       have hbc3 : cb ≤ 9223372036854775807 := by unfold maxLen at hbc2; omega
       have hBB := Kh hs
       obtain ⟨BB, hBBe⟩ : ∃ BB, BB = wo.heap.size := ⟨_, rfl⟩
       have hBw : w1.heap.size ≤ BB := by rw [hBBe]; exact hs
       have hBo : BB ≤ wo.heap.size := by omega
       rw [← hBBe] at HLR
       have hn1 := HLP.out.len
       clear hBBe hbc2
       go_wp2
       go_loopw [8, 60] (fun v8 i wx => ∃ (p n : Nat) (sl : Option Addr) (c : Nat) (svs : List Value), i = .int .i64 p ∧ p ≤ nb ∧ v8 = .slice sl n c ∧
         LUp 36 w1.heap.size wx (.slice sl n c) n svs (L0 ++ exts (Bs.take p) ws) ∧ LRead BB wx (.slice (some ⟨bb, bo, none⟩) nb cb) svb Bs ∧ RowT w1.heap.size 9 wx (.slice (some ⟨b, off, none⟩) ws.length sc) (strs ws) ∧ w.grownBy wx none ∧ BB ≤ wx.heap.size)
        (fun _ i _ => nb - (intOf i).toNat)
       case atStart => exact ⟨0, n, sl, c, svs, rfl, Nat.zero_le _, rfl, by simpa [exts] using HLP.out, HLR.out, hT, hg, hBo⟩
       case round =>
        clear HLP HLR hT hg hs hBo hn1 hBB
        obtain ⟨p, n, sl, c, svs, rfl, hp, rfl, hlp, hlr, hT, hg, hBo⟩ := hrel
        obtain ⟨wo, rfl⟩ : ∃ wo : World, wo = wr := ⟨_, rfl⟩
        have HLP := Kh hlp; have HLR := Kh hlr
        clear hlp hlr
        by_cases hlt : p < nb
        ·have hlt' : (p : Int) < (nb : Int) := by omega
         have hpB : p < Bs.length := by rw [← HNBL.out]; exact hlt
         obtain ⟨ra, rc, hbc, hbr⟩ := HLR.out.at HNBL.out hlt
         have hmb := HMEM.out _ (List.getElem_mem hpB)
         obtain ⟨bl, hbl⟩ : ∃ bl, bl = Bs[p]'hpB := ⟨_, rfl⟩
         have HBL := Kh hbl
         rw [← hbl] at hbc hbr hmb
         obtain ⟨bn, hbn⟩ : ∃ bn, bn = bl.length := ⟨_, rfl⟩
         rw [← hbn] at hbc hbr
         have HBN := Kh hbn
         have hbn5 : bl.length ≤ 100 := by omega
         clear hbl hbn hmb
         go_wp2
         go_loopw [8, 66] (fun v8 i wx => ∃ (r n : Nat) (sl : Option Addr) (c : Nat) (svs : List Value), i = .int .i64 r ∧ r ≤ ws.length ∧ v8 = .slice sl n c ∧
           LUp 36 w1.heap.size wx (.slice sl n c) n svs (L0 ++ exts (Bs.take p) ws ++ (ws.take r).map (fun u => bl ++ [u])) ∧ LRead BB wx (.slice (some ⟨bb, bo, none⟩) nb cb) svb Bs ∧ RowT BB 9 wx (.slice ra bn rc) (strs bl) ∧ RowT w1.heap.size 9 wx (.slice (some ⟨b, off, none⟩) ws.length sc) (strs ws) ∧ w.grownBy wx none ∧ BB ≤ wx.heap.size)
          (fun _ i _ => ws.length - (intOf i).toNat)
         case atStart => exact ⟨0, n, sl, c, svs, rfl, Nat.zero_le _, rfl, by simpa using HLP.out, HLR.out, hbr, hT, hg, hBo⟩
         case round =>
          clear HLP HLR hT hg hBo hbr hbc
          obtain ⟨r, n, sl, c, svs, rfl, hr, rfl, hlp, hlr, hbr, hT, hg, hBo⟩ := hrel
          obtain ⟨wo, rfl⟩ : ∃ wo : World, wo = wr := ⟨_, rfl⟩
          have HLP := Kh hlp; have HLR := Kh hlr
          have hnl : n ≤ 1000 := by
           have h1 := hlp.len
           have h2 : (L0 ++ exts (Bs.take p) ws ++ (ws.take r).map (fun u => bl ++ [u])).length ≤ (L0 ++ exts Bs ws).length := by
            have e1 : (L0 ++ exts Bs ws).length = L0.length + (exts Bs ws).length := List.length_append
            rw [List.append_assoc, List.length_append, e1]
            have := (vH (ws := ws) hpB r).length_le
            rw [← HBL.out] at this
            omega
           have := HCL2.out; omega
          clear hlp hlr
          by_cases hlr : r < ws.length
          ·have hlr' : (r : Int) < ws.length := by omega
           have hcell := zL hT hlr
           obtain ⟨u, hu2⟩ : ∃ u, u = ws[r] := ⟨_, rfl⟩
           have HU := Kh hu2
           rw [← hu2] at hcell
           clear hu2
           have hex := extended_any BB wo (.slice ra bn rc) bl u hbr.row hbn5
           unfold vB at hex
           rw [← HBN.out] at hex
           have HEX := Kh hex
           clear hex
           go_wp2_with fail
           refine HEX.out.mono ?_
           rintro e w4 ⟨s4, c4, rfl, hown4, hg4⟩
           have hL4 := HLP.out.kept hg4 (by simp)
           go_wp2_with (at_builtin; refine app1 rfl (.tmp 70) (.tmp 75) _ rfl zG w1.heap.size _ n svs rfl hL4.own _ rfl rfl ?c1 ?c2 ?c3 ?_)
           case c1 => unfold maxLen; omega
           case c2 => omega
           case c3 => have := hg4.size; omega
           intro sl5 c5 w5 hown5 hg5 _
           obtain ⟨hp5, hg6⟩ := HLP.out.push (us := bl ++ [u]) hg4 hown4 hown5 hg5
           have hb5 := fun q (e : (Value.slice sl n c).ownBlock = some q) => (HLP.out.own.lt q e).1
           have hot := zH HLP.out.own (e' := 9) (by decide)
           have hot2 := zH HLP.out.own (e' := 34) (by decide)
           have hT5 := hT.kept hg6 (fun q e => .inr (hot q e))
           have hbr5 := hbr.kept hg6 (fun q e => .inr (hot q e))
           have HLR5 := Kh (HLR.out.kept hg6 (fun q e => .inr ⟨hot2 q e, hot q e⟩))
           have hg7 := zA hg hg6 (fun q e => by have := hb5 q e; have := HZ1.out; omega)
           have hs7 := hg6.size
           have HP5 := Kh hp5
           clear hown4 hown5 hg4 hg5 hg6 hL4 hcell hp5 hT hbr hot hot2 hb5
           go_wp2
           go_roundw
           case rel =>
            refine ⟨r + 1, n + 1, sl5, c5, svs ++ [Value.slice s4 (bn + 1) c4], by go_num, by omega, rfl, ?_, HLR5.out, hbr5, hT5, hg7, by omega⟩
            have e9 : ws[r]'hlr = u := HU.out.symm
            rw [zI (fun u => bl ++ [u]) _ r hlr, e9, ← List.append_assoc]; exact HP5.out
           case measure => simp [intOf]; omega
          ·obtain rfl : r = ws.length := by omega
           rw [List.take_length, List.append_assoc, HBL.out, ← wG hpB] at HLP
           go_wp2
           go_roundw
           case rel => exact ⟨p + 1, n, sl, c, svs, by go_num, by omega, rfl, HLP.out, HLR.out, hT, hg, hBo⟩
           case measure => simp [intOf]; omega
        ·obtain rfl : p = nb := by omega
         rw [HNBL.out, List.take_length, ← HBS.out.2] at HLP
         obtain ⟨b2, hb2⟩ : ∃ b2, b2 = wo.heap.size := ⟨_, rfl⟩
         have hb2o : b2 ≤ wo.heap.size := by omega
         have hBb2 : BB ≤ b2 := by omega
         clear hb2 hBo hlt
         go_wp2
         go_loopw [18, 81] (fun v18 i wx => ∃ (x nl : Nat) (sg : Option Addr) (cg : Nat) (svg : List Value), i = .int .i64 x ∧ x ≤ p ∧ v18 = .slice sg nl cg ∧
           LUp 34 b2 wx (.slice sg nl cg) nl svg (exts (Bs.take x) (ws.drop 1)) ∧ LUp 36 w1.heap.size wx (.slice sl n c) n svs (chL ws (q + 1)) ∧ LRead BB wx (.slice (some ⟨bb, bo, none⟩) p cb) svb Bs ∧ RowT w1.heap.size 9 wx (.slice (some ⟨b, off, none⟩) ws.length sc) (strs ws) ∧ w.grownBy wx none ∧ b2 ≤ wx.heap.size)
          (fun _ i _ => p - (intOf i).toNat)
         case atStart => exact ⟨0, 0, none, 0, [], rfl, Nat.zero_le _, rfl, LUp.nil (by decide) _ _, HLP.out, HLR.out, hT, hg, hb2o⟩
         case round =>
          clear HLP HLR hT hg hb2o
          obtain ⟨x, nl, sg, cg, svg, rfl, hx, rfl, hlg, hlp, hlr, hT, hg, hb2o⟩ := hrel
          obtain ⟨wo, rfl⟩ : ∃ wo : World, wo = wr := ⟨_, rfl⟩
          have HLG := Kh hlg; have HLP := Kh hlp; have HLR := Kh hlr
          clear hlg hlp hlr
          by_cases hlt : x < p
          ·have hlt' : (x : Int) < (p : Int) := by omega
           have hpB : x < Bs.length := by rw [← HNBL.out]; exact hlt
           obtain ⟨ra, rc, hbc, hbr⟩ := HLR.out.at HNBL.out hlt
           have hmb := HMEM.out _ (List.getElem_mem hpB)
           obtain ⟨bl, hbl⟩ : ∃ bl, bl = Bs[x]'hpB := ⟨_, rfl⟩
           have HBL := Kh hbl
           rw [← hbl] at hbc hbr hmb
           obtain ⟨bn, hbn⟩ : ∃ bn, bn = bl.length := ⟨_, rfl⟩
           rw [← hbn] at hbc hbr
           have HBN := Kh hbn
           have hbn5 : bl.length ≤ 100 := by omega
           clear hbl hbn hmb
           go_wp2
           go_loopw [18, 88] (fun v18 i wx => ∃ (r nl : Nat) (sg : Option Addr) (cg : Nat) (svg : List Value), i = .int .i64 r ∧ r ≤ ws.length - 1 ∧ v18 = .slice sg nl cg ∧
             LUp 34 b2 wx (.slice sg nl cg) nl svg (exts (Bs.take x) (ws.drop 1) ++ ((ws.drop 1).take r).map (fun u => bl ++ [u])) ∧ LUp 36 w1.heap.size wx (.slice sl n c) n svs (chL ws (q + 1)) ∧ LRead BB wx (.slice (some ⟨bb, bo, none⟩) p cb) svb Bs ∧ RowT BB 9 wx (.slice ra bn rc) (strs bl) ∧ RowT w1.heap.size 9 wx (.slice (some ⟨b, off, none⟩) ws.length sc) (strs ws) ∧ w.grownBy wx none ∧ b2 ≤ wx.heap.size)
            (fun _ i _ => ws.length - 1 - (intOf i).toNat)
           case atStart => exact ⟨0, nl, sg, cg, svg, rfl, Nat.zero_le _, rfl, by simpa using HLG.out, HLP.out, HLR.out, hbr, hT, hg, hb2o⟩
           case round =>
            clear HLG HLP HLR hT hg hb2o hbr hbc
            obtain ⟨r, nl, sg, cg, svg, rfl, hr, rfl, hlg, hlp, hlr, hbr, hT, hg, hb2o⟩ := hrel
            obtain ⟨wo, rfl⟩ : ∃ wo : World, wo = wr := ⟨_, rfl⟩
            have HLG := Kh hlg; have HLP := Kh hlp; have HLR := Kh hlr
            have hnl : nl ≤ 1000 := by
             have h1 := hlg.len
             have := (vH (ws := ws.drop 1) hpB r).length_le
             rw [← HBL.out] at this
             have := HXL.out; omega
            clear hlg hlp hlr
            by_cases hlr : r < ws.length - 1
            ·have hlr' : (r : Int) < ((ws.length - 1 : Nat) : Int) := by omega
             have hcell : wo.cell? ⟨b, off + 1 + r, none⟩ = some (.string (strOfNums (ws[1 + r]'(by omega)))) := by
              have := zL hT (i := 1 + r) (by omega)
              rwa [← Nat.add_assoc] at this
             obtain ⟨u, hu2⟩ : ∃ u, u = ws[1 + r]'(by omega) := ⟨_, rfl⟩
             have HU := Kh hu2
             rw [← hu2] at hcell
             clear hu2
             have hex := extended_any BB wo (.slice ra bn rc) bl u hbr.row hbn5
             unfold vB at hex
             rw [← HBN.out] at hex
             have HEX := Kh hex
             clear hex
             go_wp2_with fail
             refine HEX.out.mono ?_
             rintro e w4 ⟨s4, c4, rfl, hown4, hg4⟩
             have hL4 := HLG.out.kept hg4 (by simp)
             go_wp2_with (at_builtin; refine app1 rfl (.tmp 92) (.tmp 96) _ rfl wH b2 _ nl svg rfl hL4.own _ rfl rfl ?c1 ?c2 ?c3 ?_)
             case c1 => unfold maxLen; omega
             case c2 => omega
             case c3 => have := hg4.size; omega
             intro sl5 c5 w5 hown5 hg5 _
             obtain ⟨hp5, hg6⟩ := HLG.out.push (us := bl ++ [u]) hg4 hown4 hown5 hg5
             have hb5 := fun q (e : (Value.slice sg nl cg).ownBlock = some q) => (HLG.out.own.lt q e).1
             have hot := zH HLG.out.own (e' := 9) (by decide)
             have hot2 := zH HLG.out.own (e' := 36) (by decide)
             have hT5 := hT.kept hg6 (fun q e => .inr (hot q e))
             have hbr5 := hbr.kept hg6 (fun q e => .inr (hot q e))
             have HLP5 := Kh (HLP.out.kept hg6 (fun q e => .inr ⟨hot q e, hot2 q e⟩))
             have HLR5 := Kh (HLR.out.kept hg6 (fun q e => .inl (by have := hb5 q e; omega)))
             have hg7 := zA hg hg6 (fun q e => by have := hb5 q e; have := HZ1.out; omega)
             have hs7 := hg6.size
             have HP5 := Kh hp5
             clear hown4 hown5 hg4 hg5 hg6 hL4 hcell hp5 hT hbr hot hot2 hb5
             go_wp2
             go_roundw
             case rel =>
              refine ⟨r + 1, nl + 1, sl5, c5, svg ++ [Value.slice s4 (bn + 1) c4], by go_num, by omega, rfl, ?_, HLP5.out, HLR5.out, hbr5, hT5, hg7, by omega⟩
              have e9 : (ws.drop 1)[r]'(by rw [List.length_drop]; omega) = u := by rw [HU.out]; simp [Nat.add_comm]
              rw [zI (fun u => bl ++ [u]) _ r (by rw [List.length_drop]; omega), e9, ← List.append_assoc]; exact HP5.out
             case measure => simp [intOf]; omega
            ·obtain rfl : r = ws.length - 1 := by omega
             rw [List.take_of_length_le (l := ws.drop 1) (by rw [List.length_drop]; omega), HBL.out, ← wG hpB] at HLG
             go_wp2
             go_roundw
             case rel => exact ⟨x + 1, nl, sg, cg, svg, by go_num, by omega, rfl, HLG.out, HLP.out, HLR.out, hT, hg, hb2o⟩
             case measure => simp [intOf]; omega
          ·obtain rfl : x = p := by omega
           rw [HNBL.out, List.take_length, ← HBS.out.1] at HLG
           have HLGR := Kh (LRead.of HLG.out)
           have HNL := Kh HLG.out.len
           clear hlt
           go_wp2
           go_roundg (m + 1 - (q + 1))
           case measure => have := HGH.out; omega
           case rel => exact ⟨q + 1, n, nl, sl, c, svs, sg, cg, svg, by have := HGH.out; omega, by go_num, rfl, rfl, HLP.out, HLGR.out, HNL, hT, hg, by omega⟩
      ·obtain rfl : q = m + 1 := by have := HGH.out; omega
       have hl := HLP.out.len
       go_wp2
       go_ret
       exact ⟨sl, c, svs, by rw [← hl]; rfl, by rw [← hl]; exact RowT.of_owns HLP.out.own, HLP.out.rows, hg⟩
end Go.Proofs.Ytgbfaggnnfoamaa
