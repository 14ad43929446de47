/- Part 24 of the proof: MDfa, MWords. -/
import Derived.Test.YtdjhoadoiknaoaaDoorZa23
set_option linter.unusedVariables false
set_option linter.unusedSimpArgs false
namespace Go.Proofs.YtdjhoadoiknaoaaDoor
open Go.RowKit
def DealtDfa (B tb : Nat) (w : World) (letters most : Nat) (e : Ending) (w' : World) : Prop :=
 ∃ (v : Value) (m : DfaV) (n : Nat), e = .returned v ∧ DfaOwn w w' v m ∧ VD m n letters ∧ n ≤ most ∧ xC B w' tb ∧ w.grownBy w' (some tb)
set_option maxRecDepth 100000 in
set_option maxHeartbeats 1000000 in
theorem mdfa_any (B tb : Nat) (w : World) (letters most : Nat) (h1 : 1 ≤ letters) (h6 : letters ≤ 6) (hm1 : 1 ≤ most) (hm : most ≤ 500) (hT : xC B w tb) :
  Calls Tryd.prog 42 #[.pointer (some ⟨tb, 0, none⟩), .int .i64 (letters : Int), .int .i64 (most : Int)] w (DealtDfa B tb w letters most) := by
 have htb := hT.lt
 have hBt := hT.ge
 obtain ⟨wA, hWA⟩ : ∃ wA, wA = (w.alloc (.cells #[.int .i64 0, .int .i64 0, .slice none 0 0, .slice none 0 0] 28)).alloc (.cells #[.int .i64 letters, .int .i64 0, .slice none 0 0, .slice none 0 0] 28) := ⟨_, rfl⟩
 obtain ⟨hb1, hb2, hgA, hzA⟩ := two_boxes w #[.int .i64 0, .int .i64 0, .slice none 0 0, .slice none 0 0] #[.int .i64 letters, .int .i64 0, .slice none 0 0, .slice none 0 0] 28
 rw [← hWA] at hb1 hb2 hgA hzA
 obtain ⟨P, hP⟩ : ∃ P, P = w.heap.size := ⟨_, rfl⟩
 have HPE := Kh hP
 rw [← hP] at hb1 hb2 hzA htb
 have hTA := hT.kept hgA (by simp)
 have HB1 := Kh hb1; have HB2 := Kh hb2; have HGA := Kh hgA; have HWA := Kh hWA; have HTA := Kh hTA
 clear hb1 hb2 hgA hWA hTA hT
 go_enter Tryd.func42, Tryd.ntmps42
 go_upto_region 2 with fail
 rw [← HWA.out, ← HPE.out]
 clear hP
 go_wp2_with fail
 refine (vH B tb _ _ (by omega) HTA.out).mono ?_
 rintro e w1 ⟨r, rfl, hr0, hr1, hT1, hg1⟩
 replace hr1 := hr1 (by omega)
 obtain ⟨n, rfl⟩ : ∃ n : Nat, r = (n : Int) - 1 := ⟨(r + 1).toNat, by omega⟩
 have hn1 : 1 ≤ n := by omega
 have hn2 : n ≤ most := by omega
 have hn0 : (1 : Int) + ((n : Int) - 1) = n := by omega
 have HT1 := Kh hT1; have HG1 := Kh hg1; have HN0 := Kh hn0
 clear hr0 hr1 hT1 hg1
 go_wp2_with fail
 refine (vH B tb _ _ (by omega) HT1.out).mono ?_
 rintro e w2 ⟨s, rfl, hs0, hs1, hT2, hg2⟩
 replace hs1 := hs1 (by omega)
 obtain ⟨s, rfl⟩ : ∃ s' : Nat, s = s' := ⟨s.toNat, by omega⟩
 have hg12 := zG HG1.out hg2
 have hbo := zE HB2.out hg12 (by simp; omega)
 obtain ⟨c0, c1, c2, c3⟩ := zO hbo
 have f1 := frozen_of_row w2 (P + 1) 1 _ _ hbo
 have HT2 := Kh hT2; have HG2 := Kh hg12
 clear hT2 hg2 hg12 HT1 HG1
 go_wp2
 obtain ⟨w3, hw3⟩ : ∃ w3, w3 = w2.setCell ⟨P + 1, 1, none⟩ (.int .i64 (s : Int)) := ⟨_, rfl⟩
 have hb3 : w3.heap[P + 1]? = some (.cells #[.int .i64 (letters : Int), .int .i64 (s : Int), .slice none 0 0, .slice none 0 0] 28 (0, 0)) := by rw [hw3, heap_setCell_same w2 (P + 1) 1 _ _ _ hbo]; simp
 have hg3 : w2.grownBy w3 (some (P + 1)) := by rw [hw3]; exact zH w2 ⟨P + 1, 1, none⟩ _
 have hb31 := zE (zE HB1.out HG2.out (by simp; omega)) hg3 (by simp)
 have hT3 := HT2.out.kept hg3 (fun k e => by have := Option.some.inj e; subst this; omega)
 have hgw : w.grownBy w3 (some tb) := zF (zG (zF (zW w (some tb)) HGA.out (by simp)) HG2.out) hg3 (fun x e => by have := Option.some.inj e; have := HPE.out; omega)
 have hH3 : Half (P + 1) w3 (P + 1) letters s [] [] [] none 0 none 0 := ⟨hb3, World.ownsRow_nil _ _ _ _, World.ownsRow_nil _ _ _ _, OwnsT.nil⟩
 have H3 := Kh hH3; have HB3 := Kh hb31; have HT3 := Kh hT3; have HG3 := Kh hgw
 rw [← hw3]
 clear hw3 hb3 hg3 hb31 hT3 hgw hH3 c0 c1 c2 c3 f1 hbo HT2 HG2
 go_loopg [9, 10, 11] n (fun gh i v10 v11 wr => ∃ (q : Nat) (fs : List Bool) (t : List (List Int)) (hs : List Value) (sf : Option Addr) (cf : Nat) (sn : Option Addr) (cn : Nat), gh + q = n ∧ i = .int .i64 q ∧ fs.length = q ∧ t.length = q ∧ RowsIn t n letters ∧ Half (P + 1) wr (P + 1) letters s fs t hs sf cf sn cn ∧ xC B wr tb ∧ wr.heap[P]? = some (.cells #[.int .i64 0, .int .i64 0, .slice none 0 0, .slice none 0 0] 28 (0, 0)) ∧ w.grownBy wr (some tb))
 case atStart => exact ⟨0, [], [], [], none, 0, none, 0, by omega, rfl, rfl, rfl, (fun r hr => by simp at hr), H3.out, HT3.out, HB3.out, HG3.out⟩
 case round =>
  obtain ⟨q, fs, t, hs, sf, cf, sn, cn, hg, rfl, rfl, htl, hri, hH, hTr, hb1r, hgr⟩ := hrel
  have HG := Kh hg; have HH := Kh hH; have HTR := Kh hTr; have HB1R := Kh hb1r; have HGR := Kh hgr; have HRI := Kh hri
  clear hg hH hTr hb1r hgr hri H3 HB3 HT3 HG3
  by_cases hq : fs.length < n
  ·have hq' : (fs.length : Int) < n := by omega
   obtain ⟨w5, hw5⟩ : ∃ w5, w5 = wr.drew := ⟨_, rfl⟩
   have hg5 : wr.grownBy w5 none := by rw [hw5]; exact yB wr none
   have HW5 := Kh hw5
   have HH5 := Kh (HH.out.grow hg5); have HT5 := Kh (HTR.out.kept hg5 (by simp)); have HG5 := Kh (zF HGR.out hg5 (by simp)); have HB5 := Kh (zE HB1R.out hg5 (by simp))
   obtain ⟨d0, d1, d2, d3⟩ := zO HH5.out.box
   have C2 := Kh d2
   clear hw5 hg5 d0 d1 d2 d3 HH HTR HGR HB1R
   go_upto_region 7 with fail
   refine wp_region_noPanic ?_
   refine yN (G := Until 8 (fun _ => True) (fun W => W.cell? ⟨P + 1, 2, none⟩ = some (.slice sf fs.length cf))) (by kernel_rfl) ?_
   rw [← HW5.out]
   refine takeC (i := 0) (v := ?_) rfl rfl (Or.inl ⟨by rfl, ?_⟩) ⟨trivial, fun _ => C2.out⟩ ?_
   rotate_left
   ·(intro wz hz; (try dsimp only at hz); go_simp; (try with_reducible rfl))
   try simp only [Act.put, sPa, sPb, sPc]
   refine takeD (i := 1) (v := ?_) rfl rfl (Or.inl ⟨by rfl, ?_⟩) ⟨trivial, fun _ => C2.out⟩ ?_
   rotate_left
   ·(rintro wz ⟨-, hz⟩; (try dsimp only at hz); go_simp; (try with_reducible rfl))
   try simp only [Act.put, sPa, sPb, sPc]
   refine takeC (i := 2) (v := ?_) rfl rfl (Or.inl ⟨by rfl, ?_⟩) ⟨trivial, fun _ => C2.out⟩ ?_
   rotate_left
   ·(intro wz hz; (try dsimp only at hz); go_simp; (try with_reducible rfl))
   try simp only [Act.put, sPa, sPb, sPc]
   refine oneG (i := 3) (by kernel_rfl) rfl (fun K hK => ?_)
   go_simp
   go_at_call 43
   refine (vH B tb _ _ (by omega) HT5.out).mono ?_
   rintro e w6 ⟨b, rfl, hb0, hb1, hT6, hg6⟩
   have hH6 := HH5.out.tape HT5.out hg6
   obtain ⟨d0, d1, d2, d3⟩ := zO hH6.box
   have C2 := Kh d2
   refine hK.out _ _ ⟨trivial, fun _ => C2.out⟩ ?_
   clear hK K d0 d1 d2 d3
   try simp only [Act.put, sPa, sPb, sPc]
   refine takeC (i := 4) (v := ?_) rfl rfl (Or.inl ⟨by rfl, ?_⟩) ⟨trivial, fun _ => C2.out⟩ ?_
   rotate_left
   ·(intro wz hz; (try dsimp only at hz); go_simp; (try with_reducible rfl))
   try simp only [Act.put, sPa, sPb, sPc]
   refine oneG (i := 5) (by kernel_rfl) rfl (fun K hK => ?_)
   go_simp
   have hH7 := hH6.grow (World.grownBy_alloc w6 (.cells #[.bool (decide (b = 1))] 4) none)
   have hgn := heap_alloc_new w6 (.cells #[.bool (decide (b = 1))] 4)
   obtain ⟨d0, d1, d2, d3⟩ := zO hH7.box
   refine hK.out _ _ ⟨trivial, fun _ => d2⟩ ?_
   clear hK K d0 d1 d2 d3
   try simp only [Act.put, sPa, sPb, sPc]
   have hz7 : P + 2 ≤ w6.heap.size := by have := zS hH6.box; omega
   refine oneG (i := 6) (by kernel_rfl) rfl (fun K hK => ?_)
   refine step_app1 rfl (.tmp 28) (.tmp 32) 25 rfl xU (P + 1) _ _ _ rfl hH7.ownF _ _ _ rfl hgn rfl ?g1 ?g2 ?g3 ?_
   case g1 => unfold maxLen; omega
   case g2 => omega
   case g3 => rw [zM]; omega
   intro sa' sc' w8 hown8 hg8
   have hbx := zE hH7.box hg8 (fun e => zR hH7.ownF hH7.box (by decide) e)
   obtain ⟨d0, d1, d2, d3⟩ := zO hbx
   have f2 := zD hbx 2
   refine hK.out _ _ ⟨trivial, fun _ => d2⟩ ?_
   clear hK K
   try simp only [Act.put, sPa, sPb, sPc]
   have C2 := Kh d2
   refine takeC (i := 7) (v := ?_) rfl rfl (Or.inl ⟨by rfl, ?_⟩) ⟨trivial, fun _ => C2.out⟩ ?_
   rotate_left
   ·(intro wz hz; (try dsimp only at hz); go_simp; (try with_reducible rfl))
   try simp only [Act.put, sPa, sPb, sPc]
   refine oneG (i := 8) (by kernel_rfl) rfl (fun K hK => ?_)
   go_simp
   refine hK.out _ _ ⟨trivial, fun h => by simp at h⟩ ?_
   clear hK K d0 d1 d2 d3 f2 hbx
   try simp only [Act.put, sPa, sPb, sPc]
   refine doneG (by kernel_rfl) ?_ _
   refine NoPanic.normal ?_
   obtain ⟨hF, hgF⟩ := hH7.pushF hown8 hg8 rfl
   have hT9 := ((hT6.kept (World.grownBy_alloc w6 (.cells #[.bool (decide (b = 1))] 4) none) (by simp)).kept hg8 (fun k e => by have := (hH7.ownF.lt k e).1; omega)).kept (zH w8 ⟨P + 1, 2, none⟩ (.slice sa' (fs.length + 1) sc')) (fun k e => by have e : P + 1 = k := Option.some.inj e; omega)
   have hb9 := zE (zE (zE (zE HB5.out hg6 (by simp; omega)) (World.grownBy_alloc w6 (.cells #[.bool (decide (b = 1))] 4) none) (by simp)) hg8 (fun e => by have := (hH7.ownF.lt _ e).1; omega)) (zH w8 ⟨P + 1, 2, none⟩ (.slice sa' (fs.length + 1) sc')) (by simp)
   have hg9 : w.grownBy (w8.setCell ⟨P + 1, 2, none⟩ (.slice sa' (fs.length + 1) sc')) (some tb) := zF (zF (zF (zG HG5.out hg6) (World.grownBy_alloc w6 (.cells #[.bool (decide (b = 1))] 4) none) (by simp)) hg8 (fun k e => by have := (hH7.ownF.lt k e).1; have := HPE.out; omega)) (zH w8 ⟨P + 1, 2, none⟩ (.slice sa' (fs.length + 1) sc')) (fun k e => by have e : P + 1 = k := Option.some.inj e; have := HPE.out; omega)
   obtain ⟨w9, hw9⟩ : ∃ w9, w9 = w8.setCell ⟨P + 1, 2, none⟩ (.slice sa' (fs.length + 1) sc') := ⟨_, rfl⟩
   rw [← hw9] at hF hT9 hb9 hg9 ⊢
   have HF := Kh hF; have HT9 := Kh hT9; have HB9 := Kh hb9; have HG9 := Kh hg9
   clear hw9 hgF hF hT9 hb9 hg9 hown8 hg8 hgn hH7 hH6 hT6 hg6 C2 HH5 HT5 HG5 HB5 HW5
   go_wp2
   go_loopg [10, 11] letters (fun gh ov i wx => ∃ (a : Nat) (row : List Int) (sr : Option Addr) (cr : Nat), gh + a = letters ∧ i = .int .i64 a ∧ row.length = a ∧ ov = .slice sr row.length cr ∧ (∀ x ∈ row, 0 ≤ x ∧ x < n) ∧ wx.ownsRow w9.heap.size 3 1 (.slice sr row.length cr) row.length (ints row) ∧ xC B wx tb ∧ w9.grownBy wx (some tb))
   case atStart => exact ⟨0, [], none, 0, by omega, rfl, rfl, rfl, (fun x hx => by simp at hx), World.ownsRow_nil _ _ _ _, HT9.out, zW _ _⟩
   case round =>
    obtain ⟨a, row, sr, cr, hg, rfl, rfl, rfl, hrl, hown, hTx, hgx⟩ := hrel
    have HGA2 := Kh hg; have HOWR := Kh hown; have HTX := Kh hTx; have HGX := Kh hgx
    clear hg hown hTx hgx
    by_cases ha : row.length < letters
    ·have ha' : (row.length : Int) < letters := by omega
     have htx := HTX.out.lt
     go_wp2_with fail
     refine (vH B tb _ _ (by omega) HTX.out).mono ?_
     rintro e wy ⟨x, rfl, hx0, hx1, hTy, hgy⟩
     replace hx1 := hx1 (by omega)
     have hzt : tb < w9.heap.size := HT9.out.lt
     have hownY := zY HOWR.out hgy (by simpa using hzt)
     have hzy := (zG HGX.out hgy).size
     have HOY := Kh hownY; have HTY := Kh hTy; have HGY := Kh (zG HGX.out hgy)
     clear hownY hTy hgy
     go_wp2_with (first | (at_builtin; refine app1 rfl _ _ _ rfl yG w9.heap.size _ row.length (ints row) rfl HOY.out _ rfl rfl ?c1 ?c2 ?c3 ?_) | fail)
     case c1 => unfold maxLen; omega
     case c2 => omega
     case c3 => exact hzy
     intro sr' cr' w10 hown10 hg10 hlt10
     have HO10 := Kh hown10
     have HT10 := Kh (HTY.out.kept hg10 (fun k e => by have := (HOY.out.lt k e).1; omega))
     have HG10 := Kh (zF HGY.out hg10 (fun k e => (HOY.out.lt k e).1))
     clear hown10 hg10
     go_wp2
     go_roundg (letters - (row.length + 1))
     case measure => have := HGA2.out; omega
     case rel =>
      refine ⟨row.length + 1, row ++ [x], sr', cr', by omega, by go_num, by simp, by simp, ?_, ?_, HT10.out, HG10.out⟩
      ·intro y hy
       rcases List.mem_append.1 hy with hy | hy
       ·exact hrl y hy
       ·rw [List.mem_singleton] at hy; subst hy; exact ⟨hx0, hx1⟩
      ·rw [show ints (row ++ [x]) = ints row ++ [.int .i64 x] by simp [ints], List.length_append, List.length_singleton]
       exact HO10.out
    ·have hrn : row.length = letters := by have := HGA2.out; omega
     have hH := HF.out.tape HT9.out HGX.out
     have hzp : P + 1 ≤ w9.heap.size := Nat.le_of_lt (zS HF.out.box)
     have hrow := yK HOWR.out hzp
     have hdis : ∀ i (hi : i < hs.length), ∀ k, hs[i].ownBlock = some k → (Value.slice sr row.length cr).ownBlock ≠ some k := fun i hi k hk e => by
      have h1 := (HF.out.rows.lt hi hk).2
      have h2 := (HOWR.out.lt k e).1
      omega
     have HDIS := Kh hdis
     obtain ⟨d0, d1, d2, d3⟩ := zO hH.box
     have hzx := zS hH.box
     have hlt9 := HT9.out.lt
     have HHX := Kh hH; have HRW := Kh hrow; have HRN := Kh hrn
     have HGW := Kh (zG HG9.out HGX.out); have HBX := Kh (zE HB9.out HGX.out (by simp; omega))
     clear hH hrow hrn hdis d0 d1 d2 HOWR HGX HF HT9 HG9 HB9
     have HON := Kh HHX.out.ownN
     have HTL := Kh htl
     clear htl
     go_wp2_with (first | (at_builtin; refine app1 rfl _ _ _ rfl wE (P + 1) _ t.length hs rfl HON.out _ rfl rfl ?c1 ?c2 ?c3 ?_) | fail)
     case c1 => have := HTL.out; unfold maxLen; omega
     case c2 => have := HTL.out; omega
     case c3 => omega
     intro sn' cn' w11 hown11 hg11 hlt11
     have hbx := zE HHX.out.box hg11 (fun e => zR HHX.out.ownN HHX.out.box (by decide) e)
     obtain ⟨d0, d1, d2, d3⟩ := zO hbx
     have f2 := zD hbx 3
     obtain ⟨hN, hgN⟩ := HHX.out.pushN hown11 hg11 HRW.out HDIS.out rfl
     have hTN := (HTX.out.kept hg11 (fun k e => by have := (HHX.out.ownN.lt k e).1; omega)).kept (zH w11 ⟨P + 1, 3, none⟩ (.slice sn' (t.length + 1) cn')) (fun k e => by have e : P + 1 = k := Option.some.inj e; omega)
     have hbN := zE (zE HBX.out hg11 (fun e => by have := (HHX.out.ownN.lt _ e).1; omega)) (zH w11 ⟨P + 1, 3, none⟩ (.slice sn' (t.length + 1) cn')) (by simp)
     have hgN2 : w.grownBy (w11.setCell ⟨P + 1, 3, none⟩ (.slice sn' (t.length + 1) cn')) (some tb) := zF (zF HGW.out hg11 (fun k e => by have := (HHX.out.ownN.lt k e).1; have := HPE.out; omega)) (zH w11 ⟨P + 1, 3, none⟩ (.slice sn' (t.length + 1) cn')) (fun k e => by have e : P + 1 = k := Option.some.inj e; have := HPE.out; omega)
     have HGK := Kh hN; have HTN2 := Kh hTN; have HBN2 := Kh hbN; have HGN2 := Kh hgN2
     clear hgN hbx hN hTN hbN hgN2 hown11 hg11
     go_wp2
     go_roundg (n - (fs.length + 1))
     case measure => have := HG.out; omega
     case rel =>
      refine ⟨fs.length + 1, fs ++ [decide (b = 1)], t ++ [row], _, sa', sc', sn', cn', by omega, by go_num, by simp, by simp [HTL.out], ?_, HGK.out, HTN2.out, HBN2.out, HGN2.out⟩
      intro r hr
      rcases List.mem_append.1 hr with hr | hr
      ·exact HRI.out r hr
      ·rw [List.mem_singleton] at hr; subst hr; exact ⟨HRN.out, hrl⟩
  ·have hfn : fs.length = n := by have := HG.out; omega
   have hB := HH.out
   have HFN := Kh hfn; have HBU := Kh hB
   obtain ⟨d0, d1, d2, d3⟩ := zO HH.out.box
   obtain ⟨e0, e1, e2, e3⟩ := zO HB1R.out
   have f0 := zD HB1R.out 0; have f1 := zD HB1R.out 1; have f2 := zD HB1R.out 2; have f3 := zD HB1R.out 3
   have HTL := Kh htl
   clear hB hfn htl
   go_wp2
   refine bodyPost_ret (v := .agg #[.int .i64 letters, .int .i64 s, .slice sf fs.length cf, .slice sn t.length cn]) (by simp [results, Tryd.results42, go_sem, e0, e1, e2, e3]) rfl ?_
   obtain ⟨hsR, hgR⟩ := dbox_set HB1R.out (.int .i64 letters) (.int .i64 s) (.slice sf fs.length cf) (.slice sn t.length cn)
   have htb2 := HTR.out.lt
   have hfn := HFN.out; have htl := HTL.out
   refine ⟨_, ⟨letters, s, fs, t⟩, n, rfl, ⟨P + 1, hs, sf, cf, sn, cn, rfl, by have := HPE.out; omega, (HBU.out.base (by have := HPE.out; omega)).far hgR HB1R.out (by omega)⟩, HRI.out.vd h1 h6 hn1 (by omega) hfn (htl.trans hfn) hs0 hs1, hn2, HTR.out.kept hgR (fun k e => by have e : P = k := Option.some.inj e; omega), zF HGR.out hgR (fun k e => by have e : P = k := Option.some.inj e; have := HPE.out; omega)⟩
def wAt (letters most : Nat) : Nat → List (List Nat)
 | 0 => [[]]
 | i + 1 => if i < (wAt letters most i).length ∧ ((wAt letters most i).getD i []).length < most then wAt letters most i ++ (List.range letters).map (fun c => (wAt letters most i).getD i [] ++ [c]) else wAt letters most i
def wIn (letters most i a : Nat) : List (List Nat) := wAt letters most i ++ (List.range a).map (fun c => (wAt letters most i).getD i [] ++ [c])
def uZ (letters most : Nat) : List (List Nat) := wAt letters most 7
def strsL (l : List (List Nat)) : List Value := l.map fun u => .string (strOfNums (lets u))
theorem strsL_length (l : List (List Nat)) : (strsL l).length = l.length := by simp [strsL]
theorem small2 {P : Nat → Nat → Prop} {x y : Nat} (h1 : 1 ≤ x) (h2 : x ≤ 2) (h3 : 1 ≤ y) (h4 : y ≤ 2) (h : P 1 1 ∧ P 1 2 ∧ P 2 1 ∧ P 2 2) : P x y := by
 rcases (by omega : x = 1 ∨ x = 2) with rfl | rfl <;> rcases (by omega : y = 1 ∨ y = 2) with rfl | rfl
 ·exact h.1
 ·exact h.2.1
 ·exact h.2.2.1
 ·exact h.2.2.2
theorem w_facts {letters most : Nat} (h1 : 1 ≤ letters) (h2 : letters ≤ 2) (h3 : 1 ≤ most) (h4 : most ≤ 2) : ∀ i, i ≤ 7 → (i < (wAt letters most i).length → i < 7) ∧ (¬ i < (wAt letters most i).length → wAt letters most i = uZ letters most) ∧ (wAt letters most i).length ≤ 7 ∧ (∀ u ∈ wAt letters most i, u.length ≤ 2) :=
 small2 (P := fun letters most => ∀ i, i ≤ 7 → (i < (wAt letters most i).length → i < 7) ∧ (¬ i < (wAt letters most i).length → wAt letters most i = uZ letters most) ∧ (wAt letters most i).length ≤ 7 ∧ (∀ u ∈ wAt letters most i, u.length ≤ 2)) h1 h2 h3 h4
  ⟨by decide +kernel, by decide +kernel, by decide +kernel, by decide +kernel⟩
theorem wIn_zero (letters most i : Nat) : wIn letters most i 0 = wAt letters most i := by simp [wIn]
theorem wIn_succ (letters most i a : Nat) : wIn letters most i (a + 1) = wIn letters most i a ++ [(wAt letters most i).getD i [] ++ [a]] := by simp [wIn, List.range_succ]
theorem wIn_length (letters most i a : Nat) : (wIn letters most i a).length = (wAt letters most i).length + a := by simp [wIn]
theorem wAt_step {letters most i : Nat} (hi : i < (wAt letters most i).length) (h : ((wAt letters most i).getD i []).length < most) : wAt letters most (i + 1) = wIn letters most i letters := by rw [wAt, if_pos ⟨hi, h⟩]; rfl
theorem wAt_stay {letters most i : Nat} (h : ¬ ((wAt letters most i).getD i []).length < most) : wAt letters most (i + 1) = wAt letters most i := by rw [wAt, if_neg (fun h' => h h'.2)]
theorem wIn_get {letters most i a : Nat} (h : i < (wAt letters most i).length) : (wIn letters most i a).getD i [] = (wAt letters most i).getD i [] := by
 simp [wIn, List.getD_eq_getElem?_getD, List.getElem?_append_left h]
theorem Arr.strL {w : World} {g : Nat} {e : TypeId} {l : List (List Nat)} (h : Arr w g e (strsL l)) (i : Nat) (hi : i < l.length) : w.cell? ⟨g, i, none⟩ = some (.string (strOfNums (lets (l.getD i [])))) := by
 rw [h.cell i (by rw [strsL_length]; exact hi)]
 simp [strsL, List.getD_eq_getElem?_getD, hi]
theorem owns_lit {W : World} {e base g : Nat} {xs : List Value} {k : Nat} (h : W.heap[g]? = some (.cells xs.toArray e (0, 0))) (hb : base ≤ g) (hk : xs.length = k) (hm : k ≤ maxLen) : W.ownsRow base e 1 (.slice (some ⟨g, 0, none⟩) k k) k xs :=
 ⟨by omega, .inr ⟨g, k, xs.toArray, rfl, hb, h, Nat.le_refl _, hm, by simp [hk], by simp [← hk]⟩⟩
set_option maxRecDepth 100000 in
set_option maxHeartbeats 1000000 in
theorem words_any (w : World) (letters most : Nat) (h1 : 1 ≤ letters) (h2 : letters ≤ 2) (h3 : 1 ≤ most) (h4 : most ≤ 2) :
  Calls Tryd.prog 111 #[.int .i64 (letters : Int), .int .i64 (most : Int)] w fun e w' =>
   ∃ sa sc, e = .returned (.slice sa (uZ letters most).length sc) ∧ w'.ownsRow w.heap.size 9 1 (.slice sa (uZ letters most).length sc) (uZ letters most).length (strsL (uZ letters most)) ∧ w.grownBy w' none := by
 have hF := w_facts h1 h2 h3 h4
 have HF := Kh hF
 clear hF
 obtain ⟨P, hP⟩ : ∃ P, P = w.heap.size := ⟨_, rfl⟩
 have HPE := Kh hP
 go_enter Tryd.func111, Tryd.ntmps111
 go_upto_region 2 with fail
 have hb := heap_alloc_new w (.cells #[.string ⟨#[]⟩] 9)
 have hg := World.grownBy_alloc w (.cells #[.string ⟨#[]⟩] 9) none
 have ho : (w.alloc (.cells #[.string ⟨#[]⟩] 9)).ownsRow w.heap.size 9 1 (.slice (some ⟨w.heap.size, 0, none⟩) 1 1) 1 (strsL [[]]) := owns_lit hb (Nat.le_refl _) rfl (by unfold maxLen; omega)
 have hsz := zM w (.cells #[.string ⟨#[]⟩] 9)
 rw [← hP] at ho hb hsz ⊢
 have HO := Kh ho; have HG := Kh hg; have HW1 := Kh (wIn_zero letters most 0)
 clear ho hb hg hsz hP
 obtain ⟨w1, hw1⟩ : ∃ w1, w1 = w.alloc (.cells #[.string ⟨#[]⟩] 9) := ⟨_, rfl⟩
 rw [← hw1] at HO HG ⊢
 clear hw1
 go_wp2
 go_loopg [5, 6, 7] 7 (fun gh lv i av wr => ∃ (q : Nat) (sa : Option Addr) (sc : Nat), gh + q = 7 ∧ i = .int .i64 q ∧ lv = .slice sa (wAt letters most q).length sc ∧ wr.ownsRow P 9 1 (.slice sa (wAt letters most q).length sc) (wAt letters most q).length (strsL (wAt letters most q)) ∧ w.grownBy wr none)
 case atStart => exact ⟨0, some ⟨P, 0, none⟩, 1, rfl, rfl, rfl, HO.out, HG.out⟩
 case round =>
  obtain ⟨q, sa, sc, hg, rfl, rfl, hown, hgr⟩ := hrel
  obtain ⟨f1, f2, f3, f4⟩ := HF.out q (by omega)
  obtain ⟨m, hm⟩ : ∃ m, m = (wAt letters most q).length := ⟨_, rfl⟩
  have HM := Kh hm
  rw [← hm] at hown f1 f2 f3 ⊢
  have HG2 := Kh hg; have HOW := Kh hown; have HGR := Kh hgr
  clear hg hown hgr hm HO HG HW1
  by_cases hq : q < m
  ·have hq' : (q : Int) < m := by omega
   have hq7 := f1 hq
   have hu2 : ((wAt letters most q).getD q []).length ≤ 2 := f4 _ (getDm (by have := HM.out; omega))
   obtain ⟨U, hU⟩ : ∃ U, U = (wAt letters most q).getD q [] := ⟨_, rfl⟩
   rw [← hU] at hu2
   have HU := Kh hU
   clear f1 f2 f4 hU
   obtain ⟨X, hX⟩ : ∃ X, X = strOfNums (lets U) := ⟨_, rfl⟩
   have hxl : X.size = U.length := by rw [hX, strOfNums_size]; simp [lets]
   have HX := Kh hX; have HXL := Kh hxl
   obtain ⟨wo, hwo⟩ : ∃ wo, wo = wr := ⟨_, rfl⟩
   rw [← hwo] at HOW HGR ⊢
   clear hwo wr
   go_wp2
   go_loopg [5, 7] letters (fun gh lv av wr => ∃ (a : Nat) (sb : Option Addr) (sd : Nat), gh + a = letters ∧ av = .int .i64 a ∧ lv = .slice sb (m + a) sd ∧ wr.ownsRow P 9 1 (.slice sb (m + a) sd) (m + a) (strsL (wIn letters most q a)) ∧ w.grownBy wr none ∧ (most ≤ U.length → a = 0))
   case atStart => exact ⟨0, sa, sc, rfl, rfl, rfl, by rw [wIn_zero]; exact HOW.out, HGR.out, fun _ => rfl⟩
   case round =>
    obtain ⟨a, sb, sd, hg, rfl, rfl, hown, hgr, hz⟩ := hrel
    obtain ⟨kb, rfl, hc1, hc2, harr⟩ := yO hown (by omega)
    have hcell := harr.strL q (by rw [wIn_length]; have := HM.out; omega)
    rw [wIn_get (by have := HM.out; omega), ← HU.out, ← HX.out] at hcell
    have hmd : (q : Int) < (m : Int) + (a : Int) := by omega
    have hmd2 : q < m + a := by omega
    have HG3 := Kh hg; have HOW3 := Kh hown; have HGR3 := Kh hgr; have HZ := Kh hz
    have hc2' : sd ≤ 9223372036854775807 := by unfold maxLen at hc2; omega
    clear hg hown hgr hz harr hc2 hX hxl
    by_cases ha : a < letters
    ·have ha' : (a : Int) < letters := by omega
     by_cases hu : X.size < most
     ·have hu' : (X.size : Int) < most := by omega
      have h97 : IntKind.i64.wrap (97 + (a : Int)) = 97 + (a : Int) := IntWalk.i64_in _ (by omega)
      have hby : IntKind.u8.wrap (97 + (a : Int)) = 97 + (a : Int) := IntWalk.u8_in _ (by omega)
      obtain ⟨Y, hY⟩ : ∃ Y, Y = strOfNums [97 + (a : Int)] := ⟨_, rfl⟩
      have hcv : ∀ (W : World) (g : Nat), W.cell? ⟨g, 0, none⟩ = some (.int .u8 (97 + (a : Int))) → (convert 89 9 (.slice (some ⟨g, 0, none⟩) 1 1)).run Tryd.prog W = .ok (.string Y) W := fun W g h => by rw [hY]; exact run_byte1 89 5 Tryd.underlying89 Tryd.underlying5 9 Tryd.underlying9 h
      have hcc : ∀ W : World, (Op.stringOp .add X Y).run Tryd.prog W = .ok (.string (X ++ Y)) W := fun W => run_string_add_sum W X Y (by
       rw [hY, strOfNums_size]; simp; omega)
      have HXY : Hid (X ++ Y = strOfNums (lets (U ++ [a]))) := Kh (by rw [HX.out, hY, strs_cat]; simp [lets])
      clear hY
      obtain ⟨w5, hw5⟩ : ∃ w5, w5 = wr.drew := ⟨_, rfl⟩
      have hg5 : wr.grownBy w5 none := by rw [hw5]; exact yB wr none
      have HW5 := Kh hw5
      have HO5 := Kh (zY HOW3.out hg5 (by simp)); have HG5 := Kh (zF HGR3.out hg5 (by simp))
      have C := Kh (zX hcell hg5)
      clear hw5 hg5 HOW3 HGR3
      go_upto_region 8 with fail
      clear hcell
      refine wp_region_noPanic ?_
      refine yN (G := Until 10 (fun _ => True) (fun W => W.cell? ⟨kb, q, none⟩ = some (.string X))) (by kernel_rfl) ?_
      rw [← HW5.out]
      refine takeC (i := 0) (v := ?_) rfl rfl (Or.inl ⟨by rfl, ?_⟩) ⟨trivial, fun _ => C.out⟩ ?_
      rotate_left
      ·(intro wz hz; (try dsimp only at hz); go_simp; (try with_reducible rfl))
      try simp only [Act.put, sPa, sPb, sPc]
      refine takeC (i := 1) (v := ?_) rfl rfl (Or.inl ⟨by rfl, ?_⟩) ⟨trivial, fun _ => C.out⟩ ?_
      rotate_left
      ·(intro wz hz; (try dsimp only at hz); go_simp; (try with_reducible rfl))
      try simp only [Act.put, sPa, sPb, sPc]
      refine takeC (i := 2) (v := ?_) rfl rfl (Or.inl ⟨by rfl, ?_⟩) ⟨trivial, fun _ => C.out⟩ ?_
      rotate_left
      ·(intro wz hz; (try dsimp only at hz); go_simp; (try with_reducible rfl))
      try simp only [Act.put, sPa, sPb, sPc]
      refine takeC (i := 3) (v := ?_) rfl rfl (Or.inl ⟨by rfl, ?_⟩) ⟨trivial, fun _ => C.out⟩ ?_
      rotate_left
      ·(intro wz hz; (try dsimp only at hz); go_simp; (try with_reducible rfl))
      try simp only [Act.put, sPa, sPb, sPc]
      refine takeD (i := 4) (v := ?_) rfl rfl (Or.inl ⟨by rfl, ?_⟩) ⟨trivial, fun _ => C.out⟩ ?_
      rotate_left
      ·(rintro wz ⟨-, hz⟩; (try dsimp only at hz); go_simp; (try with_reducible rfl))
      try simp only [Act.put, sPa, sPb, sPc]
      refine takeC (i := 5) (v := ?_) rfl rfl (Or.inl ⟨by rfl, ?_⟩) ⟨trivial, fun _ => C.out⟩ ?_
      rotate_left
      ·(intro wz hz; (try dsimp only at hz); go_simp; (try with_reducible rfl))
      try simp only [Act.put, sPa, sPb, sPc]
      refine takeC (i := 6) (v := ?_) rfl rfl (Or.inl ⟨by rfl, ?_⟩) ⟨trivial, fun _ => C.out⟩ ?_
      rotate_left
      ·(intro wz hz; (try dsimp only at hz); go_simp; (try with_reducible rfl))
      try simp only [Act.put, sPa, sPb, sPc]
      refine takeC (i := 7) (v := ?_) rfl rfl (Or.inl ⟨by rfl, ?_⟩) ⟨trivial, fun _ => C.out⟩ ?_
      rotate_left
      ·(intro wz hz; (try dsimp only at hz); go_simp; (try with_reducible rfl))
      try simp only [Act.put, sPa, sPb, sPc]
      refine oneG (i := 8) (by kernel_rfl) rfl (fun K hK => ?_)
      go_simp
      have hgn := heap_alloc_new w5 (.cells #[.int .u8 (97 + (a : Int))] 5)
      have hg6 := World.grownBy_alloc w5 (.cells #[.int .u8 (97 + (a : Int))] 5) none
      obtain ⟨g6, hg6e⟩ : ∃ g6, g6 = w5.heap.size := ⟨_, rfl⟩
      obtain ⟨w6, hw6⟩ : ∃ w6, w6 = w5.alloc (.cells #[.int .u8 (97 + (a : Int))] 5) := ⟨_, rfl⟩
      rw [← hg6e] at hgn ⊢
      rw [← hw6] at hgn hg6 ⊢
      have hb6 := zJ hgn 0 (by simp)
      simp only [List.getElem_toArray, List.getElem_cons_zero] at hb6
      have HO6 := Kh (zY HO5.out hg6 (by simp)); have HG6 := Kh (zF HG5.out hg6 (by simp))
      have C6 := Kh (zX C.out hg6)
      refine hK.out _ _ ⟨trivial, fun _ => C6.out⟩ ?_
      clear hK K hgn hg6 hg6e hw6 HO5 HG5 C
      try simp only [Act.put, sPa, sPb, sPc]
      refine oneG (i := 9) (by kernel_rfl) rfl (fun K hK => ?_)
      go_simp
      refine hK.out _ _ ⟨trivial, fun _ => C6.out⟩ ?_
      clear hK K
      try simp only [Act.put, sPa, sPb, sPc]
      refine oneG (i := 10) (by kernel_rfl) rfl (fun K hK => ?_)
      go_simp
      refine hK.out _ _ ⟨trivial, fun h => by simp at h⟩ ?_
      clear hK K
      try simp only [Act.put, sPa, sPb, sPc]
      refine oneG (i := 11) (by kernel_rfl) rfl (fun K hK => ?_)
      go_simp
      have hgn := heap_alloc_new w6 (.cells #[.string (X ++ Y)] 9)
      have hg7 := World.grownBy_alloc w6 (.cells #[.string (X ++ Y)] 9) none
      have ho7 := zY HO6.out hg7 (by simp)
      refine hK.out _ _ ⟨trivial, fun h => by simp at h⟩ ?_
      clear hK K
      try simp only [Act.put, sPa, sPb, sPc]
      have hsz7 : P ≤ w6.heap.size := by have := HG6.out.size; have := HPE.out; omega
      refine oneG (i := 12) (by kernel_rfl) rfl (fun K hK => ?_)
      refine step_app1 rfl (.tmp 29) (.tmp 40) 31 rfl elem_string P _ _ _ rfl ho7 _ _ _ rfl hgn rfl ?g1 ?g2 ?g3 ?_
      case g1 => unfold maxLen; omega
      case g2 => omega
      case g3 => rw [zM]; omega
      intro sa' sc' w8 hown8 hg8
      refine hK.out _ _ ⟨trivial, fun h => by simp at h⟩ ?_
      clear hK K
      try simp only [Act.put, sPa, sPb, sPc]
      refine oneG (i := 13) (by kernel_rfl) rfl (fun K hK => ?_)
      go_simp
      refine hK.out _ _ ⟨trivial, fun h => by simp at h⟩ ?_
      clear hK K
      try simp only [Act.put, sPa, sPb, sPc]
      refine doneG (by kernel_rfl) ?_ _
      refine NoPanic.normal ?_
      have HO8 := Kh hown8
      have HG8 := Kh (zF (zF HG6.out hg7 (by simp)) hg8 (fun k e => by have := (ho7.lt k e).1; have := HPE.out; omega))
      clear hown8 hg8 hg7 ho7 hgn
      go_wp2
      go_roundg (letters - (a + 1))
      case measure => have := HG3.out; omega
      case rel =>
       refine ⟨a + 1, sa', sc', by omega, by go_num, by rw [Nat.add_assoc], ?_, HG8.out, by have := HXL.out; omega⟩
       rw [wIn_succ, ← HU.out, show strsL (wIn letters most q a ++ [U ++ [a]]) = strsL (wIn letters most q a) ++ [.string (X ++ Y)] by rw [HXY.out]; simp [strsL], ← Nat.add_assoc]
       exact HO8.out
     ·have hu' : ¬ (X.size : Int) < most := by omega
      have ha0 : a = 0 := HZ.out (by have := HXL.out; omega)
      subst ha0
      have hst := wAt_stay (letters := letters) (most := most) (i := q) (by rw [← HU.out]; have := HXL.out; omega)
      have HST := Kh hst
      clear hst
      go_wp2
      go_roundg (7 - (q + 1))
      case measure => have := HG2.out; omega
      case rel =>
       refine ⟨q + 1, some ⟨kb, 0, none⟩, sd, by omega, by go_num, ?_, ?_, HGR3.out⟩
       ·rw [HST.out, ← HM.out]
       ·have := HOW3.out
        rw [wIn_zero] at this
        rw [HST.out, ← HM.out]; exact this
    ·have hal : a = letters := by have := HG3.out; omega
     subst hal
     have hlt : U.length < most := by
      rcases Nat.lt_or_ge U.length most with h | h
      ·exact h
      ·have := HZ.out h; omega
     have HST := Kh (wAt_step (letters := a) (most := most) (i := q) (by have := HM.out; omega) (by rw [← HU.out]; exact hlt))
     go_wp2
     go_roundg (7 - (q + 1))
     case measure => have := HG2.out; omega
     case rel =>
      have hl2 : (wAt a most (q + 1)).length = m + a := by rw [HST.out, wIn_length, ← HM.out]
      refine ⟨q + 1, some ⟨kb, 0, none⟩, sd, by omega, by go_num, by rw [hl2], ?_, HGR3.out⟩
      rw [hl2, HST.out]; exact HOW3.out
  ·have hq' : ¬ (q : Int) < m := by omega
   have HF2 := Kh (f2 hq)
   clear f1 f2 f3 f4
   go_wp2
   go_ret
   refine ⟨sa, sc, ?_, ?_, HGR.out⟩
   ·rw [← HF2.out, ← HM.out]; rfl
   ·rw [← HF2.out, ← HM.out, ← HPE.out]; exact HOW.out
end Go.Proofs.YtdjhoadoiknaoaaDoor
