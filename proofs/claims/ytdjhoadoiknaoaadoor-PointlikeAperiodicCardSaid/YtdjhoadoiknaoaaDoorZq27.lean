/- Part 27 of the proof: MDfa, MWords. -/
import Derived.Test.YtdjhoadoiknaoaaDoorZq26
set_option linter.unusedVariables false
set_option linter.unusedSimpArgs false
namespace Go.Proofs.YtdjhoadoiknaoaaDoor
open Go.RowKit
def DealtDfa (B tb : Nat) (w : World) (letters most : Nat) (e : Ending) (w' : World) : Prop :=
 ∃ (v : Value) (m : DfaV) (n : Nat), e = .returned v ∧ DfaOwn w w' v m ∧ VD m n letters ∧ n ≤ most ∧ xT B w' tb ∧ w.grownBy w' (some tb)
set_option maxRecDepth 100000 in
set_option maxHeartbeats 1000000 in
theorem mdfa_any (B tb : Nat) (w : World) (letters most : Nat) (h1 : 1 ≤ letters) (h6 : letters ≤ 6) (hm1 : 1 ≤ most) (hm : most ≤ 500) (hT : xT B w tb) :
  Calls Tryd.prog 42 #[.pointer (some ⟨tb, 0, none⟩), .int .i64 (letters : Int), .int .i64 (most : Int)] w (DealtDfa B tb w letters most) := by
 have htb := hT.lt
 have hBt := hT.ge
 obtain ⟨wA, hWA⟩ : ∃ wA, wA = (w.alloc (.cells #[.int .i64 0, .int .i64 0, .slice none 0 0, .slice none 0 0] 28)).alloc (.cells #[.int .i64 letters, .int .i64 0, .slice none 0 0, .slice none 0 0] 28) := ⟨_, rfl⟩
 obtain ⟨hb1, hb2, hgA, hzA⟩ := two_boxes w #[.int .i64 0, .int .i64 0, .slice none 0 0, .slice none 0 0] #[.int .i64 letters, .int .i64 0, .slice none 0 0, .slice none 0 0] 28
 rw [← hWA] at hb1 hb2 hgA hzA
 obtain ⟨P, hP⟩ : ∃ P, P = w.heap.size := ⟨_, rfl⟩
 have HPE := Kh hP
 rw [← hP] at hb1 hb2 hzA htb
 have hTA := hT.kept hgA (by simp)
 have HB1 := Kh hb1; have HB2 := Kh hb2; have HGA := Kh hgA; have HWA := Kh hWA; have HTA := Kh hTA
 clear hb1 hb2 hgA hWA hTA hT
 go_enter Tryd.func42, Tryd.ntmps42
 go_upto_region 2 with fail
 rw [← HWA.out, ← HPE.out]
 clear hP
 go_wp2_with fail
 refine (tN B tb _ _ (by omega) HTA.out).mono ?_
 rintro e w1 ⟨r, rfl, hr0, hr1, hT1, hg1⟩
 replace hr1 := hr1 (by omega)
 obtain ⟨n, rfl⟩ : ∃ n : Nat, r = (n : Int) - 1 := ⟨(r + 1).toNat, by omega⟩
 have hn1 : 1 ≤ n := by omega
 have hn2 : n ≤ most := by omega
 have hn0 : (1 : Int) + ((n : Int) - 1) = n := by omega
 have HT1 := Kh hT1; have HG1 := Kh hg1; have HN0 := Kh hn0
 clear hr0 hr1 hT1 hg1
 go_wp2_with fail
 refine (tN B tb _ _ (by omega) HT1.out).mono ?_
 rintro e w2 ⟨s, rfl, hs0, hs1, hT2, hg2⟩
 replace hs1 := hs1 (by omega)
 obtain ⟨s, rfl⟩ : ∃ s' : Nat, s = s' := ⟨s.toNat, by omega⟩
 have hg12 := zF HG1.out hg2
 have hbo := zE HB2.out hg12 (by simp; omega)
 obtain ⟨c0, c1, c2, c3⟩ := zO hbo
 have f1 := frozen_of_row w2 (P + 1) 1 _ _ hbo
 have HT2 := Kh hT2; have HG2 := Kh hg12
 clear hT2 hg2 hg12 HT1 HG1
 go_wp2
 obtain ⟨w3, hw3⟩ : ∃ w3, w3 = w2.setCell ⟨P + 1, 1, none⟩ (.int .i64 (s : Int)) := ⟨_, rfl⟩
 have hb3 : w3.heap[P + 1]? = some (.cells #[.int .i64 (letters : Int), .int .i64 (s : Int), .slice none 0 0, .slice none 0 0] 28 (0, 0)) := by rw [hw3, heap_setCell_same w2 (P + 1) 1 _ _ _ hbo]; simp
 have hg3 : w2.grownBy w3 (some (P + 1)) := by rw [hw3]; exact zH w2 ⟨P + 1, 1, none⟩ _
 have hb31 := zE (zE HB1.out HG2.out (by simp; omega)) hg3 (by simp)
 have hT3 := HT2.out.kept hg3 (fun k e => by have := Option.some.inj e; subst this; omega)
 have hgw : w.grownBy w3 (some tb) := zG (zF (zG (zX w (some tb)) HGA.out (by simp)) HG2.out) hg3 (fun x e => by have := Option.some.inj e; have := HPE.out; omega)
 have hH3 : Half (P + 1) w3 (P + 1) letters s [] [] [] none 0 none 0 := ⟨hb3, World.ownsRow_nil _ _ _ _, World.ownsRow_nil _ _ _ _, OwnsT.nil⟩
 have H3 := Kh hH3; have HB3 := Kh hb31; have HT3 := Kh hT3; have HG3 := Kh hgw
 rw [← hw3]
 clear hw3 hb3 hg3 hb31 hT3 hgw hH3 c0 c1 c2 c3 f1 hbo HT2 HG2
 go_loopg [9, 10, 11] n (fun gh i v10 v11 wr => ∃ (q : Nat) (fs : List Bool) (t : List (List Int)) (hs : List Value) (sf : Option Addr) (cf : Nat) (sn : Option Addr) (cn : Nat), gh + q = n ∧ i = .int .i64 q ∧ fs.length = q ∧ t.length = q ∧ sS t n letters ∧ Half (P + 1) wr (P + 1) letters s fs t hs sf cf sn cn ∧ xT B wr tb ∧ wr.heap[P]? = some (.cells #[.int .i64 0, .int .i64 0, .slice none 0 0, .slice none 0 0] 28 (0, 0)) ∧ w.grownBy wr (some tb))
 case atStart => exact ⟨0, [], [], [], none, 0, none, 0, by omega, rfl, rfl, rfl, (fun r hr => by simp at hr), H3.out, HT3.out, HB3.out, HG3.out⟩
 case round =>
  obtain ⟨q, fs, t, hs, sf, cf, sn, cn, hg, rfl, rfl, htl, hri, hH, hTr, hb1r, hgr⟩ := hrel
  have HG := Kh hg; have HH := Kh hH; have HTR := Kh hTr; have HB1R := Kh hb1r; have HGR := Kh hgr; have HRI := Kh hri
  clear hg hH hTr hb1r hgr hri H3 HB3 HT3 HG3
  by_cases hq : fs.length < n
  ·have hq' : (fs.length : Int) < n := by omega
   obtain ⟨w5, hw5⟩ : ∃ w5, w5 = wr.drew := ⟨_, rfl⟩
   have hg5 : wr.grownBy w5 none := by rw [hw5]; exact zZ wr none
   have HW5 := Kh hw5
   have HH5 := Kh (HH.out.grow hg5); have HT5 := Kh (HTR.out.kept hg5 (by simp)); have HG5 := Kh (zG HGR.out hg5 (by simp)); have HB5 := Kh (zE HB1R.out hg5 (by simp))
   obtain ⟨d0, d1, d2, d3⟩ := zO HH5.out.box
   have C2 := Kh d2
   clear hw5 hg5 d0 d1 d2 d3 HH HTR HGR HB1R
   go_upto_region 7 with fail
   refine wp_region_noPanic ?_
   refine yQ (G := Until 8 (fun _ => True) (fun W => W.cell? ⟨P + 1, 2, none⟩ = some (.slice sf fs.length cf))) (by kernel_rfl) ?_
   rw [← HW5.out]
   refine takeC (i := 0) (v := ?_) rfl rfl (Or.inl ⟨by rfl, ?_⟩) ⟨trivial, fun _ => C2.out⟩ ?_
   rotate_left
   ·(intro wz hz; (try dsimp only at hz); go_simp; (try with_reducible rfl))
   try simp only [Act.put, sPa, sPb, sPc]
   refine takeD (i := 1) (v := ?_) rfl rfl (Or.inl ⟨by rfl, ?_⟩) ⟨trivial, fun _ => C2.out⟩ ?_
   rotate_left
   ·(rintro wz ⟨-, hz⟩; (try dsimp only at hz); go_simp; (try with_reducible rfl))
   try simp only [Act.put, sPa, sPb, sPc]
   refine takeC (i := 2) (v := ?_) rfl rfl (Or.inl ⟨by rfl, ?_⟩) ⟨trivial, fun _ => C2.out⟩ ?_
   rotate_left
   ·(intro wz hz; (try dsimp only at hz); go_simp; (try with_reducible rfl))
   try simp only [Act.put, sPa, sPb, sPc]
   refine oneG (i := 3) (by kernel_rfl) rfl (fun K hK => ?_)
   go_simp
   go_at_call 43
   refine (tN B tb _ _ (by omega) HT5.out).mono ?_
   rintro e w6 ⟨b, rfl, hb0, hb1, hT6, hg6⟩
   have hH6 := HH5.out.tape HT5.out hg6
   obtain ⟨d0, d1, d2, d3⟩ := zO hH6.box
   have C2 := Kh d2
   refine hK.out _ _ ⟨trivial, fun _ => C2.out⟩ ?_
   clear hK K d0 d1 d2 d3
   try simp only [Act.put, sPa, sPb, sPc]
   refine takeC (i := 4) (v := ?_) rfl rfl (Or.inl ⟨by rfl, ?_⟩) ⟨trivial, fun _ => C2.out⟩ ?_
   rotate_left
   ·(intro wz hz; (try dsimp only at hz); go_simp; (try with_reducible rfl))
   try simp only [Act.put, sPa, sPb, sPc]
   refine oneG (i := 5) (by kernel_rfl) rfl (fun K hK => ?_)
   go_simp
   have hH7 := hH6.grow (World.grownBy_alloc w6 (.cells #[.bool (decide (b = 1))] 4) none)
   have hgn := heap_alloc_new w6 (.cells #[.bool (decide (b = 1))] 4)
   obtain ⟨d0, d1, d2, d3⟩ := zO hH7.box
   refine hK.out _ _ ⟨trivial, fun _ => d2⟩ ?_
   clear hK K d0 d1 d2 d3
   try simp only [Act.put, sPa, sPb, sPc]
   have hz7 : P + 2 ≤ w6.heap.size := by have := zT hH6.box; omega
   refine oneG (i := 6) (by kernel_rfl) rfl (fun K hK => ?_)
   refine step_app1 rfl (.tmp 28) (.tmp 32) 25 rfl xX (P + 1) _ _ _ rfl hH7.ownF _ _ _ rfl hgn rfl ?g1 ?g2 ?g3 ?_
   case g1 => unfold maxLen; omega
   case g2 => omega
   case g3 => rw [zM]; omega
   intro sa' sc' w8 hown8 hg8
   have hbx := zE hH7.box hg8 (fun e => zQ hH7.ownF hH7.box (by decide) e)
   obtain ⟨d0, d1, d2, d3⟩ := zO hbx
   have f2 := zD hbx 2
   refine hK.out _ _ ⟨trivial, fun _ => d2⟩ ?_
   clear hK K
   try simp only [Act.put, sPa, sPb, sPc]
   have C2 := Kh d2
   refine takeC (i := 7) (v := ?_) rfl rfl (Or.inl ⟨by rfl, ?_⟩) ⟨trivial, fun _ => C2.out⟩ ?_
   rotate_left
   ·(intro wz hz; (try dsimp only at hz); go_simp; (try with_reducible rfl))
   try simp only [Act.put, sPa, sPb, sPc]
   refine oneG (i := 8) (by kernel_rfl) rfl (fun K hK => ?_)
   go_simp
   refine hK.out _ _ ⟨trivial, fun h => by simp at h⟩ ?_
   clear hK K d0 d1 d2 d3 f2 hbx
   try simp only [Act.put, sPa, sPb, sPc]
   refine doneG (by kernel_rfl) ?_ _
   refine NoPanic.normal ?_
   obtain ⟨hF, hgF⟩ := hH7.pushF hown8 hg8 rfl
   have hT9 := ((hT6.kept (World.grownBy_alloc w6 (.cells #[.bool (decide (b = 1))] 4) none) (by simp)).kept hg8 (fun k e => by have := (hH7.ownF.lt k e).1; omega)).kept (zH w8 ⟨P + 1, 2, none⟩ (.slice sa' (fs.length + 1) sc')) (fun k e => by have e : P + 1 = k := Option.some.inj e; omega)
   have hb9 := zE (zE (zE (zE HB5.out hg6 (by simp; omega)) (World.grownBy_alloc w6 (.cells #[.bool (decide (b = 1))] 4) none) (by simp)) hg8 (fun e => by have := (hH7.ownF.lt _ e).1; omega)) (zH w8 ⟨P + 1, 2, none⟩ (.slice sa' (fs.length + 1) sc')) (by simp)
   have hg9 : w.grownBy (w8.setCell ⟨P + 1, 2, none⟩ (.slice sa' (fs.length + 1) sc')) (some tb) := zG (zG (zG (zF HG5.out hg6) (World.grownBy_alloc w6 (.cells #[.bool (decide (b = 1))] 4) none) (by simp)) hg8 (fun k e => by have := (hH7.ownF.lt k e).1; have := HPE.out; omega)) (zH w8 ⟨P + 1, 2, none⟩ (.slice sa' (fs.length + 1) sc')) (fun k e => by have e : P + 1 = k := Option.some.inj e; have := HPE.out; omega)
   obtain ⟨w9, hw9⟩ : ∃ w9, w9 = w8.setCell ⟨P + 1, 2, none⟩ (.slice sa' (fs.length + 1) sc') := ⟨_, rfl⟩
   rw [← hw9] at hF hT9 hb9 hg9 ⊢
   have HF := Kh hF; have HT9 := Kh hT9; have HB9 := Kh hb9; have HG9 := Kh hg9
   clear hw9 hgF hF hT9 hb9 hg9 hown8 hg8 hgn hH7 hH6 hT6 hg6 C2 HH5 HT5 HG5 HB5 HW5
   go_wp2
   go_loopg [10, 11] letters (fun gh ov i wx => ∃ (a : Nat) (row : List Int) (sr : Option Addr) (cr : Nat), gh + a = letters ∧ i = .int .i64 a ∧ row.length = a ∧ ov = .slice sr row.length cr ∧ (∀ x ∈ row, 0 ≤ x ∧ x < n) ∧ wx.ownsRow w9.heap.size 3 1 (.slice sr row.length cr) row.length (ints row) ∧ xT B wx tb ∧ w9.grownBy wx (some tb))
   case atStart => exact ⟨0, [], none, 0, by omega, rfl, rfl, rfl, (fun x hx => by simp at hx), World.ownsRow_nil _ _ _ _, HT9.out, zX _ _⟩
   case round =>
    obtain ⟨a, row, sr, cr, hg, rfl, rfl, rfl, hrl, hown, hTx, hgx⟩ := hrel
    have HGA2 := Kh hg; have HOWR := Kh hown; have HTX := Kh hTx; have HGX := Kh hgx
    clear hg hown hTx hgx
    by_cases ha : row.length < letters
    ·have ha' : (row.length : Int) < letters := by omega
     have htx := HTX.out.lt
     go_wp2_with fail
     refine (tN B tb _ _ (by omega) HTX.out).mono ?_
     rintro e wy ⟨x, rfl, hx0, hx1, hTy, hgy⟩
     replace hx1 := hx1 (by omega)
     have hzt : tb < w9.heap.size := HT9.out.lt
     have hownY := yB HOWR.out hgy (by simpa using hzt)
     have hzy := (zF HGX.out hgy).size
     have HOY := Kh hownY; have HTY := Kh hTy; have HGY := Kh (zF HGX.out hgy)
     clear hownY hTy hgy
     go_wp2_with (first | (at_builtin; refine app1 rfl _ _ _ rfl yD w9.heap.size _ row.length (ints row) rfl HOY.out _ rfl rfl ?c1 ?c2 ?c3 ?_) | fail)
     case c1 => unfold maxLen; omega
     case c2 => omega
     case c3 => exact hzy
     intro sr' cr' w10 hown10 hg10 hlt10
     have HO10 := Kh hown10
     have HT10 := Kh (HTY.out.kept hg10 (fun k e => by have := (HOY.out.lt k e).1; omega))
     have HG10 := Kh (zG HGY.out hg10 (fun k e => (HOY.out.lt k e).1))
     clear hown10 hg10
     go_wp2
     go_roundg (letters - (row.length + 1))
     case measure => have := HGA2.out; omega
     case rel =>
      refine ⟨row.length + 1, row ++ [x], sr', cr', by omega, by go_num, by simp, by simp, ?_, ?_, HT10.out, HG10.out⟩
      ·intro y hy
       rcases List.mem_append.1 hy with hy | hy
       ·exact hrl y hy
       ·rw [List.mem_singleton] at hy; subst hy; exact ⟨hx0, hx1⟩
      ·rw [show ints (row ++ [x]) = ints row ++ [.int .i64 x] by simp [ints], List.length_append, List.length_singleton]
       exact HO10.out
    ·have hrn : row.length = letters := by have := HGA2.out; omega
     have hH := HF.out.tape HT9.out HGX.out
     have hzp : P + 1 ≤ w9.heap.size := Nat.le_of_lt (zT HF.out.box)
     have hrow := yJ HOWR.out hzp
     have hdis : ∀ i (hi : i < hs.length), ∀ k, hs[i].ownBlock = some k → (Value.slice sr row.length cr).ownBlock ≠ some k := fun i hi k hk e => by
      have h1 := (HF.out.rows.lt hi hk).2
      have h2 := (HOWR.out.lt k e).1
      omega
     have HDIS := Kh hdis
     obtain ⟨d0, d1, d2, d3⟩ := zO hH.box
     have hzx := zT hH.box
     have hlt9 := HT9.out.lt
     have HHX := Kh hH; have HRW := Kh hrow; have HRN := Kh hrn
     have HGW := Kh (zF HG9.out HGX.out); have HBX := Kh (zE HB9.out HGX.out (by simp; omega))
     clear hH hrow hrn hdis d0 d1 d2 HOWR HGX HF HT9 HG9 HB9
     have HON := Kh HHX.out.ownN
     have HTL := Kh htl
     clear htl
     go_wp2_with (first | (at_builtin; refine app1 rfl _ _ _ rfl wK (P + 1) _ t.length hs rfl HON.out _ rfl rfl ?c1 ?c2 ?c3 ?_) | fail)
     case c1 => have := HTL.out; unfold maxLen; omega
     case c2 => have := HTL.out; omega
     case c3 => omega
     intro sn' cn' w11 hown11 hg11 hlt11
     have hbx := zE HHX.out.box hg11 (fun e => zQ HHX.out.ownN HHX.out.box (by decide) e)
     obtain ⟨d0, d1, d2, d3⟩ := zO hbx
     have f2 := zD hbx 3
     obtain ⟨hN, hgN⟩ := HHX.out.pushN hown11 hg11 HRW.out HDIS.out rfl
     have hTN := (HTX.out.kept hg11 (fun k e => by have := (HHX.out.ownN.lt k e).1; omega)).kept (zH w11 ⟨P + 1, 3, none⟩ (.slice sn' (t.length + 1) cn')) (fun k e => by have e : P + 1 = k := Option.some.inj e; omega)
     have hbN := zE (zE HBX.out hg11 (fun e => by have := (HHX.out.ownN.lt _ e).1; omega)) (zH w11 ⟨P + 1, 3, none⟩ (.slice sn' (t.length + 1) cn')) (by simp)
     have hgN2 : w.grownBy (w11.setCell ⟨P + 1, 3, none⟩ (.slice sn' (t.length + 1) cn')) (some tb) := zG (zG HGW.out hg11 (fun k e => by have := (HHX.out.ownN.lt k e).1; have := HPE.out; omega)) (zH w11 ⟨P + 1, 3, none⟩ (.slice sn' (t.length + 1) cn')) (fun k e => by have e : P + 1 = k := Option.some.inj e; have := HPE.out; omega)
     have HGK := Kh hN; have HTN2 := Kh hTN; have HBN2 := Kh hbN; have HGN2 := Kh hgN2
     clear hgN hbx hN hTN hbN hgN2 hown11 hg11
     go_wp2
     go_roundg (n - (fs.length + 1))
     case measure => have := HG.out; omega
     case rel =>
      refine ⟨fs.length + 1, fs ++ [decide (b = 1)], t ++ [row], _, sa', sc', sn', cn', by omega, by go_num, by simp, by simp [HTL.out], ?_, HGK.out, HTN2.out, HBN2.out, HGN2.out⟩
      intro r hr
      rcases List.mem_append.1 hr with hr | hr
      ·exact HRI.out r hr
      ·rw [List.mem_singleton] at hr; subst hr; exact ⟨HRN.out, hrl⟩
  ·have hfn : fs.length = n := by have := HG.out; omega
   have hB := HH.out
   have HFN := Kh hfn; have HBU := Kh hB
   obtain ⟨d0, d1, d2, d3⟩ := zO HH.out.box
   obtain ⟨e0, e1, e2, e3⟩ := zO HB1R.out
   have f0 := zD HB1R.out 0; have f1 := zD HB1R.out 1; have f2 := zD HB1R.out 2; have f3 := zD HB1R.out 3
   have HTL := Kh htl
   clear hB hfn htl
   go_wp2
   refine bodyPost_ret (v := .agg #[.int .i64 letters, .int .i64 s, .slice sf fs.length cf, .slice sn t.length cn]) (by simp [results, Tryd.results42, go_sem, e0, e1, e2, e3]) rfl ?_
   obtain ⟨hsR, hgR⟩ := dbox_set HB1R.out (.int .i64 letters) (.int .i64 s) (.slice sf fs.length cf) (.slice sn t.length cn)
   have htb2 := HTR.out.lt
   have hfn := HFN.out; have htl := HTL.out
   refine ⟨_, ⟨letters, s, fs, t⟩, n, rfl, ⟨P + 1, hs, sf, cf, sn, cn, rfl, by have := HPE.out; omega, (HBU.out.base (by have := HPE.out; omega)).far hgR HB1R.out (by omega)⟩, HRI.out.vd h1 h6 hn1 (by omega) hfn (htl.trans hfn) hs0 hs1, hn2, HTR.out.kept hgR (fun k e => by have e : P = k := Option.some.inj e; omega), zG HGR.out hgR (fun k e => by have e : P = k := Option.some.inj e; have := HPE.out; omega)⟩
def strsL (l : List (List Nat)) : List Value := l.map fun u => .string (strOfNums (lets u))
theorem owns_lit {W : World} {e base g : Nat} {xs : List Value} {k : Nat} (h : W.heap[g]? = some (.cells xs.toArray e (0, 0))) (hb : base ≤ g) (hk : xs.length = k) (hm : k ≤ maxLen) : W.ownsRow base e 1 (.slice (some ⟨g, 0, none⟩) k k) k xs :=
 ⟨by omega, .inr ⟨g, k, xs.toArray, rfl, hb, h, Nat.le_refl _, hm, by simp [hk], by simp [← hk]⟩⟩
end Go.Proofs.YtdjhoadoiknaoaaDoor
