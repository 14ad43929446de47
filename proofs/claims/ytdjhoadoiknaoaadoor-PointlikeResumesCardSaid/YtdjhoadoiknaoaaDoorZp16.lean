/- Part 16 of the proof: Advance, RAdv, DfaAt. -/
import Derived.Test.YtdjhoadoiknaoaaDoorZp15
set_option linter.unusedVariables false
set_option linter.unusedSimpArgs false
namespace Go.Proofs.YtdjhoadoiknaoaaDoor
open Go.RowKit
noncomputable def advE (t : List (List Int)) (im zs : List Int) (bud : Int) : Int :=
 if xD t im ≠ 0 then xD t im else if bud < 1 ∨ 1048576 < bud then 1 else if famB t.length zs = true then 0 else 8
theorem advE_check {t : List (List Int)} {im zs : List Int} {bud : Int} (h : xD t im ≠ 0) : advE t im zs bud = xD t im := by rw [advE, if_pos h]
theorem advE_arg {t : List (List Int)} {im zs : List Int} {bud : Int} (h : xD t im = 0) (hb : bud < 1 ∨ 1048576 < bud) : advE t im zs bud = 1 := by rw [advE, if_neg (by omega), if_pos hb]
theorem advE_fam {t : List (List Int)} {im zs : List Int} {bud : Int} (h : xD t im = 0) (hb : ¬ (bud < 1 ∨ 1048576 < bud)) (hf : famB t.length zs = false) : advE t im zs bud = 8 := by rw [advE, if_neg (by omega), if_neg hb, if_neg (by rw [hf]; simp)]
theorem advE_ok {t : List (List Int)} {im zs : List Int} {bud : Int} (h : xD t im = 0) (hb : ¬ (bud < 1 ∨ 1048576 < bud)) (hf : famB t.length zs = true) : advE t im zs bud = 0 := by rw [advE, if_neg (by omega), if_neg hb, if_pos hf]
def advL (t : List (List Int)) (zs : List Int) (d : Bool) (bud : Int) : List Nat × Bool := yN t.length (entN t) bud.toNat (natL zs, d)
def AdvOk (w : World) (t : List (List Int)) (im zs : List Int) (d : Bool) (bud : Int) (e : Ending) (w' : World) : Prop :=
 w.grownBy w' none ∧ ((advE t im zs bud ≠ 0 ∧ e = .returned (.tuple #[.agg #[.slice none 0 0, .bool false], .int .i64 (advE t im zs bud)])) ∨
  (advE t im zs bud = 0 ∧ ∃ v, e = .returned (.tuple #[.agg #[v, .bool (advL t zs d bud).2], .int .i64 0]) ∧ Row w'.heap.size w' v (nats (advL t zs d bud).1)))
def Adv (n : Nat) (tb : Nat → Nat → Nat) (f0 : List Nat × Bool) (k : Nat) (l : List Nat) (d : Bool) : Prop := FamOk n (l, d) ∧ yN n tb k f0 = (l, d)
theorem Adv.step {n : Nat} {tb : Nat → Nat → Nat} {f0 : List Nat × Bool} {k : Nat} {l : List Nat} (ht : Tb n tb) (h : Adv n tb f0 k l false) : Adv n tb f0 (k + 1) (zZ n tb l) (decide (zZ n tb l = l)) := by
 obtain ⟨hf, hk⟩ := h
 refine ⟨famOk_round ht hf, ?_⟩
 rw [uY, hk, vJ]; rfl
theorem Adv.stop {n : Nat} {tb : Nat → Nat → Nat} {f0 : List Nat × Bool} {k m : Nat} {l : List Nat} (h : Adv n tb f0 k l true) (hkm : k ≤ m) : yN n tb m f0 = (l, true) := by
 obtain ⟨j, rfl⟩ : ∃ j, m = k + j := ⟨m - k, by omega⟩
 rw [uY, h.2, wH]
theorem Adv.le {n : Nat} {tb : Nat → Nat → Nat} {f0 : List Nat × Bool} {k : Nat} {l : List Nat} {d : Bool} (h : Adv n tb f0 k l d) : l.length ≤ 2 ^ n := by
 have := maxOf_le n l
 rw [h.1.2] at this
 exact this
theorem tP (w : World) (c1 c2 : Array Value) (e : Nat) : ((w.alloc (.cells c1 e)).alloc (.cells c2 e)).heap[w.heap.size]? = some (.cells c1 e (0, 0)) ∧ ((w.alloc (.cells c1 e)).alloc (.cells c2 e)).heap[w.heap.size + 1]? = some (.cells c2 e (0, 0)) ∧ w.grownBy ((w.alloc (.cells c1 e)).alloc (.cells c2 e)) none ∧ ((w.alloc (.cells c1 e)).alloc (.cells c2 e)).heap.size = w.heap.size + 2 := by
 refine ⟨zE (heap_alloc_new w _) (World.grownBy_alloc _ _ none) (by simp), ?_, wI (World.grownBy_alloc w _ none) _, by rw [zM, zM]⟩
 have := heap_alloc_new (w.alloc (.cells c1 e)) (.cells c2 e)
 rw [zM] at this
 exact this
theorem res_grown {w wr : World} {b : Nat} (h : w.grownBy wr none) (hb : w.heap.size ≤ b) (x y : Value) : w.grownBy ((wr.setCell ⟨b, 0, none⟩ x).setCell ⟨b, 1, none⟩ y) none :=
 zG h (zF (zH wr ⟨b, 0, none⟩ x) (zH (wr.setCell ⟨b, 0, none⟩ x) ⟨b, 1, none⟩ y)) (fun q e => by have : b = q := Option.some.inj e; omega)
theorem owns_shape' {w : World} {base e n : Nat} {v : Value} {xs : List Value} (h : w.ownsRow base e 1 v n xs) (hn : 0 < n) : ∃ kb sc, v = .slice (some ⟨kb, 0, none⟩) n sc := by
 rcases h.2 with ⟨_, h0⟩ | ⟨g, cap, cur, h1, _⟩
 ·omega
 ·exact ⟨g, cap, h1⟩
set_option maxHeartbeats 800000 in
theorem advance_any (B : Nat) (w : World) (v iv sv : Value) (t : List (List Int)) (im zs : List Int) (d : Bool) (bud : Int) (hB : B ≤ w.heap.size) (h : Mat B w v t) (hi : Row B w iv (ints im)) (hs : Row B w sv (ints zs)) (hT : TabOk w) :
  Calls Tryd.prog 27 #[v, iv, .agg #[sv, .bool d], .int .i64 bud] w (AdvOk w t im zs d bud) := by
 have H := Kh h; have HI := Kh hi; have HT := Kh hT
 have hzl := hs.len_le
 rw [zP] at hzl
 unfold maxLen at hzl
 obtain ⟨sa, sc, rfl⟩ := hs.shape
 rw [zP] at hs ⊢
 have HS := Kh hs
 have hgt0 := hT.1
 clear h hi hT hs
 go_enter Tryd.func27, Tryd.ntmps27
 go_wp2_with fail
 obtain ⟨wA, hWA⟩ : ∃ wA, wA = (w.alloc (.cells #[.slice sa zs.length sc, .bool d] 49)).alloc (.cells #[.slice none 0 0, .bool false] 49) := ⟨_, rfl⟩
 obtain ⟨h1, h2, h3, hzA⟩ := tP w #[.slice sa zs.length sc, .bool d] #[.slice none 0 0, .bool false] 49
 rw [← hWA] at h1 h2 h3 hzA ⊢
 have HB1 := Kh h1; have HB2 := Kh h2; have HGA := Kh h3
 clear hWA h1 h2 h3
 refine (check_any B wA v iv t im (by omega) (H.out.kept HGA.out (by simp)) (HI.out.kept HGA.out (by simp))).mono ?_
 rintro e w1 ⟨rfl, hg1⟩
 have hz1 := hg1.size
 have HC1 := Kh (zE HB1.out hg1 (by simp)); have HC2 := Kh (zE HB2.out hg1 (by simp))
 have HG1 := Kh (zF HGA.out hg1)
 have cr0 := zI HC2.out 0 (by simp)
 have cr1 := zI HC2.out 1 (by simp)
 have fr0 := zD HC2.out 0
 have fr1 := zD HC2.out 1
 have cb0 := zI HC1.out 0 (by simp)
 have cb1 := zI HC1.out 1 (by simp)
 simp only [List.getElem_toArray, List.getElem_cons_zero, List.getElem_cons_succ] at cr0 cr1 cb0 cb1
 clear hg1 HB1 HB2 HGA
 by_cases hz : xD t im = 0
 ·rw [hz]
  have HZ := Kh hz
  have hgd := checkE_good.1 hz
  have HGD := Kh hgd
  have hle := hgd.le
  have hva := hgd.valid
  have HTB := Kh (tb_of hva)
  have HVA := Kh hva
  clear hz hgd hva
  by_cases hb : bud < 1 ∨ 1048576 < bud
  ·have HE := Kh (advE_arg (zs := zs) HZ.out hb)
   have hfin : ∀ wr : World, AdvOk w t im zs d bud (.returned (.tuple #[.agg #[.slice none 0 0, .bool false], .int .i64 1])) ((w1.setCell ⟨w.heap.size + 1, 0, none⟩ (.slice none 0 0)).setCell ⟨w.heap.size + 1, 1, none⟩ (.bool false)) := fun _ => ⟨res_grown HG1.out (by omega) _ _, .inl (by rw [HE.out]; exact ⟨by omega, rfl⟩)⟩
   have HFIN := Kh hfin
   clear hfin
   by_cases hb1 : bud < 1
   ·clear hb
    go_wp2
    exact bodyPost_ret (v := .tuple #[.agg #[.slice none 0 0, .bool false], .int .i64 1]) (by simp [results, Tryd.results27, go_sem, cr0, cr1]) rfl (HFIN.out w)
   ·have hb2 : 1048576 < bud := by omega
    clear hb
    go_wp2
    exact bodyPost_ret (v := .tuple #[.agg #[.slice none 0 0, .bool false], .int .i64 1]) (by simp [results, Tryd.results27, go_sem, cr0, cr1]) rfl (HFIN.out w)
  ·have hb1 : 1 ≤ bud := by omega
   have hb2 : bud ≤ 1048576 := by omega
   have HBU := Kh hb
   have HVF := Kh (validFamily_any B w1 v _ t zs (by omega) (H.out.kept HG1.out (by simp)) (HS.out.kept HG1.out (by simp)) HVA.out hle (HT.out.kept HG1.out (by simp)))
   clear hb
   go_wp2_with fail
   refine HVF.out.mono ?_
   rintro e w2 ⟨rfl, hg2⟩
   have hz2 := hg2.size
   have HD1 := Kh (zE HC1.out hg2 (by simp)); have HD2 := Kh (zE HC2.out hg2 (by simp))
   have HG2 := Kh (zF HG1.out hg2)
   clear cr0 cr1 fr0 fr1 cb0 cb1 hg2 HVF HC1 HC2 HG1
   have cb0 := zI HD1.out 0 (by simp)
   have fb0 := zD HD1.out 0
   simp only [List.getElem_toArray, List.getElem_cons_zero, List.getElem_cons_succ] at cb0
   cases hf : famB t.length zs with
   | false =>
    have HE := Kh (advE_fam HZ.out HBU.out hf)
    have cr0 := zI HD2.out 0 (by simp)
    have cr1 := zI HD2.out 1 (by simp)
    have fr0 := zD HD2.out 0
    have fr1 := zD HD2.out 1
    simp only [List.getElem_toArray, List.getElem_cons_zero, List.getElem_cons_succ] at cr0 cr1
    clear hf
    go_wp2
    exact bodyPost_ret (v := .tuple #[.agg #[.slice none 0 0, .bool false], .int .i64 8]) (by simp [results, Tryd.results27, go_sem, cr0, cr1]) rfl ⟨res_grown HG2.out (by omega) _ _, .inl (by rw [HE.out]; exact ⟨by omega, rfl⟩)⟩
   | true =>
    have HE := Kh (advE_ok HZ.out HBU.out hf)
    obtain ⟨hfam, hpos, hin⟩ := famB_max hf
    have HFAM := Kh hfam; have HIN := Kh hin
    have hln := natL_length zs
    have hlz : zs.length ≤ 2 ^ t.length := by rw [← hln]; have := maxOf_le t.length (natL zs); rw [hfam.2] at this; exact this
    have hp4 := tJ hle
    have HNS := Kh (tU B w2 v t (by omega) (H.out.kept HG2.out (by simp)) HVA.out hle (HT.out.kept HG2.out (by simp)))
    clear hf hfam hin
    go_wp2_with fail
    refine HNS.out.mono ?_
    rintro e w3 ⟨p, go, rfl, hs3, hg3⟩
    have hz3 := hg3.size
    have HS3 := Kh hs3
    have HX1 := Kh (zE HD1.out hg3 (by simp)); have HX2 := Kh (zE HD2.out hg3 (by simp))
    have HG3 := Kh (zF HG2.out hg3)
    clear hs3 hg3 HNS HD1 HD2 HG2 cb0 fb0
    have cb0 := zI HX1.out 0 (by simp)
    have cb1 := zI HX1.out 1 (by simp)
    simp only [List.getElem_toArray, List.getElem_cons_zero, List.getElem_cons_succ] at cb0 cb1
    obtain ⟨ib, io, icc, e, _, _, _, hra⟩ := (HS.out.kept HG3.out (by simp)).some_ (by rw [zP]; omega)
    simp only [Value.slice.injEq] at e
    obtain ⟨rfl, -, -⟩ := e
    have HCL := Kh (Tryd.slices_Clone_int ib io zs.length sc zs w3 (Nat.le_refl _) (by omega) (fun j hj => hra.int j hj))
    clear hra
    go_wp2_with fail
    refine HCL.out.mono ?_
    rintro e w4 ⟨v4, rfl, hown4, hnn, hbel⟩
    rw [List.take_of_length_le (Nat.le_refl _)] at hown4
    obtain ⟨k4, c4, rfl⟩ := owns_shape' hown4 (by omega)
    change w4.ownsRow w3.heap.size 3 1 (.slice (some ⟨k4, 0, none⟩) zs.length c4) zs.length (ints zs) at hown4
    rw [HIN.out] at hown4
    have hk4 := hown4.lt k4 rfl
    have HG4 : Hid (w.grownBy w4 none) := Kh (zF HG3.out (vQ hbel))
    have hz4 := hbel.size
    have HY1 := Kh (zE HX1.out (vQ (row := none) hbel) (by simp)); have HY2 := Kh (zE HX2.out (vQ (row := none) hbel) (by simp))
    have hgl := HS3.out.go_lt
    have HS4 := Kh (HS3.out.kept (vQ (row := none) hbel) (by simp))
    obtain ⟨l0, hl0⟩ : ∃ l0, l0 = natL zs := ⟨_, rfl⟩
    rw [← hl0] at hown4 HFAM hpos hln
    rw [← hln] at hown4 ⊢
    have HLN := Kh hln
    have hk3 := hk4.1
    clear hln
    have HH4 : Hid (Held w2.heap.size w3.heap.size w.heap.size w4 k4 c4 l0) := Kh (Held.of_owns hown4 hpos (.inr (by omega)) (by omega))
    have HL0 := Kh hl0
    have fb0 := zD HY1.out 0
    have cb4 := zI HY1.out 0 (by simp)
    simp only [List.getElem_toArray, List.getElem_cons_zero] at cb4
    have hs5 := zH w4 ⟨w.heap.size, 0, none⟩ (.slice (some ⟨k4, 0, none⟩) l0.length c4)
    have hfb5 := heap_setCell_same w4 w.heap.size 0 _ _ (.slice (some ⟨k4, 0, none⟩) l0.length c4) HY1.out
    obtain ⟨w5, hw5⟩ : ∃ w5, w5 = w4.setCell ⟨w.heap.size, 0, none⟩ (.slice (some ⟨k4, 0, none⟩) l0.length c4) := ⟨_, rfl⟩
    rw [← hw5] at hs5 hfb5
    have HW5 := Kh hw5
    have hne5 : ∀ x, x ≠ w.heap.size → some w.heap.size ≠ some x := fun x h e => h (Option.some.inj e).symm
    have HP1 : Hid (w5.heap[w.heap.size]? = some (.cells #[.slice (some ⟨k4, 0, none⟩) l0.length c4, .bool d] 49 (0, 0))) := Kh (by rw [hfb5]; simp)
    have HP2 := Kh (zE HY2.out hs5 (hne5 _ (by omega)))
    have HH5 := Kh (HH4.out.kept hs5 (hne5 _ (by omega)))
    have HS5 := Kh (HS4.out.kept hs5 (fun q e => by have : w.heap.size = q := Option.some.inj e; omega))
    have HG5 : Hid (w.grownBy w5 none) := Kh (zG HG4.out hs5 (fun x e => by have : w.heap.size = x := Option.some.inj e; omega))
    have hz5 := hs5.size
    have HT5 := Kh (HT.out.kept HG5.out (by simp))
    have HA5 : Hid (Adv t.length (entN t) (l0, d) 0 l0 d) := Kh ⟨HFAM.out, rfl⟩
    clear hown4 hbel hnn hl0 hs5 hfb5 hw5 hne5 HX1 HX2 HG3 HS3 HCL HY1 HY2 HS4 HH4 HG4 HIN cb0 cb1
    go_wp2_with fail
    rw [← HW5.out]
    clear cb4 fb0
    go_loopg [39] bud.toNat (fun gh i wr => ∃ (k kk sc : Nat) (l : List Nat) (dd : Bool), gh + k = bud.toNat ∧ i = .int .i64 k ∧ Adv t.length (entN t) (l0, d) k l dd ∧ 0 < l.length ∧ w3.heap.size ≤ kk ∧ Held w2.heap.size w3.heap.size w.heap.size wr kk sc l ∧ wD w2.heap.size w3.heap.size wr p go t.length (entN t) ∧ w3.heap.size ≤ wr.heap.size ∧ TabOk wr ∧ w.grownBy wr none ∧ wr.heap[w.heap.size]? = some (.cells #[.slice (some ⟨kk, 0, none⟩) l.length sc, .bool dd] 49 (0, 0)) ∧ wr.heap[w.heap.size + 1]? = some (.cells #[.slice none 0 0, .bool false] 49 (0, 0)))
    case atStart => exact ⟨0, k4, c4, l0, d, rfl, rfl, HA5.out, hpos, hk3, HH5.out, HS5.out, by omega, HT5.out, HG5.out, HP1.out, HP2.out⟩
    case round =>
     clear HA5 HH5 HS5 HT5 HG5 HP1 HP2
     obtain ⟨k, kk, sk, l, dd, hg, rfl, hadv, hpl, hkk, hhe, hs, hzr, hT, hgr, hp1, hp2⟩ := hrel
     have HG := Kh hg; have HAD := Kh hadv; have HHE := Kh hhe; have HS' := Kh hs; have HTR := Kh hT; have HGR := Kh hgr; have HP1 := Kh hp1; have HP2 := Kh hp2
     have cb0 := zI hp1 0 (by simp)
     have cb1 := zI hp1 1 (by simp)
     have fb0 := zD hp1 0
     have fb1 := zD hp1 1
     have cr0 := zI hp2 0 (by simp)
     have cr1 := zI hp2 1 (by simp)
     have fr0 := zD hp2 0
     have fr1 := zD hp2 1
     simp only [List.getElem_toArray, List.getElem_cons_zero, List.getElem_cons_succ] at cb0 cb1 cr0 cr1
     clear hg hadv hhe hs hT hgr hp1 hp2
     have hfin : (advL t zs d bud) = (l, dd) → AdvOk w t im zs d bud (.returned (.tuple #[.agg #[.slice (some ⟨kk, 0, none⟩) l.length sk, .bool dd], .int .i64 0])) ((wr.setCell ⟨w.heap.size + 1, 0, none⟩ (.slice (some ⟨kk, 0, none⟩) l.length sk)).setCell ⟨w.heap.size + 1, 1, none⟩ (.bool dd)) := by
      intro he
      refine ⟨res_grown HGR.out (by omega) _ _, .inr ⟨HE.out, _, by rw [he], ?_⟩⟩
      rw [he]
      have hss : wr.grownBy ((wr.setCell ⟨w.heap.size + 1, 0, none⟩ (.slice (some ⟨kk, 0, none⟩) l.length sk)).setCell ⟨w.heap.size + 1, 1, none⟩ (.bool dd)) (some (w.heap.size + 1)) := zF (zH wr ⟨w.heap.size + 1, 0, none⟩ _) (zH (wr.setCell ⟨w.heap.size + 1, 0, none⟩ (.slice (some ⟨kk, 0, none⟩) l.length sk)) ⟨w.heap.size + 1, 1, none⟩ _)
      exact (HHE.out.kept hss (fun e => by have : w.heap.size + 1 = kk := Option.some.inj e; omega)).rowO.row
     have HFIN := Kh hfin
     clear hfin
     by_cases hk : (k : Int) < bud
     ·cases dd with
      | true =>
       have HX : Hid (advL t zs d bud = (l, true)) := Kh (by unfold advL; rw [← HL0.out]; exact HAD.out.stop (by omega))
       go_wp2
       exact bodyPost_ret (v := .tuple #[.agg #[.slice (some ⟨kk, 0, none⟩) l.length sk, .bool true], .int .i64 0]) (by simp [results, Tryd.results27, go_sem, cr0, cr1]) rfl (HFIN.out HX.out)
      | false =>
       clear HFIN
       go_wp2_with fail
       have hgl := HS'.out.go_lt
       have hll := HAD.out.le
       have hp4 := tJ hle
       refine (round_any w2.heap.size w3.heap.size wr.heap.size wr p go t.length (entN t) _ false l HS'.out HTB.out hle HHE.out.rowO hpl HAD.out.1.1 (by omega) (Nat.le_refl _) hzr (by omega) HTR.out).mono ?_
       rintro e w6 ⟨sa6, sc6, rfl, hown6, hs6, hg6⟩
       have hpos6 := round_ne HTB.out HAD.out.1.1 hpl
       obtain ⟨k6, rfl, hc1, hc2, _⟩ := yK hown6 hpos6
       have hk6 := hown6.lt k6 rfl
       have HGN := Kh (HAD.out.step HTB.out)
       obtain ⟨R, hR⟩ : ∃ R, R = zZ t.length (entN t) l := ⟨_, rfl⟩
       obtain ⟨D, hD⟩ : ∃ D, D = decide (zZ t.length (entN t) l = l) := ⟨_, rfl⟩
       rw [← hD, ← hR] at HGN
       rw [← hD]
       rw [← hR] at hown6 hpos6 hc1 ⊢
       have hr6 := zE HP1.out hg6 (fun e => by have : go = w.heap.size := Option.some.inj e; omega)
       have HR6 := Kh hr6
       have HQ6 := Kh (zE HP2.out hg6 (fun e => by have : go = w.heap.size + 1 := Option.some.inj e; omega))
       have cb0' := zI hr6 0 (by simp)
       have cb1' := zI hr6 1 (by simp)
       have fb0' := zD hr6 0
       have fb1' := zD hr6 1
       simp only [List.getElem_toArray, List.getElem_cons_zero, List.getElem_cons_succ] at cb0' cb1'
       have HH6 : Hid (Held w2.heap.size w3.heap.size w.heap.size w6 k6 sc6 R) := Kh (Held.of_owns hown6 hpos6 (.inr (by omega)) (by omega))
       have HS6 := Kh hs6
       have HT6 := Kh (HTR.out.kept hg6 (fun e => by have := Option.some.inj e; omega))
       have hz6 := hg6.size
       have HG6 : Hid (w.grownBy w6 none) := Kh (zG HGR.out hg6 (fun x e => by have : go = x := Option.some.inj e; omega))
       clear hown6 hs6 hg6 hr6 hR hD cb0 cb1 fb0 fb1 cr0 cr1 fr0 fr1
       go_wp2
       have hs7 : w6.grownBy ((w6.setCell ⟨w.heap.size, 0, none⟩ (.slice (some ⟨k6, 0, none⟩) R.length sc6)).setCell ⟨w.heap.size, 1, none⟩ (.bool D)) (some w.heap.size) :=
        zF (zH w6 ⟨w.heap.size, 0, none⟩ _) (zH (w6.setCell ⟨w.heap.size, 0, none⟩ (.slice (some ⟨k6, 0, none⟩) R.length sc6)) ⟨w.heap.size, 1, none⟩ _)
       have HR7 := Kh (fam_set HR6.out (.slice (some ⟨k6, 0, none⟩) R.length sc6) (.bool D))
       have HG7 := Kh hs7
       clear hs7
       go_roundg (bud.toNat - (k + 1))
       case measure => have := HG.out; omega
       case rel => exact ⟨k + 1, k6, sc6, R, D, by omega, by go_num, HGN.out, hpos6, by omega, HH6.out.kept HG7.out (fun e => by have : w.heap.size = k6 := Option.some.inj e; omega), HS6.out.kept HG7.out (fun q e => by have : w.heap.size = q := Option.some.inj e; omega), by have := HG7.out.size; omega, HT6.out.kept HG7.out (fun e => by have := Option.some.inj e; omega), zG HG6.out HG7.out (fun x e => by have : w.heap.size = x := Option.some.inj e; omega), HR7.out, zE HQ6.out HG7.out (fun e => by have : w.heap.size = w.heap.size + 1 := Option.some.inj e; omega)⟩
     ·have HX : Hid (advL t zs d bud = (l, dd)) := Kh (by unfold advL; rw [← HL0.out]; rw [show bud.toNat = k by have := HG.out; omega]; exact HAD.out.2)
      go_wp2
      exact bodyPost_ret (v := .tuple #[.agg #[.slice (some ⟨kk, 0, none⟩) l.length sk, .bool dd], .int .i64 0]) (by simp [results, Tryd.results27, go_sem, cr0, cr1]) rfl (HFIN.out HX.out)
 ·have HE := Kh (advE_check (zs := zs) (bud := bud) hz)
  obtain ⟨E, hE⟩ : ∃ E, E = xD t im := ⟨_, rfl⟩
  rw [← hE] at hz HE ⊢
  have e1 : (E != 0) = true := by rw [bne_iff_ne]; exact hz
  clear hE
  go_wp2
  exact bodyPost_ret (v := .tuple #[.agg #[.slice none 0 0, .bool false], .int .i64 E]) (by simp [results, Tryd.results27, go_sem, cr0, cr1]) rfl ⟨res_grown HG1.out (by omega) _ _, .inl (by rw [HE.out]; exact ⟨hz, rfl⟩)⟩
theorem Arr.ne {w : World} {g pb e e' : Nat} {xs : List Value} {cs : Array Value} {m : Nat × Nat} (h : Arr w g e xs) (hb : w.heap[pb]? = some (.cells cs e' m)) (hne : e ≠ e') : g ≠ pb := by
 rintro rfl
 obtain ⟨cur, rest, h1, _⟩ := h
 rw [h1] at hb
 simp only [Option.some.injEq, Obj.cells.injEq] at hb
 exact hne hb.2.1
theorem cast_dec {l m : List Nat} : decide ((l.map fun (x : Nat) => (x : Int)) = m.map fun (x : Nat) => (x : Int)) = decide (l = m) := by
 rw [← cast_inj (l := l) (m := m), Bool.eq_iff_iff, decide_eq_true_eq, beq_iff_eq]
structure DAt (B : Nat) (w : World) (d : DfaV) (n k fb fo fc b off cap : Nat) (RB RO RC : Nat → Nat) : Prop where
 ok : VD d n k
 flt : fb < B
 frow : RowAt w fb fo (bls d.final)
 fcap : n ≤ fc ∧ fc ≤ maxLen
 blt : b < B
 bltw : b < w.heap.size
 cap : n ≤ cap ∧ cap ≤ maxLen
 hd : ∀ q, q < n → w.cell? ⟨b, off + q, none⟩ = some (.slice (some ⟨RB q, RO q, none⟩) k (RC q))
 el : ∀ q a, q < n → a < k → w.cell? ⟨RB q, RO q + a, none⟩ = some (.int .i64 ((nx d q a : Nat) : Int))
 rlt : ∀ q, q < n → RB q < B ∧ RB q < w.heap.size
 rcap : ∀ q, q < n → k ≤ RC q ∧ RC q ≤ maxLen
theorem DAt.kept {B : Nat} {w w' : World} {d : DfaV} {n k fb fo fc b off cap : Nat} {RB RO RC : Nat → Nat} {row : Option Nat} (h : DAt B w d n k fb fo fc b off cap RB RO RC) (hg : w.grownBy w' row) (hr : ∀ k, row = some k → B ≤ k) : DAt B w' d n k fb fo fc b off cap RB RO RC where
 ok := h.ok
 flt := h.flt
 frow := h.frow.kept hg (fun e => by have := hr _ e; have := h.flt; omega)
 fcap := h.fcap
 blt := h.blt
 bltw := Nat.lt_of_lt_of_le h.bltw hg.size
 cap := h.cap
 hd := fun q hq => (World.cell?_of_block (hg.block b h.bltw (fun e => by have := hr b e.symm; have := h.blt; omega))).trans (h.hd q hq)
 el := fun q a hq ha => (World.cell?_of_block (hg.block (RB q) (h.rlt q hq).2 (fun e => by have := hr _ e.symm; have := (h.rlt q hq).1; omega))).trans (h.el q a hq ha)
 rlt := fun q hq => ⟨(h.rlt q hq).1, Nat.lt_of_lt_of_le (h.rlt q hq).2 hg.size⟩
 rcap := h.rcap
theorem DAt.fin {B : Nat} {w : World} {d : DfaV} {n k fb fo fc b off cap : Nat} {RB RO RC : Nat → Nat} (h : DAt B w d n k fb fo fc b off cap RB RO RC) {q : Nat} (hq : q < n) : w.cell? ⟨fb, fo + q, none⟩ = some (.bool (d.final.getD q false)) := by
 have hl := h.ok.hn
 have := RowAt.map h.frow q (by omega)
 rw [this, zT (by omega)]
def dAgg (k st fb fo fc b off cap n : Nat) : Value := .agg #[.int .i64 (k : Int), .int .i64 (st : Int), .slice (some ⟨fb, fo, none⟩) n fc, .slice (some ⟨b, off, none⟩) n cap]
theorem DfaOk.at {B : Nat} {w : World} {v : Value} {d : DfaV} {n k : Nat} (h : DfaOk B w v d) (hd : VD d n k) :
  ∃ fb fo fc b off cap RB RO RC, v = dAgg k (st0 d) fb fo fc b off cap n ∧ DAt B w d n k fb fo fc b off cap RB RO RC := by
 obtain ⟨fv, nv, rfl, hf, hn⟩ := h
 obtain ⟨fb, fo, fc, rfl, h1, h2, h3, h4⟩ := hf.some_ (by rw [xT, hd.hn]; exact hd.n1)
 obtain ⟨b, off, cap, A, C, rfl, k1, k2, k3⟩ := hn.some_ (by rw [hd.nl]; exact hd.n1)
 have hr : ∀ q, ∃ rb ro, q < n → A q = some ⟨rb, ro, none⟩ ∧ rb < B ∧ k ≤ C q ∧ C q ≤ maxLen ∧ RowAt w rb ro (ints (d.next.getD q [])) := by
  intro q
  by_cases hq : q < n
  ·have hl := hd.row q hq
   obtain ⟨rb, ro, c, e, h4, h5, h6, h7⟩ := (k3.row q (by rw [hd.nl]; exact hq)).some_ (by rw [zP, hl]; exact hd.k1)
   simp only [Value.slice.injEq] at e
   rw [zP, hl] at h5
   exact ⟨rb, ro, fun _ => ⟨e.1, h4, by rw [e.2.2]; exact h5, by rw [e.2.2]; exact h6, h7⟩⟩
  ·exact ⟨0, 0, fun h => absurd h hq⟩
 obtain ⟨RB, hRB⟩ := Classical.axiomOfChoice hr
 obtain ⟨RO, hRO⟩ := Classical.axiomOfChoice hRB
 rw [xT, hd.hn] at h2
 rw [hd.nl] at k1
 refine ⟨fb, fo, fc, b, off, cap, RB, RO, C, ?_, hd, h1, h4, ⟨h2, h3⟩, k3.lt, k3.ltw, ⟨k1, k2⟩, fun q hq => ?_, fun q a hq ha => ?_, fun q hq => ?_, fun q hq => ?_⟩
 ·rw [dAgg, st0_cast hd, hd.hk, xT, hd.hn, hd.nl]
 ·rw [k3.hd q (by rw [hd.nl]; exact hq), (hRO q hq).1, hd.row q hq]
 ·rw [(hRO q hq).2.2.2.2.int a (by rw [hd.row q hq]; exact ha), nx_cast hd hq ha]
  rfl
 ·have := hRO q hq
  exact ⟨this.2.1, this.2.2.2.2.1⟩
 ·have := hRO q hq
  exact ⟨this.2.2.1, this.2.2.2.1⟩
theorem zN {w : World} {p : Nat} {x0 x1 x2 x3 : Value} {e : Nat} (h : w.heap[p]? = some (.cells #[x0, x1, x2, x3] e (0, 0))) :
  w.cell? ⟨p, 0, none⟩ = some x0 ∧ w.cell? ⟨p, 1, none⟩ = some x1 ∧ w.cell? ⟨p, 2, none⟩ = some x2 ∧ w.cell? ⟨p, 3, none⟩ = some x3 := by
 have c0 := zI h 0 (by simp)
 have c1 := zI h 1 (by simp)
 have c2 := zI h 2 (by simp)
 have c3 := zI h 3 (by simp)
 simp only [List.getElem_toArray, List.getElem_cons_zero, List.getElem_cons_succ] at c0 c1 c2 c3
 exact ⟨c0, c1, c2, c3⟩
theorem row_of_at {w : World} {g n : Nat} {l : List Nat} (h : RowAt w g 0 (nats l)) (hl : l.length = n) (hn : n ≤ 9223372036854775807) : Row (g + 1) w (.slice (some ⟨g, 0, none⟩) n n) (nats l) :=
 .inr ⟨g, 0, n, by rw [zL, hl], by omega, by rw [zL, hl]; exact Nat.le_refl _, by unfold maxLen; omega, h⟩
theorem colTo_take {d : DfaV} {p : List Nat} {a q : Nat} (hq : q < p.length) : (colTo d p a).take (q + 1) = (colTo d p a).take q ++ [p.getD (nx d q a) 0] := by
 rw [yA (d := 0) (by rw [tE]; exact hq), colTo_get hq]
theorem colTo_lt {d : DfaV} {p : List Nat} {n a : Nat} (h : ∀ c ∈ p, c < n) (hn : 0 < n) : ∀ c ∈ colTo d p a, c < n := by
 intro c hc
 obtain ⟨q, hq, rfl⟩ := List.mem_map.1 hc
 exact getD_lt_of h hn
end Go.Proofs.YtdjhoadoiknaoaaDoor
