/- Part 18 of the proof: VFam, Closure, Advance. -/
import Derived.Test.YtdjhoadoiknaoaaDoorZr17
set_option linter.unusedVariables false
set_option linter.unusedSimpArgs false
namespace Go.Proofs.YtdjhoadoiknaoaaDoor
open Go.RowKit
set_option maxHeartbeats 800000 in
theorem validFamily_any (B : Nat) (w : World) (v sv : Value) (t : List (List Int)) (zs : List Int) (hB : B ≤ w.heap.size) (h : Mat B w v t) (hz : Row B w sv (ints zs)) (hv : yW t = 0) (hle : t.length ≤ 12) (hT : TabOk w) :
  Calls Tryd.prog 64 #[v, sv] w fun e w' => e = .returned (.bool (famB t.length zs)) ∧ w.grownBy w' none := by
 have HN := Kh (sS B w v t hB h hv hle hT)
 have hzl := hz.len_le
 rw [zM] at hzl
 unfold maxLen at hzl
 obtain ⟨ta, tc, rfl⟩ := h.shape
 obtain ⟨za, zc, rfl⟩ := hz.shape
 rw [zM] at hz ⊢
 have HZ := Kh hz
 clear h hv hT
 by_cases h0 : zs.length = 0
 ·have HF := Kh (famB_nil (n := t.length) h0)
  go_enter Tryd.func64, Tryd.ntmps64
  go_wp2
  go_ret
  exact ⟨yS HF.out.symm, zS _ _⟩
 ·have e0 : ((zs.length : Int) == 0) = false := by rw [beq_eq_false_iff_ne]; omega
  obtain ⟨ib, io, icc, e, _, _, _, hra⟩ := hz.some_ (by rw [zM]; omega)
  simp only [Value.slice.injEq] at e
  obtain ⟨rfl, -, -⟩ := e
  have RA := Kh hra
  clear hra hz
  go_enter Tryd.func64, Tryd.ntmps64
  go_wp2
  go_loopg [12] zs.length (fun g i wr => ∃ k : Nat, g + k = zs.length ∧ i = .int .i64 k ∧ famTo t.length zs k = true ∧ w = wr)
  case atStart => exact ⟨0, rfl, rfl, rfl, rfl⟩
  case round =>
   obtain ⟨y, hg, rfl, hok, rfl⟩ := hrel
   have OKY := Kh hok; have HG2 := Kh hg; clear hok hg
   by_cases hy : y < zs.length
   ·have hcy := RA.out.int y hy
    obtain ⟨z, hz⟩ : ∃ z, z = zs.getD y 0 := ⟨_, rfl⟩
    rw [← hz] at hcy
    have HZY := Kh hz; clear hz
    by_cases hb1 : z = 0
    ·have HF : Hid (famB t.length zs = false) := Kh (famB_no (famTo_no (i := y) (by rw [tQ HZY.out rfl, hb1]; rfl) hy))
     subst hb1
     go_wp2
     go_ret
     exact ⟨yS HF.out.symm, zS _ _⟩
    ·have e1 : (z == 0) = false := by rw [beq_eq_false_iff_ne]; exact hb1
     cases hs : setB t.length z with
     | false =>
      have HF : Hid (famB t.length zs = false) := Kh (famB_no (famTo_no (i := y) (by rw [tQ HZY.out rfl, hs]; simp) hy))
      go_wp2_with fail
      refine (vY w ta t.length tc z hle).mono ?_
      rintro e w1 ⟨rfl, rfl⟩
      rw [hs]
      go_wp2
      go_ret
      exact ⟨yS HF.out.symm, zS _ _⟩
     | true =>
      have HS := Kh hs
      clear hs
      rcases y with _ | x
      ·have hcy0 : w.cell? ⟨ib, io, none⟩ = some (.int .i64 z) := hcy
       have HF : Hid (famTo t.length zs (0 + 1) = true) := Kh (by rw [famTo_succ, OKY.out, tQ HZY.out rfl, HS.out]; simp [hb1])
       go_wp2_with fail
       refine (vY w ta t.length tc z hle).mono ?_
       rintro e w1 ⟨rfl, rfl⟩
       rw [HS.out]
       go_wp2
       go_roundg (zs.length - 1)
       case measure => have := HG2.out; omega
       case rel => exact ⟨0 + 1, by omega, by go_num, HF.out, rfl⟩
      ·have hcx := RA.out.int x (by omega)
       obtain ⟨u, hu⟩ : ∃ u, u = zs.getD x 0 := ⟨_, rfl⟩
       rw [← hu] at hcx
       have HU := Kh hu; clear hu
       by_cases hlt : u < z
       ·have HF : Hid (famTo t.length zs (x + 1 + 1) = true) := Kh (by rw [famTo_succ, OKY.out, tQ HZY.out HU.out, HS.out]; simp [hb1, hlt])
        go_wp2_with fail
        refine (vY w ta t.length tc z hle).mono ?_
        rintro e w1 ⟨rfl, rfl⟩
        rw [HS.out]
        go_wp2
        go_roundg (zs.length - (x + 1 + 1))
        case measure => have := HG2.out; omega
        case rel => exact ⟨x + 1 + 1, by omega, by go_num, HF.out, rfl⟩
       ·have HF : Hid (famB t.length zs = false) := Kh (famB_no (famTo_no (i := x + 1) (by rw [tQ HZY.out HU.out, HS.out]; simp [hlt]) hy))
        go_wp2_with fail
        refine (vY w ta t.length tc z hle).mono ?_
        rintro e w1 ⟨rfl, rfl⟩
        rw [HS.out]
        go_wp2
        go_ret
        exact ⟨yS HF.out.symm, zS _ _⟩
   ·have hyl : y = zs.length := by have := HG2.out; omega
    have HFT : Hid (famTo t.length zs zs.length = true) := Kh (by rw [← hyl]; exact OKY.out)
    have HF := Kh (famB_eq (n := t.length) (by omega) HFT.out)
    clear hyl
    go_wp2_with fail
    refine HN.out.mono ?_
    rintro e w2 ⟨p, go, rfl, hs2, hg2⟩
    have hrz := HZ.out.kept hg2 (by simp)
    rw [ints_natL HFT.out] at hrz
    have hz2 := hg2.size
    have HM := Kh (maximal_any w.heap.size w2.heap.size w2 p go t.length (entN t) _ B (natL zs) hs2 hle hrz (natL_lt HFT.out) (by omega))
    have HG2' := Kh hg2
    clear hs2 hrz hg2
    go_wp2_with fail
    refine HM.out.mono ?_
    rintro e w4 ⟨sa4, sc4, rfl, hown4, hg4⟩
    have HG4 := Kh hg4
    clear hown4 hg4
    go_wp2
    go_ret
    exact ⟨yS (by rw [HF.out, Bool.eq_iff_iff, beq_iff_eq, decide_eq_true_eq]; omega), zF HG2'.out HG4.out⟩
theorem fam_set {w : World} {b : Nat} {x y : Value} {e : Nat} (h : w.heap[b]? = some (.cells #[x, y] e (0, 0))) (x' y' : Value) :
  ((w.setCell ⟨b, 0, none⟩ x').setCell ⟨b, 1, none⟩ y').heap[b]? = some (.cells #[x', y'] e (0, 0)) := by
 have h1 := heap_setCell_same w b 0 _ _ x' h
 have h2 := heap_setCell_same _ b 1 _ _ y' h1
 rw [h2]; simp
set_option maxHeartbeats 800000 in
theorem closure_any (B : Nat) (w : World) (v iv : Value) (t : List (List Int)) (im : List Int) (hB : B ≤ w.heap.size) (h : Mat B w v t) (hi : Row B w iv (ints im)) (hT : TabOk w) :
  Calls Tryd.prog 16 #[v, iv] w (ClosureOk w t im) := by
 have HBG := Kh (begin_any B w v iv t im hB h hi hT)
 have H := Kh h; have HI := Kh hi; have HT := Kh hT
 clear h hi hT
 go_enter Tryd.func16, Tryd.ntmps16
 go_wp2_with fail
 refine HBG.out.mono ?_
 rintro e w1 ⟨hg1, hc⟩
 have HG1 := Kh hg1
 have hz1 := hg1.size
 clear HBG hg1
 rcases hc with ⟨hz, rfl⟩ | ⟨hz, sa, sc, rfl, hown⟩
 ·obtain ⟨E, hE⟩ : ∃ E, E = yT t im := ⟨_, rfl⟩
  rw [← hE] at hz ⊢
  have HE := Kh hE
  have e1 : (E != 0) = true := by rw [bne_iff_ne]; exact hz
  clear hE
  go_wp2
  refine bodyPost_ret (v := .tuple #[.slice none 0 0, .int .i64 E]) (by simp [results, Tryd.results16, go_sem]) rfl ?_
  exact ⟨zG HG1.out (World.grownBy_alloc _ _ none) (by simp), .inl ⟨by rw [← HE.out]; exact hz, by rw [← HE.out]⟩⟩
 ·have hgd := tL.1 hz
  have HGD := Kh hgd; have HZ := Kh hz
  have hle := hgd.le
  have hva := hgd.valid
  have HTB := Kh (tb_of hva)
  have HVA := Kh hva
  have hpos := start_pos hgd
  obtain ⟨k0, rfl, hsc1, hsc2, harr⟩ := yI hown hpos
  have hkl := hown.lt k0 rfl
  obtain ⟨l0, hl0⟩ : ∃ l0, l0 = vQ t im := ⟨_, rfl⟩
  rw [← hl0] at hpos hown hsc1 harr ⊢
  have HOWN := Kh hown
  have HL0 := Kh hl0
  have HF0 : Hid (FamOk t.length (l0, false)) := Kh (by rw [hl0]; exact start_ok hgd)
  clear hown harr hl0 hgd hva hz
  go_wp2_with fail
  obtain ⟨wA, hWA⟩ : ∃ wA, wA = w1.alloc (.cells #[.slice (some ⟨k0, 0, none⟩) l0.length sc, .bool false] 49) := ⟨_, rfl⟩
  have hrb : wA.heap[w1.heap.size]? = some (.cells #[.slice (some ⟨k0, 0, none⟩) l0.length sc, .bool false] 49 (0, 0)) := by rw [hWA]; exact heap_alloc_new w1 _
  have hgA : w1.grownBy wA none := by rw [hWA]; exact World.grownBy_alloc w1 _ none
  have hzA : wA.heap.size = w1.heap.size + 1 := by rw [hWA, zN]
  rw [← hWA]
  have HGA := Kh (zF HG1.out hgA); have HRA := Kh hrb
  have HO := Kh (yC HOWN.out hgA (by simp))
  have HTA := Kh (HT.out.kept HGA.out (by simp))
  have hgt0 := HT.out.1
  have hgt : 1 < wA.heap.size := by omega
  refine (sS B wA v t (by omega) (H.out.kept HGA.out (by simp)) HVA.out hle HTA.out).mono ?_
  rintro e w2 ⟨p, go, rfl, hs2, hg2⟩
  have hz2 := hg2.size
  have HS2 := Kh hs2
  have HHE : Hid (Held wA.heap.size w2.heap.size w1.heap.size w2 k0 sc l0) := Kh (Held.of_owns (yC HO.out hg2 (by simp)) hpos (.inl (by omega)) (by omega))
  have HRB := Kh (zE hrb hg2 (by simp))
  have HGR := Kh (zF HGA.out hg2)
  have HT2 := Kh (HTA.out.kept hg2 (by simp))
  have HGO : Hid (Going t.length (entN t) l0 l0 false) := Kh ⟨HF0.out, 0, rfl⟩
  clear hWA hrb hgA HRA HO hs2 hg2 HOWN HTA HG1
  go_wp2_with fail
  go_loopg [] (togo t.length l0 false) (fun gh wr => ∃ (k sc : Nat) (l : List Nat) (d : Bool), gh = togo t.length l d ∧ Going t.length (entN t) l0 l d ∧ 0 < l.length ∧ Held wA.heap.size w2.heap.size w1.heap.size wr k sc l ∧ wP wA.heap.size w2.heap.size wr p go t.length (entN t) ∧ w2.heap.size ≤ wr.heap.size ∧ TabOk wr ∧ w.grownBy wr none ∧ wr.heap[w1.heap.size]? = some (.cells #[.slice (some ⟨k, 0, none⟩) l.length sc, .bool d] 49 (0, 0)))
  case atStart => exact ⟨k0, sc, l0, false, rfl, HGO.out, hpos, HHE.out, HS2.out, Nat.le_refl _, HT2.out, HGR.out, HRB.out⟩
  case round =>
   clear HGO HHE HS2 HT2 HGR HRB hsc1 hsc2
   obtain ⟨k, sc, l, d, hg, hgo, hl0, hhe, hs, hzr, hT, hgr, hrb⟩ := hrel
   have HG := Kh hg; have HGO := Kh hgo; have HHE := Kh hhe; have HS := Kh hs; have HTR := Kh hT; have HGR := Kh hgr; have HRB := Kh hrb
   have cr0 := zI hrb 0 (by simp)
   have cr1 := zI hrb 1 (by simp)
   have fr0 := zD hrb 0
   have fr1 := zD hrb 1
   simp only [List.getElem_toArray, List.getElem_cons_zero, List.getElem_cons_succ] at cr0 cr1
   clear hg hgo hhe hs hT hgr hrb
   cases d with
   | false =>
    go_wp2_with fail
    have hgl := HS.out.go_lt
    have hll := HGO.out.le
    have hp4 := vV hle
    refine (round_any wA.heap.size w2.heap.size wr.heap.size wr p go t.length (entN t) _ false l HS.out HTB.out hle HHE.out.rowO hl0 HGO.out.1.1 (by omega) (Nat.le_refl _) hzr hgt HTR.out).mono ?_
    rintro e w3 ⟨sa3, sc3, rfl, hown3, hs3, hg3⟩
    have hpos3 := round_ne HTB.out HGO.out.1.1 hl0
    obtain ⟨k3, rfl, hc1, hc2, _⟩ := yI hown3 hpos3
    have hk3 := hown3.lt k3 rfl
    have HM : Hid (togo t.length (zW t.length (entN t) l) (decide (zW t.length (entN t) l = l)) < togo t.length l false) := Kh (HGO.out.less HTB.out)
    have HGN := Kh (HGO.out.step HTB.out)
    obtain ⟨R, hR⟩ : ∃ R, R = zW t.length (entN t) l := ⟨_, rfl⟩
    obtain ⟨D, hD⟩ : ∃ D, D = decide (zW t.length (entN t) l = l) := ⟨_, rfl⟩
    rw [← hD, ← hR] at HM HGN
    rw [← hD]
    rw [← hR] at hown3 hpos3 hc1 ⊢
    have hr3 := zE HRB.out hg3 (fun e => by have : go = w1.heap.size := Option.some.inj e; omega)
    have HR3 := Kh hr3
    have cr0' := zI hr3 0 (by simp)
    have cr1' := zI hr3 1 (by simp)
    have fr0' := zD hr3 0
    have fr1' := zD hr3 1
    simp only [List.getElem_toArray, List.getElem_cons_zero, List.getElem_cons_succ] at cr0' cr1'
    have HH3 : Hid (Held wA.heap.size w2.heap.size w1.heap.size w3 k3 sc3 R) := Kh (Held.of_owns hown3 hpos3 (.inr (by omega)) (by omega))
    have HS3 := Kh hs3
    have HT3 := Kh (HTR.out.kept hg3 (fun e => by have := Option.some.inj e; omega))
    have hz3 := hg3.size
    have HG3 : Hid (w.grownBy w3 none) := Kh (zG HGR.out hg3 (fun x e => by have : go = x := Option.some.inj e; omega))
    clear hown3 hs3 hg3 hr3 hR hD cr0 cr1 fr0 fr1
    go_wp2
    have hs5 : w3.grownBy ((w3.setCell ⟨w1.heap.size, 0, none⟩ (.slice (some ⟨k3, 0, none⟩) R.length sc3)).setCell ⟨w1.heap.size, 1, none⟩ (.bool D)) (some w1.heap.size) :=
     zF (zH w3 ⟨w1.heap.size, 0, none⟩ _) (zH (w3.setCell ⟨w1.heap.size, 0, none⟩ (.slice (some ⟨k3, 0, none⟩) R.length sc3)) ⟨w1.heap.size, 1, none⟩ _)
    have HR5 := Kh (fam_set HR3.out (.slice (some ⟨k3, 0, none⟩) R.length sc3) (.bool D))
    have HG5 := Kh hs5
    clear hs5
    go_roundg (togo t.length R D)
    case measure => rw [HG.out]; exact HM.out
    case rel => exact ⟨k3, sc3, R, D, rfl, HGN.out, hpos3, HH3.out.kept HG5.out (fun e => by have : w1.heap.size = k3 := Option.some.inj e; omega), HS3.out.kept HG5.out (fun q e => by have : w1.heap.size = q := Option.some.inj e; omega), by have := HG5.out.size; omega, HT3.out.kept HG5.out (fun e => by have := Option.some.inj e; omega), zG HG3.out HG5.out (fun x e => by have : w1.heap.size = x := Option.some.inj e; omega), HR5.out⟩
   | true =>
    go_wp2
    refine bodyPost_ret (v := .tuple #[.slice (some ⟨k, 0, none⟩) l.length sc, .int .i64 0]) (by simp [results, Tryd.results16, go_sem]) rfl ?_
    refine ⟨HGR.out, .inr ⟨HZ.out, _, rfl, ?_⟩⟩
    have := HGO.out.stop HTB.out HF0.out
    unfold closeL
    rw [← HL0.out, ← this]
    exact HHE.out.rowO.row
noncomputable def advE (t : List (List Int)) (im zs : List Int) (bud : Int) : Int :=
 if yT t im ≠ 0 then yT t im else if bud < 1 ∨ 1048576 < bud then 1 else if famB t.length zs = true then 0 else 8
theorem advE_check {t : List (List Int)} {im zs : List Int} {bud : Int} (h : yT t im ≠ 0) : advE t im zs bud = yT t im := by rw [advE, if_pos h]
theorem advE_arg {t : List (List Int)} {im zs : List Int} {bud : Int} (h : yT t im = 0) (hb : bud < 1 ∨ 1048576 < bud) : advE t im zs bud = 1 := by rw [advE, if_neg (by omega), if_pos hb]
theorem advE_fam {t : List (List Int)} {im zs : List Int} {bud : Int} (h : yT t im = 0) (hb : ¬ (bud < 1 ∨ 1048576 < bud)) (hf : famB t.length zs = false) : advE t im zs bud = 8 := by rw [advE, if_neg (by omega), if_neg hb, if_neg (by rw [hf]; simp)]
theorem advE_ok {t : List (List Int)} {im zs : List Int} {bud : Int} (h : yT t im = 0) (hb : ¬ (bud < 1 ∨ 1048576 < bud)) (hf : famB t.length zs = true) : advE t im zs bud = 0 := by rw [advE, if_neg (by omega), if_neg hb, if_pos hf]
def advL (t : List (List Int)) (zs : List Int) (d : Bool) (bud : Int) : List Nat × Bool := xH t.length (entN t) bud.toNat (natL zs, d)
def AdvOk (w : World) (t : List (List Int)) (im zs : List Int) (d : Bool) (bud : Int) (e : Ending) (w' : World) : Prop :=
 w.grownBy w' none ∧ ((advE t im zs bud ≠ 0 ∧ e = .returned (.tuple #[.agg #[.slice none 0 0, .bool false], .int .i64 (advE t im zs bud)])) ∨
  (advE t im zs bud = 0 ∧ ∃ v, e = .returned (.tuple #[.agg #[v, .bool (advL t zs d bud).2], .int .i64 0]) ∧ Row w'.heap.size w' v (nats (advL t zs d bud).1)))
def Adv (n : Nat) (tb : Nat → Nat → Nat) (f0 : List Nat × Bool) (k : Nat) (l : List Nat) (d : Bool) : Prop := FamOk n (l, d) ∧ xH n tb k f0 = (l, d)
theorem Adv.step {n : Nat} {tb : Nat → Nat → Nat} {f0 : List Nat × Bool} {k : Nat} {l : List Nat} (ht : Tb n tb) (h : Adv n tb f0 k l false) : Adv n tb f0 (k + 1) (zW n tb l) (decide (zW n tb l = l)) := by
 obtain ⟨hf, hk⟩ := h
 refine ⟨famOk_round ht hf, ?_⟩
 rw [roundsGo_add, hk, vZ]; rfl
theorem Adv.stop {n : Nat} {tb : Nat → Nat → Nat} {f0 : List Nat × Bool} {k m : Nat} {l : List Nat} (h : Adv n tb f0 k l true) (hkm : k ≤ m) : xH n tb m f0 = (l, true) := by
 obtain ⟨j, rfl⟩ : ∃ j, m = k + j := ⟨m - k, by omega⟩
 rw [roundsGo_add, h.2, uB]
theorem Adv.le {n : Nat} {tb : Nat → Nat → Nat} {f0 : List Nat × Bool} {k : Nat} {l : List Nat} {d : Bool} (h : Adv n tb f0 k l d) : l.length ≤ 2 ^ n := by
 have := maxOf_le n l
 rw [h.1.2] at this
 exact this
theorem uS (w : World) (c1 c2 : Array Value) (e : Nat) : ((w.alloc (.cells c1 e)).alloc (.cells c2 e)).heap[w.heap.size]? = some (.cells c1 e (0, 0)) ∧ ((w.alloc (.cells c1 e)).alloc (.cells c2 e)).heap[w.heap.size + 1]? = some (.cells c2 e (0, 0)) ∧ w.grownBy ((w.alloc (.cells c1 e)).alloc (.cells c2 e)) none ∧ ((w.alloc (.cells c1 e)).alloc (.cells c2 e)).heap.size = w.heap.size + 2 := by
 refine ⟨zE (heap_alloc_new w _) (World.grownBy_alloc _ _ none) (by simp), ?_, yA (World.grownBy_alloc w _ none) _, by rw [zN, zN]⟩
 have := heap_alloc_new (w.alloc (.cells c1 e)) (.cells c2 e)
 rw [zN] at this
 exact this
theorem vS {w wr : World} {b : Nat} (h : w.grownBy wr none) (hb : w.heap.size ≤ b) (x y : Value) : w.grownBy ((wr.setCell ⟨b, 0, none⟩ x).setCell ⟨b, 1, none⟩ y) none :=
 zG h (zF (zH wr ⟨b, 0, none⟩ x) (zH (wr.setCell ⟨b, 0, none⟩ x) ⟨b, 1, none⟩ y)) (fun q e => by have : b = q := Option.some.inj e; omega)
theorem owns_shape' {w : World} {base e n : Nat} {v : Value} {xs : List Value} (h : w.ownsRow base e 1 v n xs) (hn : 0 < n) : ∃ kb sc, v = .slice (some ⟨kb, 0, none⟩) n sc := by
 rcases h.2 with ⟨_, h0⟩ | ⟨g, cap, cur, h1, _⟩
 ·omega
 ·exact ⟨g, cap, h1⟩
set_option maxHeartbeats 800000 in
theorem advance_any (B : Nat) (w : World) (v iv sv : Value) (t : List (List Int)) (im zs : List Int) (d : Bool) (bud : Int) (hB : B ≤ w.heap.size) (h : Mat B w v t) (hi : Row B w iv (ints im)) (hs : Row B w sv (ints zs)) (hT : TabOk w) :
  Calls Tryd.prog 27 #[v, iv, .agg #[sv, .bool d], .int .i64 bud] w (AdvOk w t im zs d bud) := by
 have H := Kh h; have HI := Kh hi; have HT := Kh hT
 have hzl := hs.len_le
 rw [zM] at hzl
 unfold maxLen at hzl
 obtain ⟨sa, sc, rfl⟩ := hs.shape
 rw [zM] at hs ⊢
 have HS := Kh hs
 have hgt0 := hT.1
 clear h hi hT hs
 go_enter Tryd.func27, Tryd.ntmps27
 go_wp2_with fail
 obtain ⟨wA, hWA⟩ : ∃ wA, wA = (w.alloc (.cells #[.slice sa zs.length sc, .bool d] 49)).alloc (.cells #[.slice none 0 0, .bool false] 49) := ⟨_, rfl⟩
 obtain ⟨h1, h2, h3, hzA⟩ := uS w #[.slice sa zs.length sc, .bool d] #[.slice none 0 0, .bool false] 49
 rw [← hWA] at h1 h2 h3 hzA ⊢
 have HB1 := Kh h1; have HB2 := Kh h2; have HGA := Kh h3
 clear hWA h1 h2 h3
 refine (check_any B wA v iv t im (by omega) (H.out.kept HGA.out (by simp)) (HI.out.kept HGA.out (by simp))).mono ?_
 rintro e w1 ⟨rfl, hg1⟩
 have hz1 := hg1.size
 have HC1 := Kh (zE HB1.out hg1 (by simp)); have HC2 := Kh (zE HB2.out hg1 (by simp))
 have HG1 := Kh (zF HGA.out hg1)
 have cr0 := zI HC2.out 0 (by simp)
 have cr1 := zI HC2.out 1 (by simp)
 have fr0 := zD HC2.out 0
 have fr1 := zD HC2.out 1
 have cb0 := zI HC1.out 0 (by simp)
 have cb1 := zI HC1.out 1 (by simp)
 simp only [List.getElem_toArray, List.getElem_cons_zero, List.getElem_cons_succ] at cr0 cr1 cb0 cb1
 clear hg1 HB1 HB2 HGA
 by_cases hz : yT t im = 0
 ·rw [hz]
  have HZ := Kh hz
  have hgd := tL.1 hz
  have HGD := Kh hgd
  have hle := hgd.le
  have hva := hgd.valid
  have HTB := Kh (tb_of hva)
  have HVA := Kh hva
  clear hz hgd hva
  by_cases hb : bud < 1 ∨ 1048576 < bud
  ·have HE := Kh (advE_arg (zs := zs) HZ.out hb)
   have hfin : ∀ wr : World, AdvOk w t im zs d bud (.returned (.tuple #[.agg #[.slice none 0 0, .bool false], .int .i64 1])) ((w1.setCell ⟨w.heap.size + 1, 0, none⟩ (.slice none 0 0)).setCell ⟨w.heap.size + 1, 1, none⟩ (.bool false)) := fun _ => ⟨vS HG1.out (by omega) _ _, .inl (by rw [HE.out]; exact ⟨by omega, rfl⟩)⟩
   have HFIN := Kh hfin
   clear hfin
   by_cases hb1 : bud < 1
   ·clear hb
    go_wp2
    exact bodyPost_ret (v := .tuple #[.agg #[.slice none 0 0, .bool false], .int .i64 1]) (by simp [results, Tryd.results27, go_sem, cr0, cr1]) rfl (HFIN.out w)
   ·have hb2 : 1048576 < bud := by omega
    clear hb
    go_wp2
    exact bodyPost_ret (v := .tuple #[.agg #[.slice none 0 0, .bool false], .int .i64 1]) (by simp [results, Tryd.results27, go_sem, cr0, cr1]) rfl (HFIN.out w)
  ·have hb1 : 1 ≤ bud := by omega
   have hb2 : bud ≤ 1048576 := by omega
   have HBU := Kh hb
   have HVF := Kh (validFamily_any B w1 v _ t zs (by omega) (H.out.kept HG1.out (by simp)) (HS.out.kept HG1.out (by simp)) HVA.out hle (HT.out.kept HG1.out (by simp)))
   clear hb
   go_wp2_with fail
   refine HVF.out.mono ?_
   rintro e w2 ⟨rfl, hg2⟩
   have hz2 := hg2.size
   have HD1 := Kh (zE HC1.out hg2 (by simp)); have HD2 := Kh (zE HC2.out hg2 (by simp))
   have HG2 := Kh (zF HG1.out hg2)
   clear cr0 cr1 fr0 fr1 cb0 cb1 hg2 HVF HC1 HC2 HG1
   have cb0 := zI HD1.out 0 (by simp)
   have fb0 := zD HD1.out 0
   simp only [List.getElem_toArray, List.getElem_cons_zero, List.getElem_cons_succ] at cb0
   cases hf : famB t.length zs with
   | false =>
    have HE := Kh (advE_fam HZ.out HBU.out hf)
    have cr0 := zI HD2.out 0 (by simp)
    have cr1 := zI HD2.out 1 (by simp)
    have fr0 := zD HD2.out 0
    have fr1 := zD HD2.out 1
    simp only [List.getElem_toArray, List.getElem_cons_zero, List.getElem_cons_succ] at cr0 cr1
    clear hf
    go_wp2
    exact bodyPost_ret (v := .tuple #[.agg #[.slice none 0 0, .bool false], .int .i64 8]) (by simp [results, Tryd.results27, go_sem, cr0, cr1]) rfl ⟨vS HG2.out (by omega) _ _, .inl (by rw [HE.out]; exact ⟨by omega, rfl⟩)⟩
   | true =>
    have HE := Kh (advE_ok HZ.out HBU.out hf)
    obtain ⟨hfam, hpos, hin⟩ := famB_max hf
    have HFAM := Kh hfam; have HIN := Kh hin
    have hln := sX zs
    have hlz : zs.length ≤ 2 ^ t.length := by rw [← hln]; have := maxOf_le t.length (natL zs); rw [hfam.2] at this; exact this
    have hp4 := vV hle
    have HNS := Kh (sS B w2 v t (by omega) (H.out.kept HG2.out (by simp)) HVA.out hle (HT.out.kept HG2.out (by simp)))
    clear hf hfam hin
    go_wp2_with fail
    refine HNS.out.mono ?_
    rintro e w3 ⟨p, go, rfl, hs3, hg3⟩
    have hz3 := hg3.size
    have HS3 := Kh hs3
    have HX1 := Kh (zE HD1.out hg3 (by simp)); have HX2 := Kh (zE HD2.out hg3 (by simp))
    have HG3 := Kh (zF HG2.out hg3)
    clear hs3 hg3 HNS HD1 HD2 HG2 cb0 fb0
    have cb0 := zI HX1.out 0 (by simp)
    have cb1 := zI HX1.out 1 (by simp)
    simp only [List.getElem_toArray, List.getElem_cons_zero, List.getElem_cons_succ] at cb0 cb1
    obtain ⟨ib, io, icc, e, _, _, _, hra⟩ := (HS.out.kept HG3.out (by simp)).some_ (by rw [zM]; omega)
    simp only [Value.slice.injEq] at e
    obtain ⟨rfl, -, -⟩ := e
    have HCL := Kh (Tryd.slices_Clone_int ib io zs.length sc zs w3 (Nat.le_refl _) (by omega) (fun j hj => hra.int j hj))
    clear hra
    go_wp2_with fail
    refine HCL.out.mono ?_
    rintro e w4 ⟨v4, rfl, hown4, hnn, hbel⟩
    rw [List.take_of_length_le (Nat.le_refl _)] at hown4
    obtain ⟨k4, c4, rfl⟩ := owns_shape' hown4 (by omega)
    change w4.ownsRow w3.heap.size 3 1 (.slice (some ⟨k4, 0, none⟩) zs.length c4) zs.length (ints zs) at hown4
    rw [HIN.out] at hown4
    have hk4 := hown4.lt k4 rfl
    have HG4 : Hid (w.grownBy w4 none) := Kh (zF HG3.out (uF hbel))
    have hz4 := hbel.size
    have HY1 := Kh (zE HX1.out (uF (row := none) hbel) (by simp)); have HY2 := Kh (zE HX2.out (uF (row := none) hbel) (by simp))
    have hgl := HS3.out.go_lt
    have HS4 := Kh (HS3.out.kept (uF (row := none) hbel) (by simp))
    obtain ⟨l0, hl0⟩ : ∃ l0, l0 = natL zs := ⟨_, rfl⟩
    rw [← hl0] at hown4 HFAM hpos hln
    rw [← hln] at hown4 ⊢
    have HLN := Kh hln
    have hk3 := hk4.1
    clear hln
    have HH4 : Hid (Held w2.heap.size w3.heap.size w.heap.size w4 k4 c4 l0) := Kh (Held.of_owns hown4 hpos (.inr (by omega)) (by omega))
    have HL0 := Kh hl0
    have fb0 := zD HY1.out 0
    have cb4 := zI HY1.out 0 (by simp)
    simp only [List.getElem_toArray, List.getElem_cons_zero] at cb4
    have hs5 := zH w4 ⟨w.heap.size, 0, none⟩ (.slice (some ⟨k4, 0, none⟩) l0.length c4)
    have hfb5 := heap_setCell_same w4 w.heap.size 0 _ _ (.slice (some ⟨k4, 0, none⟩) l0.length c4) HY1.out
    obtain ⟨w5, hw5⟩ : ∃ w5, w5 = w4.setCell ⟨w.heap.size, 0, none⟩ (.slice (some ⟨k4, 0, none⟩) l0.length c4) := ⟨_, rfl⟩
    rw [← hw5] at hs5 hfb5
    have HW5 := Kh hw5
    have hne5 : ∀ x, x ≠ w.heap.size → some w.heap.size ≠ some x := fun x h e => h (Option.some.inj e).symm
    have HP1 : Hid (w5.heap[w.heap.size]? = some (.cells #[.slice (some ⟨k4, 0, none⟩) l0.length c4, .bool d] 49 (0, 0))) := Kh (by rw [hfb5]; simp)
    have HP2 := Kh (zE HY2.out hs5 (hne5 _ (by omega)))
    have HH5 := Kh (HH4.out.kept hs5 (hne5 _ (by omega)))
    have HS5 := Kh (HS4.out.kept hs5 (fun q e => by have : w.heap.size = q := Option.some.inj e; omega))
    have HG5 : Hid (w.grownBy w5 none) := Kh (zG HG4.out hs5 (fun x e => by have : w.heap.size = x := Option.some.inj e; omega))
    have hz5 := hs5.size
    have HT5 := Kh (HT.out.kept HG5.out (by simp))
    have HA5 : Hid (Adv t.length (entN t) (l0, d) 0 l0 d) := Kh ⟨HFAM.out, rfl⟩
    clear hown4 hbel hnn hl0 hs5 hfb5 hw5 hne5 HX1 HX2 HG3 HS3 HCL HY1 HY2 HS4 HH4 HG4 HIN cb0 cb1
    go_wp2_with fail
    rw [← HW5.out]
    clear cb4 fb0
    go_loopg [39] bud.toNat (fun gh i wr => ∃ (k kk sc : Nat) (l : List Nat) (dd : Bool), gh + k = bud.toNat ∧ i = .int .i64 k ∧ Adv t.length (entN t) (l0, d) k l dd ∧ 0 < l.length ∧ w3.heap.size ≤ kk ∧ Held w2.heap.size w3.heap.size w.heap.size wr kk sc l ∧ wP w2.heap.size w3.heap.size wr p go t.length (entN t) ∧ w3.heap.size ≤ wr.heap.size ∧ TabOk wr ∧ w.grownBy wr none ∧ wr.heap[w.heap.size]? = some (.cells #[.slice (some ⟨kk, 0, none⟩) l.length sc, .bool dd] 49 (0, 0)) ∧ wr.heap[w.heap.size + 1]? = some (.cells #[.slice none 0 0, .bool false] 49 (0, 0)))
    case atStart => exact ⟨0, k4, c4, l0, d, rfl, rfl, HA5.out, hpos, hk3, HH5.out, HS5.out, by omega, HT5.out, HG5.out, HP1.out, HP2.out⟩
    case round =>
     clear HA5 HH5 HS5 HT5 HG5 HP1 HP2
     obtain ⟨k, kk, sk, l, dd, hg, rfl, hadv, hpl, hkk, hhe, hs, hzr, hT, hgr, hp1, hp2⟩ := hrel
     have HG := Kh hg; have HAD := Kh hadv; have HHE := Kh hhe; have HS' := Kh hs; have HTR := Kh hT; have HGR := Kh hgr; have HP1 := Kh hp1; have HP2 := Kh hp2
     have cb0 := zI hp1 0 (by simp)
     have cb1 := zI hp1 1 (by simp)
     have fb0 := zD hp1 0
     have fb1 := zD hp1 1
     have cr0 := zI hp2 0 (by simp)
     have cr1 := zI hp2 1 (by simp)
     have fr0 := zD hp2 0
     have fr1 := zD hp2 1
     simp only [List.getElem_toArray, List.getElem_cons_zero, List.getElem_cons_succ] at cb0 cb1 cr0 cr1
     clear hg hadv hhe hs hT hgr hp1 hp2
     have hfin : (advL t zs d bud) = (l, dd) → AdvOk w t im zs d bud (.returned (.tuple #[.agg #[.slice (some ⟨kk, 0, none⟩) l.length sk, .bool dd], .int .i64 0])) ((wr.setCell ⟨w.heap.size + 1, 0, none⟩ (.slice (some ⟨kk, 0, none⟩) l.length sk)).setCell ⟨w.heap.size + 1, 1, none⟩ (.bool dd)) := by
      intro he
      refine ⟨vS HGR.out (by omega) _ _, .inr ⟨HE.out, _, by rw [he], ?_⟩⟩
      rw [he]
      have hss : wr.grownBy ((wr.setCell ⟨w.heap.size + 1, 0, none⟩ (.slice (some ⟨kk, 0, none⟩) l.length sk)).setCell ⟨w.heap.size + 1, 1, none⟩ (.bool dd)) (some (w.heap.size + 1)) := zF (zH wr ⟨w.heap.size + 1, 0, none⟩ _) (zH (wr.setCell ⟨w.heap.size + 1, 0, none⟩ (.slice (some ⟨kk, 0, none⟩) l.length sk)) ⟨w.heap.size + 1, 1, none⟩ _)
      exact (HHE.out.kept hss (fun e => by have : w.heap.size + 1 = kk := Option.some.inj e; omega)).rowO.row
     have HFIN := Kh hfin
     clear hfin
     by_cases hk : (k : Int) < bud
     ·cases dd with
      | true =>
       have HX : Hid (advL t zs d bud = (l, true)) := Kh (by unfold advL; rw [← HL0.out]; exact HAD.out.stop (by omega))
       go_wp2
       exact bodyPost_ret (v := .tuple #[.agg #[.slice (some ⟨kk, 0, none⟩) l.length sk, .bool true], .int .i64 0]) (by simp [results, Tryd.results27, go_sem, cr0, cr1]) rfl (HFIN.out HX.out)
      | false =>
       clear HFIN
       go_wp2_with fail
       have hgl := HS'.out.go_lt
       have hll := HAD.out.le
       have hp4 := vV hle
       refine (round_any w2.heap.size w3.heap.size wr.heap.size wr p go t.length (entN t) _ false l HS'.out HTB.out hle HHE.out.rowO hpl HAD.out.1.1 (by omega) (Nat.le_refl _) hzr (by omega) HTR.out).mono ?_
       rintro e w6 ⟨sa6, sc6, rfl, hown6, hs6, hg6⟩
       have hpos6 := round_ne HTB.out HAD.out.1.1 hpl
       obtain ⟨k6, rfl, hc1, hc2, _⟩ := yI hown6 hpos6
       have hk6 := hown6.lt k6 rfl
       have HGN := Kh (HAD.out.step HTB.out)
       obtain ⟨R, hR⟩ : ∃ R, R = zW t.length (entN t) l := ⟨_, rfl⟩
       obtain ⟨D, hD⟩ : ∃ D, D = decide (zW t.length (entN t) l = l) := ⟨_, rfl⟩
       rw [← hD, ← hR] at HGN
       rw [← hD]
       rw [← hR] at hown6 hpos6 hc1 ⊢
       have hr6 := zE HP1.out hg6 (fun e => by have : go = w.heap.size := Option.some.inj e; omega)
       have HR6 := Kh hr6
       have HQ6 := Kh (zE HP2.out hg6 (fun e => by have : go = w.heap.size + 1 := Option.some.inj e; omega))
       have cb0' := zI hr6 0 (by simp)
       have cb1' := zI hr6 1 (by simp)
       have fb0' := zD hr6 0
       have fb1' := zD hr6 1
       simp only [List.getElem_toArray, List.getElem_cons_zero, List.getElem_cons_succ] at cb0' cb1'
       have HH6 : Hid (Held w2.heap.size w3.heap.size w.heap.size w6 k6 sc6 R) := Kh (Held.of_owns hown6 hpos6 (.inr (by omega)) (by omega))
       have HS6 := Kh hs6
       have HT6 := Kh (HTR.out.kept hg6 (fun e => by have := Option.some.inj e; omega))
       have hz6 := hg6.size
       have HG6 : Hid (w.grownBy w6 none) := Kh (zG HGR.out hg6 (fun x e => by have : go = x := Option.some.inj e; omega))
       clear hown6 hs6 hg6 hr6 hR hD cb0 cb1 fb0 fb1 cr0 cr1 fr0 fr1
       go_wp2
       have hs7 : w6.grownBy ((w6.setCell ⟨w.heap.size, 0, none⟩ (.slice (some ⟨k6, 0, none⟩) R.length sc6)).setCell ⟨w.heap.size, 1, none⟩ (.bool D)) (some w.heap.size) :=
        zF (zH w6 ⟨w.heap.size, 0, none⟩ _) (zH (w6.setCell ⟨w.heap.size, 0, none⟩ (.slice (some ⟨k6, 0, none⟩) R.length sc6)) ⟨w.heap.size, 1, none⟩ _)
       have HR7 := Kh (fam_set HR6.out (.slice (some ⟨k6, 0, none⟩) R.length sc6) (.bool D))
       have HG7 := Kh hs7
       clear hs7
       go_roundg (bud.toNat - (k + 1))
       case measure => have := HG.out; omega
       case rel => exact ⟨k + 1, k6, sc6, R, D, by omega, by go_num, HGN.out, hpos6, by omega, HH6.out.kept HG7.out (fun e => by have : w.heap.size = k6 := Option.some.inj e; omega), HS6.out.kept HG7.out (fun q e => by have : w.heap.size = q := Option.some.inj e; omega), by have := HG7.out.size; omega, HT6.out.kept HG7.out (fun e => by have := Option.some.inj e; omega), zG HG6.out HG7.out (fun x e => by have : w.heap.size = x := Option.some.inj e; omega), HR7.out, zE HQ6.out HG7.out (fun e => by have : w.heap.size = w.heap.size + 1 := Option.some.inj e; omega)⟩
     ·have HX : Hid (advL t zs d bud = (l, dd)) := Kh (by unfold advL; rw [← HL0.out]; rw [show bud.toNat = k by have := HG.out; omega]; exact HAD.out.2)
      go_wp2
      exact bodyPost_ret (v := .tuple #[.agg #[.slice (some ⟨kk, 0, none⟩) l.length sk, .bool dd], .int .i64 0]) (by simp [results, Tryd.results27, go_sem, cr0, cr1]) rfl (HFIN.out HX.out)
 ·have HE := Kh (advE_check (zs := zs) (bud := bud) hz)
  obtain ⟨E, hE⟩ : ∃ E, E = yT t im := ⟨_, rfl⟩
  rw [← hE] at hz HE ⊢
  have e1 : (E != 0) = true := by rw [bne_iff_ne]; exact hz
  clear hE
  go_wp2
  exact bodyPost_ret (v := .tuple #[.agg #[.slice none 0 0, .bool false], .int .i64 E]) (by simp [results, Tryd.results27, go_sem, cr0, cr1]) rfl ⟨vS HG1.out (by omega) _ _, .inl (by rw [HE.out]; exact ⟨hz, rfl⟩)⟩
end Go.Proofs.YtdjhoadoiknaoaaDoor
