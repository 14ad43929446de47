/- Part 28 of the proof: Advance. -/
import Derived.Test.YtdjhoadoiknaoaaDoorZw27
set_option linter.unusedVariables false
set_option linter.unusedSimpArgs false
namespace Go.Proofs.YtdjhoadoiknaoaaDoor
open Go.RowKit
noncomputable def advE (t : List (List Int)) (im zs : List Int) (bud : Int) : Int :=
  if checkE t im ≠ 0 then checkE t im else if bud < 1 ∨ 1048576 < bud then 1 else if famB t.length zs = true then 0 else 8
theorem advE_check {t : List (List Int)} {im zs : List Int} {bud : Int} (h : checkE t im ≠ 0) : advE t im zs bud = checkE t im := by rw [advE, if_pos h]
theorem advE_arg {t : List (List Int)} {im zs : List Int} {bud : Int} (h : checkE t im = 0) (hb : bud < 1 ∨ 1048576 < bud) : advE t im zs bud = 1 := by rw [advE, if_neg (by omega), if_pos hb]
theorem advE_fam {t : List (List Int)} {im zs : List Int} {bud : Int} (h : checkE t im = 0) (hb : ¬ (bud < 1 ∨ 1048576 < bud)) (hf : famB t.length zs = false) : advE t im zs bud = 8 := by rw [advE, if_neg (by omega), if_neg hb, if_neg (by rw [hf]; simp)]
theorem advE_ok {t : List (List Int)} {im zs : List Int} {bud : Int} (h : checkE t im = 0) (hb : ¬ (bud < 1 ∨ 1048576 < bud)) (hf : famB t.length zs = true) : advE t im zs bud = 0 := by rw [advE, if_neg (by omega), if_neg hb, if_pos hf]
def advL (t : List (List Int)) (zs : List Int) (d : Bool) (bud : Int) : List Nat × Bool := roundsGo t.length (entN t) bud.toNat (natL zs, d)
def AdvOk (w : World) (t : List (List Int)) (im zs : List Int) (d : Bool) (bud : Int) (e : Ending) (w' : World) : Prop :=
  w.grownBy w' none ∧ ((advE t im zs bud ≠ 0 ∧ e = .returned (.tuple #[.agg #[.slice none 0 0, .bool false], .int .i64 (advE t im zs bud)])) ∨
    (advE t im zs bud = 0 ∧ ∃ v, e = .returned (.tuple #[.agg #[v, .bool (advL t zs d bud).2], .int .i64 0]) ∧ Row w'.heap.size w' v (nats (advL t zs d bud).1)))
def Adv (n : Nat) (tb : Nat → Nat → Nat) (f0 : List Nat × Bool) (k : Nat) (l : List Nat) (d : Bool) : Prop := FamOk n (l, d) ∧ roundsGo n tb k f0 = (l, d)
theorem Adv.step {n : Nat} {tb : Nat → Nat → Nat} {f0 : List Nat × Bool} {k : Nat} {l : List Nat} (ht : Tb n tb) (h : Adv n tb f0 k l false) : Adv n tb f0 (k + 1) (roundSets n tb l) (decide (roundSets n tb l = l)) := by
  obtain ⟨hf, hk⟩ := h
  refine ⟨famOk_round ht hf, ?_⟩
  rw [roundsGo_add, hk, roundsGo_step]; rfl
theorem Adv.stop {n : Nat} {tb : Nat → Nat → Nat} {f0 : List Nat × Bool} {k m : Nat} {l : List Nat} (h : Adv n tb f0 k l true) (hkm : k ≤ m) : roundsGo n tb m f0 = (l, true) := by
  obtain ⟨j, rfl⟩ : ∃ j, m = k + j := ⟨m - k, by omega⟩
  rw [roundsGo_add, h.2, roundsGo_done]
theorem Adv.le {n : Nat} {tb : Nat → Nat → Nat} {f0 : List Nat × Bool} {k : Nat} {l : List Nat} {d : Bool} (h : Adv n tb f0 k l d) : l.length ≤ 2 ^ n := by
  have := maxOf_le n l
  rw [h.1.2] at this
  exact this
theorem two_boxes (w : World) (c1 c2 : Array Value) (e : Nat) : ((w.alloc (.cells c1 e)).alloc (.cells c2 e)).heap[w.heap.size]? = some (.cells c1 e (0, 0)) ∧ ((w.alloc (.cells c1 e)).alloc (.cells c2 e)).heap[w.heap.size + 1]? = some (.cells c2 e (0, 0)) ∧ w.grownBy ((w.alloc (.cells c1 e)).alloc (.cells c2 e)) none ∧ ((w.alloc (.cells c1 e)).alloc (.cells c2 e)).heap.size = w.heap.size + 2 := by
  refine ⟨block_kept (heap_alloc_new w _) (World.grownBy_alloc _ _ none) (by simp), ?_, grown_alloc (World.grownBy_alloc w _ none) _, by rw [alloc_size, alloc_size]⟩
  have := heap_alloc_new (w.alloc (.cells c1 e)) (.cells c2 e)
  rw [alloc_size] at this
  exact this
theorem res_grown {w wr : World} {b : Nat} (h : w.grownBy wr none) (hb : w.heap.size ≤ b) (x y : Value) : w.grownBy ((wr.setCell ⟨b, 0, none⟩ x).setCell ⟨b, 1, none⟩ y) none :=
  grown_far h (grownBy_trans' (grownBy_setCell wr ⟨b, 0, none⟩ x) (grownBy_setCell (wr.setCell ⟨b, 0, none⟩ x) ⟨b, 1, none⟩ y)) (fun q e => by have : b = q := Option.some.inj e; omega)
theorem owns_shape' {w : World} {base e n : Nat} {v : Value} {xs : List Value} (h : w.ownsRow base e 1 v n xs) (hn : 0 < n) : ∃ kb sc, v = .slice (some ⟨kb, 0, none⟩) n sc := by
  rcases h.2 with ⟨_, h0⟩ | ⟨g, cap, cur, h1, _⟩
  · omega
  · exact ⟨g, cap, h1⟩
set_option maxHeartbeats 800000 in
theorem advance_any (B : Nat) (w : World) (v iv sv : Value) (t : List (List Int)) (im zs : List Int) (d : Bool) (bud : Int) (hB : B ≤ w.heap.size) (h : Mat B w v t) (hi : Row B w iv (ints im)) (hs : Row B w sv (ints zs)) (hT : TabOk w) :
    Calls Tryd.prog 27 #[v, iv, .agg #[sv, .bool d], .int .i64 bud] w (AdvOk w t im zs d bud) := by
  have H := Lib.hid h; have HI := Lib.hid hi; have HT := Lib.hid hT
  have hzl := hs.len_le
  rw [ints_length] at hzl
  unfold maxLen at hzl
  obtain ⟨sa, sc, rfl⟩ := hs.shape
  rw [ints_length] at hs ⊢
  have HS := Lib.hid hs
  have hgt0 := hT.1
  clear h hi hT hs
  go_enter Tryd.func27, Tryd.ntmps27
  go_wp2_with fail
  obtain ⟨wA, hWA⟩ : ∃ wA, wA = (w.alloc (.cells #[.slice sa zs.length sc, .bool d] 49)).alloc (.cells #[.slice none 0 0, .bool false] 49) := ⟨_, rfl⟩
  obtain ⟨h1, h2, h3, hzA⟩ := two_boxes w #[.slice sa zs.length sc, .bool d] #[.slice none 0 0, .bool false] 49
  rw [← hWA] at h1 h2 h3 hzA ⊢
  have HB1 := Lib.hid h1; have HB2 := Lib.hid h2; have HGA := Lib.hid h3
  clear hWA h1 h2 h3
  refine (check_any B wA v iv t im (by omega) (H.out.kept HGA.out (by simp)) (HI.out.kept HGA.out (by simp))).mono ?_
  rintro e w1 ⟨rfl, hg1⟩
  have hz1 := hg1.size
  have HC1 := Lib.hid (block_kept HB1.out hg1 (by simp)); have HC2 := Lib.hid (block_kept HB2.out hg1 (by simp))
  have HG1 := Lib.hid (grownBy_trans' HGA.out hg1)
  have cr0 := cell_block HC2.out 0 (by simp)
  have cr1 := cell_block HC2.out 1 (by simp)
  have fr0 := frozen_block HC2.out 0
  have fr1 := frozen_block HC2.out 1
  have cb0 := cell_block HC1.out 0 (by simp)
  have cb1 := cell_block HC1.out 1 (by simp)
  simp only [List.getElem_toArray, List.getElem_cons_zero, List.getElem_cons_succ] at cr0 cr1 cb0 cb1
  clear hg1 HB1 HB2 HGA
  by_cases hz : checkE t im = 0
  · rw [hz]
    have HZ := Lib.hid hz
    have hgd := checkE_good.1 hz
    have HGD := Lib.hid hgd
    have hle := hgd.le
    have hva := hgd.valid
    have HTB := Lib.hid (tb_of hva)
    have HVA := Lib.hid hva
    clear hz hgd hva
    by_cases hb : bud < 1 ∨ 1048576 < bud
    · have HE := Lib.hid (advE_arg (zs := zs) HZ.out hb)
      have hfin : ∀ wr : World, AdvOk w t im zs d bud (.returned (.tuple #[.agg #[.slice none 0 0, .bool false], .int .i64 1])) ((w1.setCell ⟨w.heap.size + 1, 0, none⟩ (.slice none 0 0)).setCell ⟨w.heap.size + 1, 1, none⟩ (.bool false)) := fun _ => ⟨res_grown HG1.out (by omega) _ _, .inl (by rw [HE.out]; exact ⟨by omega, rfl⟩)⟩
      have HFIN := Lib.hid hfin
      clear hfin
      by_cases hb1 : bud < 1
      · clear hb
        go_wp2
        exact bodyPost_ret (v := .tuple #[.agg #[.slice none 0 0, .bool false], .int .i64 1]) (by simp [results, Tryd.results27, go_sem, cr0, cr1]) rfl (HFIN.out w)
      · have hb2 : 1048576 < bud := by omega
        clear hb
        go_wp2
        exact bodyPost_ret (v := .tuple #[.agg #[.slice none 0 0, .bool false], .int .i64 1]) (by simp [results, Tryd.results27, go_sem, cr0, cr1]) rfl (HFIN.out w)
    · have hb1 : 1 ≤ bud := by omega
      have hb2 : bud ≤ 1048576 := by omega
      have HBU := Lib.hid hb
      have HVF := Lib.hid (validFamily_any B w1 v _ t zs (by omega) (H.out.kept HG1.out (by simp)) (HS.out.kept HG1.out (by simp)) HVA.out hle (HT.out.kept HG1.out (by simp)))
      clear hb
      go_wp2_with fail
      refine HVF.out.mono ?_
      rintro e w2 ⟨rfl, hg2⟩
      have hz2 := hg2.size
      have HD1 := Lib.hid (block_kept HC1.out hg2 (by simp)); have HD2 := Lib.hid (block_kept HC2.out hg2 (by simp))
      have HG2 := Lib.hid (grownBy_trans' HG1.out hg2)
      clear cr0 cr1 fr0 fr1 cb0 cb1 hg2 HVF HC1 HC2 HG1
      have cb0 := cell_block HD1.out 0 (by simp)
      have fb0 := frozen_block HD1.out 0
      simp only [List.getElem_toArray, List.getElem_cons_zero, List.getElem_cons_succ] at cb0
      cases hf : famB t.length zs with
      | false =>
        have HE := Lib.hid (advE_fam HZ.out HBU.out hf)
        have cr0 := cell_block HD2.out 0 (by simp)
        have cr1 := cell_block HD2.out 1 (by simp)
        have fr0 := frozen_block HD2.out 0
        have fr1 := frozen_block HD2.out 1
        simp only [List.getElem_toArray, List.getElem_cons_zero, List.getElem_cons_succ] at cr0 cr1
        clear hf
        go_wp2
        exact bodyPost_ret (v := .tuple #[.agg #[.slice none 0 0, .bool false], .int .i64 8]) (by simp [results, Tryd.results27, go_sem, cr0, cr1]) rfl ⟨res_grown HG2.out (by omega) _ _, .inl (by rw [HE.out]; exact ⟨by omega, rfl⟩)⟩
      | true =>
        have HE := Lib.hid (advE_ok HZ.out HBU.out hf)
        obtain ⟨hfam, hpos, hin⟩ := famB_max hf
        have HFAM := Lib.hid hfam; have HIN := Lib.hid hin
        have hln := natL_length zs
        have hlz : zs.length ≤ 2 ^ t.length := by rw [← hln]; have := maxOf_le t.length (natL zs); rw [hfam.2] at this; exact this
        have hp4 := pow_le hle
        have HNS := Lib.hid (newSets_any B w2 v t (by omega) (H.out.kept HG2.out (by simp)) HVA.out hle (HT.out.kept HG2.out (by simp)))
        clear hf hfam hin
        go_wp2_with fail
        refine HNS.out.mono ?_
        rintro e w3 ⟨p, go, rfl, hs3, hg3⟩
        have hz3 := hg3.size
        have HS3 := Lib.hid hs3
        have HX1 := Lib.hid (block_kept HD1.out hg3 (by simp)); have HX2 := Lib.hid (block_kept HD2.out hg3 (by simp))
        have HG3 := Lib.hid (grownBy_trans' HG2.out hg3)
        clear hs3 hg3 HNS HD1 HD2 HG2 cb0 fb0
        have cb0 := cell_block HX1.out 0 (by simp)
        have cb1 := cell_block HX1.out 1 (by simp)
        simp only [List.getElem_toArray, List.getElem_cons_zero, List.getElem_cons_succ] at cb0 cb1
        obtain ⟨ib, io, icc, e, _, _, _, hra⟩ := (HS.out.kept HG3.out (by simp)).some_ (by rw [ints_length]; omega)
        simp only [Value.slice.injEq] at e
        obtain ⟨rfl, -, -⟩ := e
        have HCL := Lib.hid (Tryd.slices_Clone_int ib io zs.length sc zs w3 (Nat.le_refl _) (by omega) (fun j hj => hra.int j hj))
        clear hra
        go_wp2_with fail
        refine HCL.out.mono ?_
        rintro e w4 ⟨v4, rfl, hown4, hnn, hbel⟩
        rw [List.take_of_length_le (Nat.le_refl _)] at hown4
        obtain ⟨k4, c4, rfl⟩ := owns_shape' hown4 (by omega)
        change w4.ownsRow w3.heap.size 3 1 (.slice (some ⟨k4, 0, none⟩) zs.length c4) zs.length (ints zs) at hown4
        rw [HIN.out] at hown4
        have hk4 := hown4.lt k4 rfl
        have HG4 : Hid (w.grownBy w4 none) := Lib.hid (grownBy_trans' HG3.out (grown_of_below hbel))
        have hz4 := hbel.size
        have HY1 := Lib.hid (block_kept HX1.out (grown_of_below (row := none) hbel) (by simp)); have HY2 := Lib.hid (block_kept HX2.out (grown_of_below (row := none) hbel) (by simp))
        have hgl := HS3.out.go_lt
        have HS4 := Lib.hid (HS3.out.kept (grown_of_below (row := none) hbel) (by simp))
        obtain ⟨l0, hl0⟩ : ∃ l0, l0 = natL zs := ⟨_, rfl⟩
        rw [← hl0] at hown4 HFAM hpos hln
        rw [← hln] at hown4 ⊢
        have HLN := Lib.hid hln
        have hk3 := hk4.1
        clear hln
        have HH4 : Hid (Held w2.heap.size w3.heap.size w.heap.size w4 k4 c4 l0) := Lib.hid (Held.of_owns hown4 hpos (.inr (by omega)) (by omega))
        have HL0 := Lib.hid hl0
        have fb0 := frozen_block HY1.out 0
        have cb4 := cell_block HY1.out 0 (by simp)
        simp only [List.getElem_toArray, List.getElem_cons_zero] at cb4
        have hs5 := grownBy_setCell w4 ⟨w.heap.size, 0, none⟩ (.slice (some ⟨k4, 0, none⟩) l0.length c4)
        have hfb5 := heap_setCell_same w4 w.heap.size 0 _ _ (.slice (some ⟨k4, 0, none⟩) l0.length c4) HY1.out
        obtain ⟨w5, hw5⟩ : ∃ w5, w5 = w4.setCell ⟨w.heap.size, 0, none⟩ (.slice (some ⟨k4, 0, none⟩) l0.length c4) := ⟨_, rfl⟩
        rw [← hw5] at hs5 hfb5
        have HW5 := Lib.hid hw5
        have hne5 : ∀ x, x ≠ w.heap.size → some w.heap.size ≠ some x := fun x h e => h (Option.some.inj e).symm
        have HP1 : Hid (w5.heap[w.heap.size]? = some (.cells #[.slice (some ⟨k4, 0, none⟩) l0.length c4, .bool d] 49 (0, 0))) := Lib.hid (by rw [hfb5]; simp)
        have HP2 := Lib.hid (block_kept HY2.out hs5 (hne5 _ (by omega)))
        have HH5 := Lib.hid (HH4.out.kept hs5 (hne5 _ (by omega)))
        have HS5 := Lib.hid (HS4.out.kept hs5 (fun q e => by have : w.heap.size = q := Option.some.inj e; omega))
        have HG5 : Hid (w.grownBy w5 none) := Lib.hid (grown_far HG4.out hs5 (fun x e => by have : w.heap.size = x := Option.some.inj e; omega))
        have hz5 := hs5.size
        have HT5 := Lib.hid (HT.out.kept HG5.out (by simp))
        have HA5 : Hid (Adv t.length (entN t) (l0, d) 0 l0 d) := Lib.hid ⟨HFAM.out, rfl⟩
        clear hown4 hbel hnn hl0 hs5 hfb5 hw5 hne5 HX1 HX2 HG3 HS3 HCL HY1 HY2 HS4 HH4 HG4 HIN cb0 cb1
        go_wp2_with fail
        rw [← HW5.out]
        clear cb4 fb0
        go_loopg [39] bud.toNat (fun gh i wr => ∃ (k kk sc : Nat) (l : List Nat) (dd : Bool), gh + k = bud.toNat ∧ i = .int .i64 k ∧ Adv t.length (entN t) (l0, d) k l dd ∧ 0 < l.length ∧ w3.heap.size ≤ kk ∧ Held w2.heap.size w3.heap.size w.heap.size wr kk sc l ∧ SetsOk w2.heap.size w3.heap.size wr p go t.length (entN t) ∧ w3.heap.size ≤ wr.heap.size ∧ TabOk wr ∧ w.grownBy wr none ∧ wr.heap[w.heap.size]? = some (.cells #[.slice (some ⟨kk, 0, none⟩) l.length sc, .bool dd] 49 (0, 0)) ∧ wr.heap[w.heap.size + 1]? = some (.cells #[.slice none 0 0, .bool false] 49 (0, 0)))
        case atStart => exact ⟨0, k4, c4, l0, d, rfl, rfl, HA5.out, hpos, hk3, HH5.out, HS5.out, by omega, HT5.out, HG5.out, HP1.out, HP2.out⟩
        case round =>
          clear HA5 HH5 HS5 HT5 HG5 HP1 HP2
          obtain ⟨k, kk, sk, l, dd, hg, rfl, hadv, hpl, hkk, hhe, hs, hzr, hT, hgr, hp1, hp2⟩ := hrel
          have HG := Lib.hid hg; have HAD := Lib.hid hadv; have HHE := Lib.hid hhe; have HS' := Lib.hid hs; have HTR := Lib.hid hT; have HGR := Lib.hid hgr; have HP1 := Lib.hid hp1; have HP2 := Lib.hid hp2
          have cb0 := cell_block hp1 0 (by simp)
          have cb1 := cell_block hp1 1 (by simp)
          have fb0 := frozen_block hp1 0
          have fb1 := frozen_block hp1 1
          have cr0 := cell_block hp2 0 (by simp)
          have cr1 := cell_block hp2 1 (by simp)
          have fr0 := frozen_block hp2 0
          have fr1 := frozen_block hp2 1
          simp only [List.getElem_toArray, List.getElem_cons_zero, List.getElem_cons_succ] at cb0 cb1 cr0 cr1
          clear hg hadv hhe hs hT hgr hp1 hp2
          have hfin : (advL t zs d bud) = (l, dd) → AdvOk w t im zs d bud (.returned (.tuple #[.agg #[.slice (some ⟨kk, 0, none⟩) l.length sk, .bool dd], .int .i64 0])) ((wr.setCell ⟨w.heap.size + 1, 0, none⟩ (.slice (some ⟨kk, 0, none⟩) l.length sk)).setCell ⟨w.heap.size + 1, 1, none⟩ (.bool dd)) := by
            intro he
            refine ⟨res_grown HGR.out (by omega) _ _, .inr ⟨HE.out, _, by rw [he], ?_⟩⟩
            rw [he]
            have hss : wr.grownBy ((wr.setCell ⟨w.heap.size + 1, 0, none⟩ (.slice (some ⟨kk, 0, none⟩) l.length sk)).setCell ⟨w.heap.size + 1, 1, none⟩ (.bool dd)) (some (w.heap.size + 1)) := grownBy_trans' (grownBy_setCell wr ⟨w.heap.size + 1, 0, none⟩ _) (grownBy_setCell (wr.setCell ⟨w.heap.size + 1, 0, none⟩ (.slice (some ⟨kk, 0, none⟩) l.length sk)) ⟨w.heap.size + 1, 1, none⟩ _)
            exact (HHE.out.kept hss (fun e => by have : w.heap.size + 1 = kk := Option.some.inj e; omega)).rowO.row
          have HFIN := Lib.hid hfin
          clear hfin
          by_cases hk : (k : Int) < bud
          · cases dd with
            | true =>
              have HX : Hid (advL t zs d bud = (l, true)) := Lib.hid (by unfold advL; rw [← HL0.out]; exact HAD.out.stop (by omega))
              go_wp2
              exact bodyPost_ret (v := .tuple #[.agg #[.slice (some ⟨kk, 0, none⟩) l.length sk, .bool true], .int .i64 0]) (by simp [results, Tryd.results27, go_sem, cr0, cr1]) rfl (HFIN.out HX.out)
            | false =>
              clear HFIN
              go_wp2_with fail
              have hgl := HS'.out.go_lt
              have hll := HAD.out.le
              have hp4 := pow_le hle
              refine (round_any w2.heap.size w3.heap.size wr.heap.size wr p go t.length (entN t) _ false l HS'.out HTB.out hle HHE.out.rowO hpl HAD.out.1.1 (by omega) (Nat.le_refl _) hzr (by omega) HTR.out).mono ?_
              rintro e w6 ⟨sa6, sc6, rfl, hown6, hs6, hg6⟩
              have hpos6 := round_ne HTB.out HAD.out.1.1 hpl
              obtain ⟨k6, rfl, hc1, hc2, _⟩ := owns_some hown6 hpos6
              have hk6 := hown6.lt k6 rfl
              have HGN := Lib.hid (HAD.out.step HTB.out)
              obtain ⟨R, hR⟩ : ∃ R, R = roundSets t.length (entN t) l := ⟨_, rfl⟩
              obtain ⟨D, hD⟩ : ∃ D, D = decide (roundSets t.length (entN t) l = l) := ⟨_, rfl⟩
              rw [← hD, ← hR] at HGN
              rw [← hD]
              rw [← hR] at hown6 hpos6 hc1 ⊢
              have hr6 := block_kept HP1.out hg6 (fun e => by have : go = w.heap.size := Option.some.inj e; omega)
              have HR6 := Lib.hid hr6
              have HQ6 := Lib.hid (block_kept HP2.out hg6 (fun e => by have : go = w.heap.size + 1 := Option.some.inj e; omega))
              have cb0' := cell_block hr6 0 (by simp)
              have cb1' := cell_block hr6 1 (by simp)
              have fb0' := frozen_block hr6 0
              have fb1' := frozen_block hr6 1
              simp only [List.getElem_toArray, List.getElem_cons_zero, List.getElem_cons_succ] at cb0' cb1'
              have HH6 : Hid (Held w2.heap.size w3.heap.size w.heap.size w6 k6 sc6 R) := Lib.hid (Held.of_owns hown6 hpos6 (.inr (by omega)) (by omega))
              have HS6 := Lib.hid hs6
              have HT6 := Lib.hid (HTR.out.kept hg6 (fun e => by have := Option.some.inj e; omega))
              have hz6 := hg6.size
              have HG6 : Hid (w.grownBy w6 none) := Lib.hid (grown_far HGR.out hg6 (fun x e => by have : go = x := Option.some.inj e; omega))
              clear hown6 hs6 hg6 hr6 hR hD cb0 cb1 fb0 fb1 cr0 cr1 fr0 fr1
              go_wp2
              have hs7 : w6.grownBy ((w6.setCell ⟨w.heap.size, 0, none⟩ (.slice (some ⟨k6, 0, none⟩) R.length sc6)).setCell ⟨w.heap.size, 1, none⟩ (.bool D)) (some w.heap.size) :=
                grownBy_trans' (grownBy_setCell w6 ⟨w.heap.size, 0, none⟩ _) (grownBy_setCell (w6.setCell ⟨w.heap.size, 0, none⟩ (.slice (some ⟨k6, 0, none⟩) R.length sc6)) ⟨w.heap.size, 1, none⟩ _)
              have HR7 := Lib.hid (fam_set HR6.out (.slice (some ⟨k6, 0, none⟩) R.length sc6) (.bool D))
              have HG7 := Lib.hid hs7
              clear hs7
              go_roundg (bud.toNat - (k + 1))
              case measure => have := HG.out; omega
              case rel => exact ⟨k + 1, k6, sc6, R, D, by omega, by go_num, HGN.out, hpos6, by omega, HH6.out.kept HG7.out (fun e => by have : w.heap.size = k6 := Option.some.inj e; omega), HS6.out.kept HG7.out (fun q e => by have : w.heap.size = q := Option.some.inj e; omega), by have := HG7.out.size; omega, HT6.out.kept HG7.out (fun e => by have := Option.some.inj e; omega), grown_far HG6.out HG7.out (fun x e => by have : w.heap.size = x := Option.some.inj e; omega), HR7.out, block_kept HQ6.out HG7.out (fun e => by have : w.heap.size = w.heap.size + 1 := Option.some.inj e; omega)⟩
          · have HX : Hid (advL t zs d bud = (l, dd)) := Lib.hid (by unfold advL; rw [← HL0.out]; rw [show bud.toNat = k by have := HG.out; omega]; exact HAD.out.2)
            go_wp2
            exact bodyPost_ret (v := .tuple #[.agg #[.slice (some ⟨kk, 0, none⟩) l.length sk, .bool dd], .int .i64 0]) (by simp [results, Tryd.results27, go_sem, cr0, cr1]) rfl (HFIN.out HX.out)
  · have HE := Lib.hid (advE_check (zs := zs) (bud := bud) hz)
    obtain ⟨E, hE⟩ : ∃ E, E = checkE t im := ⟨_, rfl⟩
    rw [← hE] at hz HE ⊢
    have e1 : (E != 0) = true := by rw [bne_iff_ne]; exact hz
    clear hE
    go_wp2
    exact bodyPost_ret (v := .tuple #[.agg #[.slice none 0 0, .bool false], .int .i64 E]) (by simp [results, Tryd.results27, go_sem, cr0, cr1]) rfl ⟨res_grown HG1.out (by omega) _ _, .inl (by rw [HE.out]; exact ⟨hz, rfl⟩)⟩
end Go.Proofs.YtdjhoadoiknaoaaDoor
