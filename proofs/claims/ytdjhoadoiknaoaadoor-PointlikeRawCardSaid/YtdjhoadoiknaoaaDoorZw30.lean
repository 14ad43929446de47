/- Part 30 of the proof: RAdv. -/
import Derived.Test.YtdjhoadoiknaoaaDoorZw29
import Derived.Deep.DeepCutAuto
import Derived.Deep.CutBlock
set_option linter.unusedVariables false
set_option linter.unusedSimpArgs false
namespace Go.Proofs.YtdjhoadoiknaoaaDoor
open Go.RowKit
theorem Arr.ne {w : World} {g pb e e' : Nat} {xs : List Value} {cs : Array Value} {m : Nat × Nat} (h : Arr w g e xs) (hb : w.heap[pb]? = some (.cells cs e' m)) (hne : e ≠ e') : g ≠ pb := by
  rintro rfl
  obtain ⟨cur, rest, h1, _⟩ := h
  rw [h1] at hb
  simp only [Option.some.injEq, Obj.cells.injEq] at hb
  exact hne hb.2.1
theorem cast_dec {l m : List Nat} : decide ((l.map fun (x : Nat) => (x : Int)) = m.map fun (x : Nat) => (x : Int)) = decide (l = m) := by
  rw [← cast_inj (l := l) (m := m), Bool.eq_iff_iff, decide_eq_true_eq, beq_iff_eq]
theorem fam_set' {w : World} {b : Nat} {x y : Value} {e : Nat} (h : w.heap[b]? = some (.cells #[x, y] e (0, 0))) (x' y' : Value) :
    ((w.setCell ⟨b, 1, none⟩ y').setCell ⟨b, 0, none⟩ x').heap[b]? = some (.cells #[x', y'] e (0, 0)) := by
  have h1 := heap_setCell_same w b 1 _ _ y' h
  have h2 := heap_setCell_same _ b 0 _ _ x' h1
  rw [h2]; simp
theorem fam_same {n : Nat} {zs : List Int} (h0 : ¬ zs.length = 0) (h : famTo n zs zs.length = true) : decide (zs = (maxOf n (natL zs)).map fun (x : Nat) => (x : Int)) = famB n zs := by
  have hzs : zs = (natL zs).map fun (x : Nat) => (x : Int) := by
    refine List.ext_getElem (by simp [natL]) fun i h1 h2 => ?_
    have := famTo_at h h1
    simp only [famAt, setB, List.getD, List.getElem?_eq_getElem h1, Option.getD_some, Bool.and_eq_true, decide_eq_true_eq] at this
    simp only [natL, List.getElem_map]
    omega
  rw [Bool.eq_iff_iff, decide_eq_true_eq]
  constructor
  · intro e
    rw [famB_eq (by omega) h, decide_eq_true_eq]
    have := congrArg List.length e
    rw [List.length_map] at this
    exact this.symm
  · intro e
    have hf := (famB_max e).1.2
    have hf' : maxOf n (natL zs) = natL zs := hf
    rw [hf']; exact hzs
set_option maxHeartbeats 800000 in
theorem radvance_any (B : Nat) (w : World) (v iv sv : Value) (t : List (List Int)) (im zs : List Int) (d : Bool) (bud : Int) (hB : B ≤ w.heap.size) (h : Mat B w v t) (hi : Row B w iv (ints im)) (hs : Row B w sv (ints zs)) :
    Calls Tryd.prog 28 #[v, iv, .agg #[sv, .bool d], .int .i64 bud] w (AdvOk w t im zs d bud) := by
  have H := Lib.hid h; have HI := Lib.hid hi
  have hzl := hs.len_le
  rw [ints_length] at hzl
  unfold maxLen at hzl
  obtain ⟨sa, sc, rfl⟩ := hs.shape
  rw [ints_length] at hs ⊢
  have HS := Lib.hid hs
  clear h hi hs
  go_enter Tryd.func28, Tryd.ntmps28
  go_wp2_with fail
  obtain ⟨wA, hWA⟩ : ∃ wA, wA = (w.alloc (.cells #[.slice sa zs.length sc, .bool d] 49)).alloc (.cells #[.slice none 0 0, .bool false] 49) := ⟨_, rfl⟩
  obtain ⟨h1, h2, h3, hzA⟩ := two_boxes w #[.slice sa zs.length sc, .bool d] #[.slice none 0 0, .bool false] 49
  rw [← hWA] at h1 h2 h3 hzA ⊢
  have HB1 := Lib.hid h1; have HB2 := Lib.hid h2; have HGA := Lib.hid h3
  clear hWA h1 h2 h3
  refine (may_any B wA v iv t im (H.out.kept HGA.out (by simp)) (HI.out.kept HGA.out (by simp))).mono ?_
  rintro e w1 ⟨rfl, hd1⟩
  have hg1 : wA.grownBy w1 none := by obtain ⟨m, rfl⟩ := hd1; exact grownBy_drewN _ _ _
  clear hd1
  have hz1 := hg1.size
  have HC1 := Lib.hid (block_kept HB1.out hg1 (by simp)); have HC2 := Lib.hid (block_kept HB2.out hg1 (by simp))
  have HG1 := Lib.hid (grownBy_trans' HGA.out hg1)
  have cr0 := cell_block HC2.out 0 (by simp)
  have cr1 := cell_block HC2.out 1 (by simp)
  have fr0 := frozen_block HC2.out 0
  have fr1 := frozen_block HC2.out 1
  have cb0 := cell_block HC1.out 0 (by simp)
  have cb1 := cell_block HC1.out 1 (by simp)
  simp only [List.getElem_toArray, List.getElem_cons_zero, List.getElem_cons_succ] at cr0 cr1 cb0 cb1
  clear hg1 HB1 HB2 HGA
  by_cases hz : checkE t im = 0
  · rw [hz]
    have HZ := Lib.hid hz
    have hgd := checkE_good.1 hz
    have HGD := Lib.hid hgd
    have hle := hgd.le
    have hva := hgd.valid
    have HTB := Lib.hid (tb_of hva)
    have HVA := Lib.hid hva
    clear hz hgd hva
    by_cases hb : bud < 1 ∨ 1048576 < bud
    · have HE := Lib.hid (advE_arg (zs := zs) HZ.out hb)
      have hfin : ∀ wr : World, AdvOk w t im zs d bud (.returned (.tuple #[.agg #[.slice none 0 0, .bool false], .int .i64 1])) ((w1.setCell ⟨w.heap.size + 1, 0, none⟩ (.slice none 0 0)).setCell ⟨w.heap.size + 1, 1, none⟩ (.bool false)) := fun _ => ⟨res_grown HG1.out (by omega) _ _, .inl (by rw [HE.out]; exact ⟨by omega, rfl⟩)⟩
      have HFIN := Lib.hid hfin
      clear hfin
      by_cases hb1 : bud < 1
      · clear hb
        go_wp2
        exact bodyPost_ret (v := .tuple #[.agg #[.slice none 0 0, .bool false], .int .i64 1]) (by simp [results, Tryd.results28, go_sem, cr0, cr1]) rfl (HFIN.out w)
      · have hb2 : 1048576 < bud := by omega
        clear hb
        go_wp2
        exact bodyPost_ret (v := .tuple #[.agg #[.slice none 0 0, .bool false], .int .i64 1]) (by simp [results, Tryd.results28, go_sem, cr0, cr1]) rfl (HFIN.out w)
    · have hb1 : 1 ≤ bud := by omega
      have hb2 : bud ≤ 1048576 := by omega
      have HBU := Lib.hid hb
      obtain ⟨ta, tc, rfl⟩ := H.out.shape
      clear hb
      have hfin : ∀ W, w1.grownBy W none → famB t.length zs = false → AdvOk w t im zs d bud (.returned (.tuple #[.agg #[.slice none 0 0, .bool false], .int .i64 8])) ((W.setCell ⟨w.heap.size + 1, 0, none⟩ (.slice none 0 0)).setCell ⟨w.heap.size + 1, 1, none⟩ (.bool false)) := fun W hW hf => by
        have HE := advE_fam (im := im) (bud := bud) HZ.out HBU.out hf
        exact ⟨res_grown (grownBy_trans' HG1.out hW) (by omega) _ _, .inl (by rw [HE]; exact ⟨by omega, rfl⟩)⟩
      have HFIN := Lib.hid hfin
      clear hfin
      go_wp2
      go_loopg [33] zs.length (fun g i wr => ∃ k : Nat, g + k = zs.length ∧ i = .int .i64 k ∧ famTo t.length zs k = true ∧ w1 = wr)
      case atStart => exact ⟨0, rfl, rfl, rfl, rfl⟩
      case round =>
        obtain ⟨y, hg, rfl, hok, rfl⟩ := hrel
        have OKY := Lib.hid hok; have HGY := Lib.hid hg; clear hok hg
        by_cases hy : y < zs.length
        · obtain ⟨ib, io, icc, e, _, _, _, hra⟩ := (HS.out.kept HG1.out (by simp)).some_ (by rw [ints_length]; omega)
          simp only [Value.slice.injEq] at e
          obtain ⟨rfl, -, -⟩ := e
          have hcy := hra.int y hy
          obtain ⟨z, hz⟩ : ∃ z, z = zs.getD y 0 := ⟨_, rfl⟩
          rw [← hz] at hcy
          have HZY := Lib.hid hz; have RA := Lib.hid hra; clear hz hra
          by_cases hb3 : z = 0
          · have HF : Hid (famB t.length zs = false) := Lib.hid (famB_no (famTo_no (i := y) (by rw [famAt_is HZY.out rfl, hb3]; rfl) hy))
            subst hb3
            go_wp2
            exact bodyPost_ret (v := .tuple #[.agg #[.slice none 0 0, .bool false], .int .i64 8]) (by simp [results, Tryd.results28, go_sem, cr0, cr1]) rfl (HFIN.out _ (grownBy_refl _ _) HF.out)
          · have e1 : (z == 0) = false := by rw [beq_eq_false_iff_ne]; exact hb3
            cases hs : setB t.length z with
            | false =>
              have HF : Hid (famB t.length zs = false) := Lib.hid (famB_no (famTo_no (i := y) (by rw [famAt_is HZY.out rfl, hs]; simp) hy))
              go_wp2_with fail
              refine (isSet_any w1 ta t.length tc z hle).mono ?_
              rintro e w2 ⟨rfl, rfl⟩
              rw [hs]
              go_wp2
              exact bodyPost_ret (v := .tuple #[.agg #[.slice none 0 0, .bool false], .int .i64 8]) (by simp [results, Tryd.results28, go_sem, cr0, cr1]) rfl (HFIN.out _ (grownBy_refl _ _) HF.out)
            | true =>
              have HSB := Lib.hid hs
              clear hs
              rcases y with _ | x
              · have hcy0 : w1.cell? ⟨ib, io, none⟩ = some (.int .i64 z) := hcy
                have HF : Hid (famTo t.length zs (0 + 1) = true) := Lib.hid (by rw [famTo_succ, OKY.out, famAt_is HZY.out rfl, HSB.out]; simp [hb3])
                go_wp2_with fail
                refine (isSet_any w1 ta t.length tc z hle).mono ?_
                rintro e w2 ⟨rfl, rfl⟩
                rw [HSB.out]
                go_wp2
                go_roundg (zs.length - 1)
                case measure => have := HGY.out; omega
                case rel => exact ⟨0 + 1, by omega, by go_num, HF.out, rfl⟩
              · have hcx := RA.out.int x (by omega)
                obtain ⟨u, hu⟩ : ∃ u, u = zs.getD x 0 := ⟨_, rfl⟩
                rw [← hu] at hcx
                have HU := Lib.hid hu; clear hu
                by_cases hlt : u < z
                · have HF : Hid (famTo t.length zs (x + 1 + 1) = true) := Lib.hid (by rw [famTo_succ, OKY.out, famAt_is HZY.out HU.out, HSB.out]; simp [hb3, hlt])
                  go_wp2_with fail
                  refine (isSet_any w1 ta t.length tc z hle).mono ?_
                  rintro e w2 ⟨rfl, rfl⟩
                  rw [HSB.out]
                  go_wp2
                  go_roundg (zs.length - (x + 1 + 1))
                  case measure => have := HGY.out; omega
                  case rel => exact ⟨x + 1 + 1, by omega, by go_num, HF.out, rfl⟩
                · have HF : Hid (famB t.length zs = false) := Lib.hid (famB_no (famTo_no (i := x + 1) (by rw [famAt_is HZY.out HU.out, HSB.out]; simp [hlt]) hy))
                  go_wp2_with fail
                  refine (isSet_any w1 ta t.length tc z hle).mono ?_
                  rintro e w2 ⟨rfl, rfl⟩
                  rw [HSB.out]
                  go_wp2
                  exact bodyPost_ret (v := .tuple #[.agg #[.slice none 0 0, .bool false], .int .i64 8]) (by simp [results, Tryd.results28, go_sem, cr0, cr1]) rfl (HFIN.out _ (grownBy_refl _ _) HF.out)
        · have hyl : y = zs.length := by have := HGY.out; omega
          have HFT : Hid (famTo t.length zs zs.length = true) := Lib.hid (by rw [← hyl]; exact OKY.out)
          clear hyl
          by_cases h0 : zs.length = 0
          · have HF := Lib.hid (famB_nil (n := t.length) h0)
            have e0 : ((zs.length : Int) == 0) = true := by rw [beq_iff_eq]; omega
            go_wp2
            go_quiet (fail)
            go_wp2
            exact bodyPost_ret (v := .tuple #[.agg #[.slice none 0 0, .bool false], .int .i64 8]) (by simp [results, Tryd.results28, go_sem, cr0, cr1]) rfl (HFIN.out _ (grownBy_drewN _ _ _) HF.out)
          · have e0 : ((zs.length : Int) == 0) = false := by rw [beq_eq_false_iff_ne]; omega
            obtain ⟨M, hM⟩ : ∃ M, M = maxOf t.length (natL zs) := ⟨_, rfl⟩
            obtain ⟨F, hF⟩ : ∃ F, F = famB t.length zs := ⟨_, rfl⟩
            have hfs := fam_same h0 HFT.out
            rw [← hM, ← hF] at hfs
            have HMX : Hid (∀ W, w1.grownBy W none → Calls Tryd.prog 62 #[.slice sa zs.length sc] W fun e w' => ∃ sa' sc', e = .returned (.slice sa' M.length sc') ∧ Row w'.heap.size w' (.slice sa' M.length sc') (nats M) ∧ w1.grownBy w' none) := Lib.hid (fun W hW => by
              have hr := HS.out.kept (grownBy_trans' HG1.out hW) (by simp)
              rw [ints_natL HFT.out] at hr
              refine (maxref_any B W _ (natL zs) t.length hle (by have := hW.size; omega) hr (natL_lt HFT.out)).mono ?_
              rintro e w' ⟨sa', sc', rfl, ho, hg⟩
              rw [← hM] at ho ⊢
              exact ⟨sa', sc', rfl, Row.of_owns ho, grownBy_trans' hW hg⟩)
            have HSM : Hid (∀ W sa' sc' C, w1.grownBy W none → Row C W (.slice sa' M.length sc') (nats M) → Calls Tryd.prog 67 #[.slice sa zs.length sc, .slice sa' M.length sc'] W fun e w' => e = .returned (.bool F) ∧ w1.grownBy w' none) := Lib.hid (fun W sa' sc' C hW hr => by
              rw [natsI] at hr
              refine (same40_any B C W _ _ zs (M.map fun (x : Nat) => (x : Int)) (HS.out.kept (grownBy_trans' HG1.out hW) (by simp)) hr).mono ?_
              rintro e w' ⟨rfl, m, rfl⟩
              exact ⟨by rw [hfs], grownBy_trans' hW (grownBy_drewN _ _ _)⟩)
            have HCB : Hid (∀ W, w1.grownBy W none → W.cell? ⟨w.heap.size, 0, none⟩ = some (.slice sa zs.length sc)) := Lib.hid (fun W hW => by
              have := cell_block (block_kept HC1.out hW (by simp)) 0 (by simp)
              simpa using this)
            have GA : w1.grownBy w1.drew none := grownBy_drew _ _
            have HFF := Lib.hid hF
            clear hM hF hfs
            go_wp2
            go_region_held3 (fun w' => w'.cell? ⟨w.heap.size, 0, none⟩ = some (.slice sa zs.length sc))
              (first | go_keep | exact HCB.out _ hG7 | exact HCB.out _ hG8 | fail)
              (first | (go_at_call 62; (with_reducible refine (HMX.out _ GA).mono ?_); rintro e w7 ⟨sa7, sc7, rfl, hrow7, hG7⟩) | (go_at_call 67; refine (HSM.out _ _ _ _ hG7 hrow7).mono ?_; rintro e w8 ⟨rfl, hG8⟩) | fail)
            have HD1 := Lib.hid (block_kept HC1.out hG8 (by simp)); have HD2 := Lib.hid (block_kept HC2.out hG8 (by simp))
            have HG8 := Lib.hid (grownBy_trans' HG1.out hG8)
            have hz8 := hG8.size
            have HG18 := Lib.hid hG8
            clear hrow7 hG7 hG8 GA HMX HSM HCB cb0 cb1 cr0 cr1 fr0 fr1
            have cr0 := cell_block HD2.out 0 (by simp)
            have cr1 := cell_block HD2.out 1 (by simp)
            have fr0 := frozen_block HD2.out 0
            have fr1 := frozen_block HD2.out 1
            simp only [List.getElem_toArray, List.getElem_cons_zero, List.getElem_cons_succ] at cr0 cr1
            cases F with
            | false =>
              go_wp2
              exact bodyPost_ret (v := .tuple #[.agg #[.slice none 0 0, .bool false], .int .i64 8]) (by simp [results, Tryd.results28, go_sem, cr0, cr1]) rfl (HFIN.out _ HG18.out HFF.out.symm)
            | true =>
              clear cr0 cr1 fr0 fr1 HFIN
              obtain ⟨hfam, hpos, hin⟩ := famB_max HFF.out.symm
              have HFAM := Lib.hid hfam
              have hln := natL_length zs
              have hlz : zs.length ≤ 2 ^ t.length := by rw [← hln]; have := maxOf_le t.length (natL zs); rw [hfam.2] at this; exact this
              have hp4 := pow_le hle
              obtain ⟨l0, hl0⟩ : ∃ l0, l0 = natL zs := ⟨_, rfl⟩
              have HL0 := Lib.hid hl0
              rw [← hl0] at HFAM hpos hln hin
              have HRW : Hid (∀ W, w8.grownBy W none → Row B W (.slice sa l0.length sc) (nats l0)) := Lib.hid (fun W hW => by rw [← hin, hln]; exact HS.out.kept (grownBy_trans' HG8.out hW) (by simp))
              have HCB : Hid (∀ W, w8.grownBy W none → W.cell? ⟨w.heap.size, 0, none⟩ = some (.slice sa l0.length sc) ∧ W.cell? ⟨w.heap.size, 1, none⟩ = some (.bool d)) := Lib.hid (fun W hW => by
                have q1 := cell_block (block_kept HD1.out hW (by simp)) 0 (by simp)
                have q2 := cell_block (block_kept HD1.out hW (by simp)) 1 (by simp)
                rw [hln]
                exact ⟨by simpa using q1, by simpa using q2⟩)
              rw [← hln]
              have hll : l0.length ≤ 4096 := by omega
              clear hfam hin hl0 hln hlz e0
              have cb := HCB.out w8 (grownBy_refl _ _)
              have cb0 := cb.1
              have cb1 := cb.2
              clear cb
              have cb0' : w8.drew.cell? ⟨w.heap.size, 0, none⟩ = some (.slice sa l0.length sc) := cb0
              have cb1' : w8.drew.cell? ⟨w.heap.size, 1, none⟩ = some (.bool d) := cb1
              go_upto_region 14 with fail
              go_region_held3 (fun w' => w'.cell? ⟨w.heap.size, 0, none⟩ = some (.slice sa l0.length sc) ∧ w'.cell? ⟨w.heap.size, 1, none⟩ = some (.bool d))
                (first | exact ⟨cb0', cb1'⟩ | exact HCB.out _ (grownBy_same (World.grownBy_alloc w8 _ none) rfl rfl rfl rfl) | exact HCB.out _ (grownBy_same (grown_alloc (World.grownBy_alloc w8 _ none) _) rfl rfl rfl rfl) | exact HCB.out _ hG9 | exact HCB.out _ (grown_alloc hG9 _) | exact HCB.out _ (res_grown hG9 (Nat.le_refl _) _ _) | exact HCB.out _ (res_grown hG9 (Nat.le_succ _) _ _) | exact HCB.out _ (res_grown (grown_alloc hG9 _) hG9.size _ _) | go_keep | fail)
                (first | (refine step_appR rfl (.tmp 76) (.tmp 78) 22 rfl elem_int w8.heap.size (.slice (some ⟨w8.heap.size, 0, none⟩) 0 0) 0 [] rfl ?g4 _ (nats l0) rfl ?g6 (nats_one _) l0.length ?g8 ?g9 ?g10 ?g11 ?_; (case g4 => first | exact owns_lit0 (heap_alloc_new w8 _) (Nat.le_refl _) | exact owns_lit0 (first_kept w8 _ _) (Nat.le_refl _)); (case g6 => first | exact ⟨_, HRW.out _ (grownBy_same (World.grownBy_alloc w8 _ none) rfl rfl rfl rfl)⟩ | exact ⟨_, HRW.out _ (grownBy_same (grown_alloc (World.grownBy_alloc w8 _ none) _) rfl rfl rfl rfl)⟩); (case g8 => (simp [nats] <;> omega)); (case g9 => (unfold maxLen; omega)); (case g10 => omega); (case g11 => first | omega | (simp <;> omega)); intro s9 c9 w9 hown9 hg9; rw [List.nil_append] at hown9; (have hG9 : w8.grownBy w9 none := by refine grown_far ?_ hg9 (by simp [Value.ownBlock]); first | exact grownBy_same (World.grownBy_alloc w8 _ none) rfl rfl rfl rfl | exact grownBy_same (grown_alloc (World.grownBy_alloc w8 _ none) _) rfl rfl rfl rfl); (try (have hb9 := block_kept (heap_drew (new_second w8 _ (.cells #[.slice none 0 0, .bool false] 49))) hg9 (by simp [Value.ownBlock]); have cx0 := cell_block hb9 0 (by simp); have cx1 := cell_block hb9 1 (by simp); have fx0 := frozen_block hb9 0; have fx1 := frozen_block hb9 1; simp only [List.getElem_toArray, List.getElem_cons_zero, List.getElem_cons_succ] at cx0 cx1))) | (refine step_appR rfl (.tmp 76) (.tmp 78) 22 rfl elem_int w8.heap.size (.slice (some ⟨w8.heap.size + 1, 0, none⟩) 0 0) 0 [] rfl ?g4 _ (nats l0) rfl ?g6 (nats_one _) l0.length ?g8 ?g9 ?g10 ?g11 ?_; (case g4 => exact owns_lit0 (new_second w8 _ _) (Nat.le_succ _)); (case g6 => exact ⟨_, HRW.out _ (grownBy_same (grown_alloc (World.grownBy_alloc w8 _ none) _) rfl rfl rfl rfl)⟩); (case g8 => (simp [nats] <;> omega)); (case g9 => (unfold maxLen; omega)); (case g10 => omega); (case g11 => first | omega | (simp <;> omega)); intro s9 c9 w9 hown9 hg9; rw [List.nil_append] at hown9; (have hG9 : w8.grownBy w9 none := by refine grown_far ?_ hg9 (by simp [Value.ownBlock]); exact grownBy_same (grown_alloc (World.grownBy_alloc w8 _ none) _) rfl rfl rfl rfl); (try (have hb9 := block_kept (heap_drew (first_kept w8 (.cells #[.slice none 0 0, .bool false] 49) _)) hg9 (by simp [Value.ownBlock]); have cx0 := cell_block hb9 0 (by simp); have cx1 := cell_block hb9 1 (by simp); have fx0 := frozen_block hb9 0; have fx1 := frozen_block hb9 1; simp only [List.getElem_toArray, List.getElem_cons_zero, List.getElem_cons_succ] at cx0 cx1))) | fail)
              obtain ⟨k9, rfl, hc91, hc92, harr9⟩ := owns_some hown9 hpos
              have hk9 := (hown9.lt k9 rfl).1
              have hk9' := (hown9.lt k9 rfl).2
              obtain ⟨wX, hwX⟩ : ∃ wX, wX = w9.alloc (.cells #[.slice (some ⟨k9, 0, none⟩) l0.length c9, .bool d] 49) := ⟨_, rfl⟩
              have HPX : Hid (wX.heap[w9.heap.size]? = some (.cells #[.slice (some ⟨k9, 0, none⟩) l0.length c9, .bool d] 49 (0, 0))) := Lib.hid (by rw [hwX]; exact heap_alloc_new w9 _)
              have hgX : w9.grownBy wX (some (w9.heap.size)) := by rw [hwX]; exact World.grownBy_alloc _ _ _
              have hne9 : k9 ≠ w9.heap.size := by omega
              have HHX : Hid (Held 0 0 (w9.heap.size) wX k9 c9 l0) := Lib.hid ((Held.of_owns hown9 hpos (.inr (Nat.zero_le _)) hne9).kept hgX (fun e => hne9 (Option.some.inj e).symm))
              have hpq8 : w8.heap.size ≤ w9.heap.size := hG9.size
              have HG8X : Hid (w8.grownBy wX none) := Lib.hid (grown_far hG9 hgX (fun q e => by have := Option.some.inj e; omega))
              rw [← hwX]
              obtain ⟨pb, hpb⟩ : ∃ pb, pb = w9.heap.size := ⟨_, rfl⟩
              have hpb8 : w8.heap.size ≤ pb := by rw [hpb]; exact hpq8
              rw [← hpb] at HPX HHX ⊢
              clear hpb hwX hgX hne9 harr9
              rotate_left
              obtain ⟨k9, rfl, hc91, hc92, harr9⟩ := owns_some hown9 hpos
              have hk9 := (hown9.lt k9 rfl).1
              have hk9' := (hown9.lt k9 rfl).2
              obtain ⟨wX, hwX⟩ : ∃ wX, wX = (w9.setCell ⟨w8.heap.size + 1, 0, none⟩ (.slice (some ⟨k9, 0, none⟩) l0.length c9)).setCell ⟨w8.heap.size + 1, 1, none⟩ (.bool d) := ⟨_, rfl⟩
              have HPX : Hid (wX.heap[w8.heap.size + 1]? = some (.cells #[.slice (some ⟨k9, 0, none⟩) l0.length c9, .bool d] 49 (0, 0))) := Lib.hid (by rw [hwX]; exact fam_set hb9 _ _)
              have hgX : w9.grownBy wX (some (w8.heap.size + 1)) := by rw [hwX]; exact grownBy_trans' (grownBy_setCell w9 ⟨w8.heap.size + 1, 0, none⟩ _) (grownBy_setCell (w9.setCell ⟨w8.heap.size + 1, 0, none⟩ (.slice (some ⟨k9, 0, none⟩) l0.length c9)) ⟨w8.heap.size + 1, 1, none⟩ _)
              have hne9 : k9 ≠ w8.heap.size + 1 := harr9.ne hb9 (by decide)
              have HHX : Hid (Held 0 0 (w8.heap.size + 1) wX k9 c9 l0) := Lib.hid ((Held.of_owns hown9 hpos (.inr (Nat.zero_le _)) hne9).kept hgX (fun e => hne9 (Option.some.inj e).symm))
              have hpq8 : w8.heap.size ≤ w8.heap.size + 1 := Nat.le_succ _
              have HG8X : Hid (w8.grownBy wX none) := Lib.hid (grown_far hG9 hgX (fun q e => by have := Option.some.inj e; omega))
              rw [← hwX]
              obtain ⟨pb, hpb⟩ : ∃ pb, pb = w8.heap.size + 1 := ⟨_, rfl⟩
              have hpb8 : w8.heap.size ≤ pb := by rw [hpb]; exact hpq8
              rw [← hpb] at HPX HHX ⊢
              clear hpb hwX hgX hne9 harr9
              rotate_left
              obtain ⟨k9, rfl, hc91, hc92, harr9⟩ := owns_some hown9 hpos
              have hk9 := (hown9.lt k9 rfl).1
              have hk9' := (hown9.lt k9 rfl).2
              obtain ⟨wX, hwX⟩ : ∃ wX, wX = (w9.setCell ⟨w8.heap.size, 0, none⟩ (.slice (some ⟨k9, 0, none⟩) l0.length c9)).setCell ⟨w8.heap.size, 1, none⟩ (.bool d) := ⟨_, rfl⟩
              have HPX : Hid (wX.heap[w8.heap.size]? = some (.cells #[.slice (some ⟨k9, 0, none⟩) l0.length c9, .bool d] 49 (0, 0))) := Lib.hid (by rw [hwX]; exact fam_set hb9 _ _)
              have hgX : w9.grownBy wX (some (w8.heap.size)) := by rw [hwX]; exact grownBy_trans' (grownBy_setCell w9 ⟨w8.heap.size, 0, none⟩ _) (grownBy_setCell (w9.setCell ⟨w8.heap.size, 0, none⟩ (.slice (some ⟨k9, 0, none⟩) l0.length c9)) ⟨w8.heap.size, 1, none⟩ _)
              have hne9 : k9 ≠ w8.heap.size := harr9.ne hb9 (by decide)
              have HHX : Hid (Held 0 0 (w8.heap.size) wX k9 c9 l0) := Lib.hid ((Held.of_owns hown9 hpos (.inr (Nat.zero_le _)) hne9).kept hgX (fun e => hne9 (Option.some.inj e).symm))
              have hpq8 : w8.heap.size ≤ w8.heap.size := Nat.le_refl _
              have HG8X : Hid (w8.grownBy wX none) := Lib.hid (grown_far hG9 hgX (fun q e => by have := Option.some.inj e; omega))
              rw [← hwX]
              obtain ⟨pb, hpb⟩ : ∃ pb, pb = w8.heap.size := ⟨_, rfl⟩
              have hpb8 : w8.heap.size ≤ pb := by rw [hpb]; exact hpq8
              rw [← hpb] at HPX HHX ⊢
              clear hpb hwX hgX hne9 harr9
              rotate_left
              all_goals
                (try clear hb9 cx0 cx1 fx0 fx1)
                clear hown9 hg9 hG9 cb0 cb1 cb0' cb1'
                have HPR := Lib.hid (block_kept HD2.out HG8X.out (by simp))
                have HGX := Lib.hid (grownBy_trans' HG8.out HG8X.out)
                have HAX : Hid (Adv t.length (entN t) (l0, d) 0 l0 d) := Lib.hid ⟨HFAM.out, rfl⟩
                have HTB' := HTB
                go_wp2
                go_loopg [14] bud.toNat (fun gh i wr => ∃ (k kk sk : Nat) (l : List Nat) (dd : Bool), gh + k = bud.toNat ∧ i = .int .i64 k ∧ Adv t.length (entN t) (l0, d) k l dd ∧ 0 < l.length ∧ w8.heap.size ≤ kk ∧ Held 0 0 pb wr kk sk l ∧ w.grownBy wr none ∧ wr.heap[pb]? = some (.cells #[.slice (some ⟨kk, 0, none⟩) l.length sk, .bool dd] 49 (0, 0)) ∧ wr.heap[w.heap.size + 1]? = some (.cells #[.slice none 0 0, .bool false] 49 (0, 0)))
                case atStart => exact ⟨0, k9, c9, l0, d, rfl, rfl, HAX.out, hpos, hk9, HHX.out, HGX.out, HPX.out, HPR.out⟩
                case round =>
                  clear HAX HHX HGX HPX HPR
                  obtain ⟨k, kk, sk, l, dd, hg, rfl, hadv, hpl, hkk, hhe, hgr, hp1, hp2⟩ := hrel
                  have HG := Lib.hid hg; have HAD := Lib.hid hadv; have HHE := Lib.hid hhe; have HGR := Lib.hid hgr; have HP1 := Lib.hid hp1; have HP2 := Lib.hid hp2
                  have cb0 := cell_block hp1 0 (by simp)
                  have cb1 := cell_block hp1 1 (by simp)
                  have fb0 := frozen_block hp1 0
                  have fb1 := frozen_block hp1 1
                  have cr0 := cell_block hp2 0 (by simp)
                  have cr1 := cell_block hp2 1 (by simp)
                  have fr0 := frozen_block hp2 0
                  have fr1 := frozen_block hp2 1
                  simp only [List.getElem_toArray, List.getElem_cons_zero, List.getElem_cons_succ] at cb0 cb1 cr0 cr1
                  have hpbl := lt_of_block hp1
                  clear hg hadv hhe hgr hp1 hp2
                  have hfin : (advL t zs d bud) = (l, dd) → AdvOk w t im zs d bud (.returned (.tuple #[.agg #[.slice (some ⟨kk, 0, none⟩) l.length sk, .bool dd], .int .i64 0])) ((wr.setCell ⟨w.heap.size + 1, 0, none⟩ (.slice (some ⟨kk, 0, none⟩) l.length sk)).setCell ⟨w.heap.size + 1, 1, none⟩ (.bool dd)) := by
                    intro he
                    have hE := advE_ok (im := im) HZ.out HBU.out HFF.out.symm
                    refine ⟨res_grown HGR.out (by omega) _ _, .inr ⟨hE, _, by rw [he], ?_⟩⟩
                    rw [he]
                    have hss : wr.grownBy ((wr.setCell ⟨w.heap.size + 1, 0, none⟩ (.slice (some ⟨kk, 0, none⟩) l.length sk)).setCell ⟨w.heap.size + 1, 1, none⟩ (.bool dd)) (some (w.heap.size + 1)) := grownBy_trans' (grownBy_setCell wr ⟨w.heap.size + 1, 0, none⟩ _) (grownBy_setCell (wr.setCell ⟨w.heap.size + 1, 0, none⟩ (.slice (some ⟨kk, 0, none⟩) l.length sk)) ⟨w.heap.size + 1, 1, none⟩ _)
                    exact (HHE.out.kept hss (fun e => by have : w.heap.size + 1 = kk := Option.some.inj e; omega)).rowO.row
                  have HFIN := Lib.hid hfin
                  clear hfin
                  by_cases hk : (k : Int) < bud
                  · cases dd with
                    | true =>
                      have HX : Hid (advL t zs d bud = (l, true)) := Lib.hid (by unfold advL; rw [← HL0.out]; exact HAD.out.stop (by omega))
                      go_wp2
                      exact bodyPost_ret (v := .tuple #[.agg #[.slice (some ⟨kk, 0, none⟩) l.length sk, .bool true], .int .i64 0]) (by simp [results, Tryd.results28, go_sem, cr0, cr1]) rfl (HFIN.out HX.out)
                    | false =>
                      clear HFIN
                      have hRR := rround_any wr.heap.size wr _ (.slice (some ⟨kk, 0, none⟩) l.length sk) t l (Nat.le_refl _) ((H.out.kept HGR.out (by simp)).mono (by have := HGR.out.size; omega)) HVA.out hle HHE.out.rowO.row HAD.out.1.1 hpl (by have := HAD.out.le; omega)
                      have HRR := Lib.hid hRR
                      clear hRR
                      go_wp2_with fail
                      refine HRR.out.mono ?_
                      rintro e w6 ⟨sa6, sc6, rfl, hown6, hg6⟩
                      have hpos6 := round_ne HTB.out HAD.out.1.1 hpl
                      obtain ⟨k6, rfl, hc1, hc2, _⟩ := owns_some hown6 hpos6
                      have hk6 := hown6.lt k6 rfl
                      have hz68 : w8.heap.size ≤ k6 := by have := HGR.out.size; have := HHE.out.row.1; omega
                      have HGN := Lib.hid (HAD.out.step HTB.out)
                      have HH6 : Hid (Held 0 0 pb w6 k6 sc6 (roundSets t.length (entN t) l)) := Lib.hid (Held.of_owns hown6 hpos6 (.inr (Nat.zero_le _)) (by omega))
                      have HSA := Lib.hid (same40_any w6.heap.size w6.heap.size w6 _ _ ((roundSets t.length (entN t) l).map fun (x : Nat) => (x : Int)) (l.map fun (x : Nat) => (x : Int)) (by have := HH6.out.rowO.row; rw [natsI] at this; exact this) (by have := (HHE.out.kept hg6 (by simp)).rowO.row; rw [natsI] at this; exact this))
                      rw [cast_dec] at HSA
                      obtain ⟨R, hR⟩ : ∃ R, R = roundSets t.length (entN t) l := ⟨_, rfl⟩
                      obtain ⟨D, hD⟩ : ∃ D, D = decide (roundSets t.length (entN t) l = l) := ⟨_, rfl⟩
                      rw [← hD, ← hR] at HGN
                      rw [← hD] at HSA
                      rw [← hR] at hown6 hpos6 hc1 HH6 HSA ⊢
                      have hr6 := block_kept HP1.out hg6 (by simp)
                      have HR6 := Lib.hid hr6
                      have HQ6 := Lib.hid (block_kept HP2.out hg6 (by simp))
                      have cb0' := cell_block hr6 0 (by simp)
                      have cb1' := cell_block hr6 1 (by simp)
                      have fb0' := frozen_block hr6 0
                      have fb1' := frozen_block hr6 1
                      simp only [List.getElem_toArray, List.getElem_cons_zero, List.getElem_cons_succ] at cb0' cb1'
                      have HG6 : Hid (w.grownBy w6 none) := Lib.hid (grownBy_trans' HGR.out hg6)
                      clear hown6 hg6 hr6 hR hD cb0 cb1 fb0 fb1 cr0 cr1 fr0 fr1
                      go_wp2_with fail
                      refine HSA.out.mono ?_
                      rintro e w7 ⟨rfl, m, rfl⟩
                      go_wp2
                      have hs7 : w6.grownBy (((w6.drewN m).setCell ⟨pb, 1, none⟩ (.bool D)).setCell ⟨pb, 0, none⟩ (.slice (some ⟨k6, 0, none⟩) R.length sc6)) (some pb) :=
                        grownBy_trans' (grownBy_trans' (grownBy_drewN w6 m _) (grownBy_setCell (w6.drewN m) ⟨pb, 1, none⟩ _)) (grownBy_setCell ((w6.drewN m).setCell ⟨pb, 1, none⟩ (.bool D)) ⟨pb, 0, none⟩ _)
                      have HR7 := Lib.hid (fam_set' (w := w6.drewN m) HR6.out (.slice (some ⟨k6, 0, none⟩) R.length sc6) (.bool D))
                      have HG7 := Lib.hid hs7
                      clear hs7
                      go_roundg (bud.toNat - (k + 1))
                      case measure => have := HG.out; omega
                      case rel => exact ⟨k + 1, k6, sc6, R, D, by omega, by go_num, HGN.out, hpos6, hz68, HH6.out.kept HG7.out (fun e => by have : pb = k6 := Option.some.inj e; have := HH6.out.nb; omega), grown_far HG6.out HG7.out (fun x e => by have : pb = x := Option.some.inj e; omega), HR7.out, block_kept HQ6.out HG7.out (fun e => by have : pb = w.heap.size + 1 := Option.some.inj e; omega)⟩
                  · have HX : Hid (advL t zs d bud = (l, dd)) := Lib.hid (by unfold advL; rw [← HL0.out]; rw [show bud.toNat = k by have := HG.out; omega]; exact HAD.out.2)
                    go_wp2
                    exact bodyPost_ret (v := .tuple #[.agg #[.slice (some ⟨kk, 0, none⟩) l.length sk, .bool dd], .int .i64 0]) (by simp [results, Tryd.results28, go_sem, cr0, cr1]) rfl (HFIN.out HX.out)
  · have HE := Lib.hid (advE_check (zs := zs) (bud := bud) hz)
    obtain ⟨E, hE⟩ : ∃ E, E = checkE t im := ⟨_, rfl⟩
    rw [← hE] at hz HE ⊢
    have e1 : (E != 0) = true := by rw [bne_iff_ne]; exact hz
    clear hE
    go_wp2
    exact bodyPost_ret (v := .tuple #[.agg #[.slice none 0 0, .bool false], .int .i64 E]) (by simp [results, Tryd.results28, go_sem, cr0, cr1]) rfl ⟨res_grown HG1.out (by omega) _ _, .inl (by rw [HE.out]; exact ⟨hz, rfl⟩)⟩
end Go.Proofs.YtdjhoadoiknaoaaDoor
