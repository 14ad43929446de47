/- Part 45 of the proof: PClosed. -/
import Derived.Test.YtdjhoadoiknaoaaDoorZw44
set_option linter.unusedVariables false
set_option linter.unusedSimpArgs false
namespace Go.Proofs.YtdjhoadoiknaoaaDoor
open Go.RowKit
set_option maxRecDepth 100000 in
set_option maxHeartbeats 1000000 in
theorem pcclosed_any (B : Nat) (w : World) (v iv sv : Value) (t : List (List Int)) (im zs : List Int) (hB : B ≤ w.heap.size) (h : Mat B w v t) (hi : Row B w iv (ints im)) (hs : Row B w sv (ints zs)) (hT : TabOk w) :
    Calls Tryd.prog 39 #[v, iv, sv] w fun e w' => e = .returned (.bool (clB t im zs)) ∧ w.grownBy w' none := by
  have hzl := hs.len_le
  rw [ints_length] at hzl
  unfold maxLen at hzl
  have HCH := Lib.hid (check_any B w v iv t im hB h hi)
  have H := Lib.hid h; have HI := Lib.hid hi; have HS := Lib.hid hs; have HT := Lib.hid hT
  obtain ⟨ta, tc, rfl⟩ := h.shape
  obtain ⟨ia, ic, rfl⟩ := hi.shape
  obtain ⟨sa, sc, rfl⟩ := hs.shape
  rw [ints_length] at HCH HI HS ⊢
  rw [ints_length]
  clear h hi hs hT
  go_enter Tryd.func39, Tryd.ntmps39
  go_wp2_with fail
  refine HCH.out.mono ?_
  rintro e wk ⟨rfl, hg1⟩
  have HG1 := Lib.hid hg1
  clear hg1 HCH
  by_cases hz : checkE t im ≠ 0
  · have HD := Lib.hid (clB_check (zs := zs) hz)
    obtain ⟨E, hE⟩ : ∃ E, E = checkE t im := ⟨_, rfl⟩
    rw [← hE] at hz ⊢
    have e1 : (E != 0) = true := by rw [bne_iff_ne]; exact hz
    clear hE hz
    go_wp2
    go_ret
    exact ⟨ret_bool HD.out.symm, HG1.out⟩
  replace hz : checkE t im = 0 := by omega
  rw [hz]
  have hgd := checkE_good.1 hz
  have hle := hgd.le
  have HZ := Lib.hid hz; have HGD := Lib.hid hgd; have HTB := Lib.hid (tb_of hgd.valid); have HVA := Lib.hid hgd.valid
  clear hz hgd
  have HK := Lib.hid (H.out.kept HG1.out (by simp)); have HIK := Lib.hid (HI.out.kept HG1.out (by simp)); have HSK := Lib.hid (HS.out.kept HG1.out (by simp)); have HTK := Lib.hid (HT.out.kept HG1.out (by simp))
  have hwz : w.heap.size ≤ wk.heap.size := HG1.out.size
  go_wp2_with fail
  go_loopg [24] zs.length (fun gh i wr => wk = wr ∧ ∃ k : Nat, gh + k = zs.length ∧ i = .int .i64 (k : Int) ∧ Hid (∀ j, j < k → setB t.length (zs.getD j 0) = true))
  case atStart => exact ⟨rfl, 0, rfl, rfl, Lib.hid (fun j hj => absurd hj (by omega))⟩
  case round =>
    obtain ⟨rfl, k, hgh, rfl, HP⟩ := hrel
    have HGH := Lib.hid hgh
    clear hgh
    by_cases hk : k < zs.length
    · have hk' : (k : Int) < zs.length := by omega
      obtain ⟨kb, off, cap, ek, hkB, hk1, hk2, hkr⟩ := HSK.out.some_ (by rw [ints_length]; omega)
      rw [ints_length] at ek
      simp only [Value.slice.injEq] at ek
      obtain ⟨rfl, _, rfl⟩ := ek
      have hc := hkr.int k hk
      obtain ⟨z, hz⟩ : ∃ z, z = zs.getD k 0 := ⟨_, rfl⟩
      rw [← hz] at hc
      have HZK := Lib.hid hz
      clear hz hkr
      go_wp2_with fail
      refine (validSet_any' _ ta t.length tc z hle).mono ?_
      rintro e wq ⟨rfl, rfl⟩
      cases hb : setB t.length z with
      | false =>
        have HD : Hid (clB t im zs = false) := Lib.hid (clB_set hk (by rw [← HZK.out]; exact hb))
        clear hb
        go_wp2
        go_ret
        exact ⟨ret_bool HD.out.symm, HG1.out⟩
      | true =>
        have HP2 : Hid (∀ j, j < k + 1 → setB t.length (zs.getD j 0) = true) := Lib.hid (fun j hj => by
          rcases Nat.lt_succ_iff_lt_or_eq.1 hj with hj | rfl
          · exact HP.out j hj
          · rw [← HZK.out]; exact hb)
        clear hb
        go_wp2
        go_roundg (zs.length - (k + 1))
        case measure => have := HGH.out; omega
        case rel => exact ⟨rfl, k + 1, by omega, by go_num, HP2⟩
    · have HE : Hid (k = zs.length) := Lib.hid (by have := HGH.out; omega)
      have hk' : ¬ (k : Int) < zs.length := by omega
      have hall : ∀ j, j < zs.length → setB t.length (zs.getD j 0) = true := by rw [← HE.out]; exact HP.out
      obtain ⟨hnz, hlt⟩ := sets_nat hall
      have HCL := Lib.hid (clB_eq HZ.out hall)
      obtain ⟨l, hl⟩ : ∃ l, l = natL zs := ⟨_, rfl⟩
      have hll : l.length = zs.length := by rw [hl]; simp [natL]
      rw [← hl] at hnz hlt HCL
      have HNI : Hid (ints zs = ints (intL l)) := Lib.hid (by rw [hnz, ints_intL])
      rw [HNI.out] at HSK
      have HLT := Lib.hid hlt; have HLL := Lib.hid hll
      clear hnz hlt hl hll hall HP
      have hlz : l.length ≤ 9223372036854775807 := by have := HLL.out; omega
      have HN := Lib.hid (newSets_any B wk _ t (by omega) HK.out HVA.out hle HTK.out)
      go_wp2_with fail
      refine HN.out.mono ?_
      rintro e w2 ⟨p, go, rfl, hs2, hg2⟩
      have hgo := hs2.go_lt'
      have HS2 := Lib.hid hs2; have HG2 := Lib.hid (grown_far HG1.out hg2 (by simp))
      have hfc := hg2.size
      have HM2 := Lib.hid (HK.out.kept hg2 (by simp)); have HR2 := Lib.hid (HSK.out.kept hg2 (by simp)); have HI2 := Lib.hid (HIK.out.kept hg2 (by simp)); have HT2 := Lib.hid (HTK.out.kept hg2 (by simp))
      rw [ints_intL] at HR2
      have HIS := Lib.hid (inside_any wk.heap.size w2.heap.size w2 p go t.length (entN t) _ B l hs2 hle HR2.out HLT.out (by omega))
      obtain ⟨N, hN⟩ : ∃ N, N = 2 ^ t.length := ⟨_, rfl⟩
      have hN4 : N ≤ 4096 := by have := pow_le hle; omega
      rw [← hN] at HIS
      have HNN := Lib.hid hN
      clear hs2 hg2 HN hN
      go_wp2_with fail
      refine HIS.out.mono ?_
      rintro e w3 ⟨rfl, harr, hg3⟩
      obtain ⟨ib, hib⟩ : ∃ ib, ib = w2.heap.size := ⟨_, rfl⟩
      rw [← hib] at harr ⊢
      have HA3 := Lib.hid harr; have HG3 := Lib.hid (grown_far HG2.out hg3 (by simp)); have HS3 := Lib.hid (HS2.out.kept hg3 (by simp)); have HT3 := Lib.hid (HT2.out.kept hg3 (by simp)); have HR3 := Lib.hid (HR2.out.kept hg3 (by simp))
      have hgoi : go < ib := by omega
      have hcib : w2.heap.size ≤ ib := by omega
      have HBG := Lib.hid (generators_any B w3 _ _ t im (by have := hg3.size; omega) (HM2.out.kept hg3 (by simp)) (HI2.out.kept hg3 (by simp)) HGD.out)
      have hz3 := hg3.size
      clear harr hg3 hib HIS
      go_wp2_with fail
      refine HBG.out.mono ?_
      rintro e w4 ⟨ga, gc, rfl, hown, hg4⟩
      have HG4 := Lib.hid (grown_far HG3.out hg4 (by simp)); have HS4 := Lib.hid (HS3.out.kept hg4 (by simp)); have HT4 := Lib.hid (HT3.out.kept hg4 (by simp)); have HR4 := Lib.hid (HR3.out.kept hg4 (by simp)); have HA4 := Lib.hid (HA3.out.kept hg4 (by simp))
      have HGR := Lib.hid (Row.of_owns hown)
      have hz4 := hg4.size
      have hgl : (genL t im).length = im.length + 1 := genL_length t im
      have h6 := HGD.out.im6
      obtain ⟨gl, hglE⟩ : ∃ gl, gl = genL t im := ⟨_, rfl⟩
      rw [← hglE] at hgl HGR ⊢
      have hgl7 : gl.length ≤ 7 := by omega
      have hgl1 : 1 ≤ gl.length := by omega
      have HGL := Lib.hid hglE
      clear hown hg4 hglE hgl HBG
      go_wp2_with fail
      go_loopg [42] gl.length (fun gh i wr => w4 = wr ∧ ∃ k : Nat, gh + k = gl.length ∧ i = .int .i64 (k : Int) ∧ Hid (∀ j, j < k → under l (gl.getD j 0) = true))
      case atStart => exact ⟨rfl, 0, rfl, rfl, Lib.hid (fun j hj => absurd hj (by omega))⟩
      case round =>
        obtain ⟨rfl, k, hgh, rfl, HP⟩ := hrel
        have HGH2 := Lib.hid hgh
        clear hgh
        by_cases hk : k < gl.length
        · have hk' : (k : Int) < gl.length := by omega
          obtain ⟨kb, off, cap, ek, hkB, hk1, hk2, hkr⟩ := HGR.out.some_ (by rw [nats_length]; omega)
          rw [nats_length] at ek
          simp only [Value.slice.injEq] at ek
          obtain ⟨rfl, _, rfl⟩ := ek
          have hc := hkr.nat k hk
          obtain ⟨x, hx⟩ : ∃ x, x = gl.getD k 0 := ⟨_, rfl⟩
          rw [← hx] at hc
          have hxm : x ∈ gl := by rw [hx]; exact getD_memN hk
          have HXM := Lib.hid hxm; have HXK := Lib.hid hx
          have hxl : x < N := by rw [HNN.out]; exact genL_lt HGD.out x (by rw [← HGL.out]; exact hxm)
          have hxl' : (x : Int) < N := by omega
          have hca := HA4.out.bool x (by rw [underAll_length]; exact hxl)
          rw [underAll_get hxl] at hca
          clear hx hkr hxm
          cases hb : under l x with
          | false =>
            rw [hb] at hca
            have HD : Hid (clB t im zs = false) := Lib.hid (by rw [HCL.out]; exact clN_gen (by rw [← HGL.out]; exact HXM.out) hb)
            clear hb
            go_wp2
            go_ret
            exact ⟨ret_bool HD.out.symm, HG4.out⟩
          | true =>
            rw [hb] at hca
            have HP2 : Hid (∀ j, j < k + 1 → under l (gl.getD j 0) = true) := Lib.hid (fun j hj => by
              rcases Nat.lt_succ_iff_lt_or_eq.1 hj with hj | rfl
              · exact HP.out j hj
              · rw [← HXK.out]; exact hb)
            clear hb
            go_wp2
            go_roundg (gl.length - (k + 1))
            case measure => have := HGH2.out; omega
            case rel => exact ⟨rfl, k + 1, by omega, by go_num, HP2⟩
        · have hk' : ¬ (k : Int) < gl.length := by omega
          have HGA : Hid (∀ s ∈ genL t im, under l s = true) := Lib.hid (fun s hs => by
            rw [← HGL.out] at hs
            obtain ⟨i, hi, rfl⟩ := List.getElem_of_mem hs
            have := HP.out i (by omega)
            rwa [getD_eq hi] at this)
          have HMX := Lib.hid (maximal_any wk.heap.size w2.heap.size w4 p go t.length (entN t) _ B l HS4.out hle HR4.out HLT.out (by omega))
          clear HP
          go_wp2_with fail
          refine HMX.out.mono ?_
          rintro e wm ⟨ma, mc, rfl, hown, hgm⟩
          have hmpos : 0 < (maxOf t.length l).length := by
            have h0 : gl.getD 0 0 ∈ genL t im := by rw [← HGL.out]; exact getD_memN hgl1
            obtain ⟨b, hb, _⟩ := under_iff.1 (HGA.out _ h0)
            obtain ⟨c, hc, _⟩ := exists_max HLT.out _ b (Nat.le_refl _) hb
            exact List.length_pos_of_mem hc
          have hml : (maxOf t.length l).length ≤ N := by rw [HNN.out]; exact maxOf_le _ _
          have HMI : Hid (∀ a ∈ maxOf t.length l, a ∈ l) := Lib.hid (fun a ha => maxOf_sub HLT.out ha)
          obtain ⟨M, hM⟩ : ∃ M, M = maxOf t.length l := ⟨_, rfl⟩
          rw [← hM] at hown hmpos hml HMI ⊢
          have HMM := Lib.hid hM
          obtain ⟨mk, rfl, hm1, hm2, hma⟩ := owns_some hown hmpos
          have hmk := (hown.lt mk rfl).1
          have hcm : mc ≤ 9223372036854775807 := by unfold maxLen at hm2; omega
          have HGM := Lib.hid (grown_far HG4.out hgm (by simp)); have HSM := Lib.hid (HS4.out.kept hgm (by simp)); have HTM := Lib.hid (HT4.out.kept hgm (by simp)); have HAM := Lib.hid (HA4.out.kept hgm (by simp)); have HMA := Lib.hid hma
          have hzm := hgm.size
          have hgomk : go ≠ mk := by omega
          have hgoib : go ≠ ib := by omega
          have hwgo : w.heap.size ≤ go := by omega
          have htgo := HT.out.1
          clear hown hgm hma hM hm2 HMX
          go_wp2_with fail
          go_loopg [57] M.length (fun gh i wr => ∃ k : Nat, gh + k = M.length ∧ i = .int .i64 (k : Int) ∧ Hid (SetsOk wk.heap.size w2.heap.size wr p go t.length (entN t)) ∧ Hid (wm.grownBy wr (some go)) ∧ Hid (∀ i, i < k → (∀ j, j < M.length → under l (prodSet t.length (entN t) (M.getD i 0) (M.getD j 0)) = true) ∧ under l (omegaSet t.length (entN t) (M.getD i 0)) = true))
          case atStart => exact ⟨0, rfl, rfl, HSM, Lib.hid (grownBy_refl _ _), Lib.hid (fun j hj => absurd hj (by omega))⟩
          case round =>
            clear HSM
            obtain ⟨k, hgh, rfl, HSR, HGR2, HP⟩ := hrel
            have HGH3 := Lib.hid hgh
            clear hgh
            have HGW := Lib.hid (grown_far HGM.out HGR2.out (fun q e => by have e : go = q := Option.some.inj e; omega))
            by_cases hk : k < M.length
            · have hk' : (k : Int) < M.length := by omega
              have hc := (HMA.out.kept HGR2.out (fun e => hgomk (Option.some.inj e))).nat k hk
              obtain ⟨a, ha⟩ : ∃ a, a = M.getD k 0 := ⟨_, rfl⟩
              rw [← ha] at hc
              have ham : a ∈ M := by rw [ha]; exact getD_memN hk
              have HAM2 := Lib.hid (HMI.out a ham); have HAK := Lib.hid ha; have HAL := Lib.hid (HLT.out a (HMI.out a ham))
              clear ha ham
              obtain ⟨wz, rfl⟩ : ∃ wz : World, wz = wr := ⟨_, rfl⟩
              go_wp2_with fail
              clear hc
              go_loopg [63] M.length (fun gh i wr => ∃ j : Nat, gh + j = M.length ∧ i = .int .i64 (j : Int) ∧ Hid (SetsOk wk.heap.size w2.heap.size wr p go t.length (entN t)) ∧ Hid (wm.grownBy wr (some go)) ∧ Hid (∀ i, i < j → under l (prodSet t.length (entN t) a (M.getD i 0)) = true))
              case atStart => exact ⟨0, rfl, rfl, HSR, HGR2, Lib.hid (fun j hj => absurd hj (by omega))⟩
              case round =>
                clear HSR HGR2 HGW
                obtain ⟨j, hgj, rfl, HSR, HGR2, HQ⟩ := hrel
                have HGJ := Lib.hid hgj
                clear hgj
                have HGW := Lib.hid (grown_far HGM.out HGR2.out (fun q e => by have e : go = q := Option.some.inj e; omega))
                have HTR := Lib.hid (HT.out.kept HGW.out (by simp))
                by_cases hj : j < M.length
                · have hj' : (j : Int) < M.length := by omega
                  have hcj := (HMA.out.kept HGR2.out (fun e => hgomk (Option.some.inj e))).nat j hj
                  obtain ⟨b, hb⟩ : ∃ b, b = M.getD j 0 := ⟨_, rfl⟩
                  rw [← hb] at hcj
                  have hbm : b ∈ M := by rw [hb]; exact getD_memN hj
                  have HBL := Lib.hid (HLT.out b (HMI.out b hbm)); have HBM := Lib.hid (HMI.out b hbm); have HBJ := Lib.hid hb
                  clear hb hbm
                  go_wp2_with fail
                  refine (product_any wk.heap.size w2.heap.size wr p go t.length (entN t) a b HSR.out HTB.out.lt hle HAL.out HBL.out HTR.out).mono ?_
                  rintro e wq ⟨rfl, mq, rfl⟩
                  obtain ⟨P, hP⟩ : ∃ P, P = prodSet t.length (entN t) a b := ⟨_, rfl⟩
                  have hPN : P < N := by rw [hP, HNN.out]; exact prodSet_lt HTB.out.lt a b
                  have hPN' : (P : Int) < N := by omega
                  rw [← hP]
                  have HPE := Lib.hid hP
                  clear hP
                  have hgq := grownBy_drewN wr mq none
                  have hca := ((HAM.out.kept HGR2.out (fun e => hgoib (Option.some.inj e))).kept hgq (by simp)).bool P (by rw [underAll_length]; exact hPN)
                  rw [underAll_get hPN] at hca
                  have HSQ := Lib.hid (HSR.out.kept hgq (by simp)); have HGQ := Lib.hid (grownBy_trans' HGR2.out (grownBy_drewN wr mq (some go))); have HGWQ := Lib.hid (grown_far HGW.out hgq (by simp))
                  clear hgq hcj
                  cases hu : under l P with
                  | false =>
                    rw [hu] at hca
                    have HD : Hid (clB t im zs = false) := Lib.hid (by rw [HCL.out]; exact clN_prod HAM2.out HBM.out (by rw [← HPE.out]; exact hu))
                    clear hu
                    go_wp2
                    go_ret
                    exact ⟨ret_bool HD.out.symm, HGWQ.out⟩
                  | true =>
                    rw [hu] at hca
                    have HQ2 : Hid (∀ i, i < j + 1 → under l (prodSet t.length (entN t) a (M.getD i 0)) = true) := Lib.hid (fun i hi => by
                      rcases Nat.lt_succ_iff_lt_or_eq.1 hi with hi | rfl
                      · exact HQ.out i hi
                      · rw [← HBJ.out, ← HPE.out]; exact hu)
                    clear hu
                    go_wp2
                    go_roundg (M.length - (j + 1))
                    case measure => have := HGJ.out; omega
                    case rel => exact ⟨j + 1, by omega, by go_num, HSQ, HGQ, HQ2⟩
                · have hj' : ¬ (j : Int) < M.length := by omega
                  have HQA : Hid (∀ i, i < M.length → under l (prodSet t.length (entN t) a (M.getD i 0)) = true) := Lib.hid (fun i hi => HQ.out i (by omega))
                  clear HQ
                  go_wp2_with fail
                  refine (omega_any wk.heap.size w2.heap.size wr p go t.length (entN t) a HSR.out HTB.out hle HAL.out HTR.out).mono ?_
                  rintro e wq ⟨rfl, hsq, hgq⟩
                  obtain ⟨P, hP⟩ : ∃ P, P = omegaSet t.length (entN t) a := ⟨_, rfl⟩
                  have hPN : P < N := by rw [hP, HNN.out]; exact omegaSet_lt HTB.out HAL.out
                  have hPN' : (P : Int) < N := by omega
                  rw [← hP]
                  have HPE := Lib.hid hP
                  have HGQ := Lib.hid (grownBy_trans' HGR2.out hgq)
                  have hca := (HAM.out.kept HGQ.out (fun e => hgoib (Option.some.inj e))).bool P (by rw [underAll_length]; exact hPN)
                  rw [underAll_get hPN] at hca
                  have HSQ := Lib.hid hsq; have HGWQ := Lib.hid (grown_far HGW.out hgq (fun q e => by have e : go = q := Option.some.inj e; omega))
                  clear hsq hgq hP
                  cases hu : under l P with
                  | false =>
                    rw [hu] at hca
                    have HD : Hid (clB t im zs = false) := Lib.hid (by rw [HCL.out]; exact clN_om HAM2.out (by rw [← HPE.out]; exact hu))
                    clear hu
                    go_wp2
                    go_ret
                    exact ⟨ret_bool HD.out.symm, HGWQ.out⟩
                  | true =>
                    rw [hu] at hca
                    have HP2 : Hid (∀ i, i < k + 1 → (∀ j, j < M.length → under l (prodSet t.length (entN t) (M.getD i 0) (M.getD j 0)) = true) ∧ under l (omegaSet t.length (entN t) (M.getD i 0)) = true) := Lib.hid (fun i hi => by
                      rcases Nat.lt_succ_iff_lt_or_eq.1 hi with hi | rfl
                      · exact HP.out i hi
                      · rw [← HAK.out]; exact ⟨HQA.out, by rw [← HPE.out]; exact hu⟩)
                    clear hu
                    go_wp2
                    go_roundg (M.length - (k + 1))
                    case measure => have := HGH3.out; omega
                    case rel => exact ⟨k + 1, by omega, by go_num, HSQ, HGQ, HP2⟩
            · have hk' : ¬ (k : Int) < M.length := by omega
              have HD : Hid (clB t im zs = true) := Lib.hid (by
                rw [HCL.out]
                have key : ∀ a ∈ M, ∃ i, i < M.length ∧ M.getD i 0 = a := fun a ha => by
                  obtain ⟨i, hi, rfl⟩ := List.getElem_of_mem ha
                  exact ⟨i, hi, getD_eq hi⟩
                refine clN_max HTB.out HLT.out HGA.out (fun a ha b hb => ?_) (fun a ha => ?_)
                · rw [← HMM.out] at ha hb
                  obtain ⟨i, hi, rfl⟩ := key a ha
                  obtain ⟨j, hj, rfl⟩ := key b hb
                  exact (HP.out i (by omega)).1 j hj
                · rw [← HMM.out] at ha
                  obtain ⟨i, hi, rfl⟩ := key a ha
                  exact (HP.out i (by omega)).2)
              go_wp2
              go_ret
              exact ⟨ret_bool HD.out.symm, HGW.out⟩
end Go.Proofs.YtdjhoadoiknaoaaDoor
