/- Part 46 of the proof: StillG, RCheckD, Law40W, OpenArg, Laid40. -/
import Derived.Test.YtdjhoadoiknaoaaDoorZw45
import Derived.StillTailTactics
import Derived.Deep.Matrix
import Derived.Test.YtdjhoadoiknaoaaDoorRows
import Derived.LaidMore
import Derived.Lib.LaidTab
import Derived.Stop.Joined
set_option linter.unusedVariables false
set_option linter.unusedSimpArgs false
namespace Go.Proofs.YtdjhoadoiknaoaaDoor
structure StillG (P : Program) (ops : Array Oper) (w : World) (Q : Act → Prop) (l : List Oper) (a : Act) : Prop where
  h : wpStill P ops w Q l a
section
variable {P : Program} {ops : Array Oper} {w : World} {Q : Act → Prop} {a : Act} {o : Oper} {rest : List Oper}
theorem g_nil (h : Q a) : StillG P ops w Q [] a := ⟨wpStill_nil h⟩
theorem g_yes (hw : Region.wanted o (yielded ops a.tmps) = true) (h : ∀ K : Act → Prop, (∀ a, StillG P ops w Q rest a → K a) → o.still P a w K) : StillG P ops w Q (o :: rest) a := by
  refine ⟨?_⟩
  rw [wpStill, if_pos hw]
  exact h _ (fun _ h => h.h)
theorem g_no (hw : Region.wanted o (yielded ops a.tmps) = false) (h : StillG P ops w Q rest (a.put o.dst undef)) : StillG P ops w Q (o :: rest) a := by
  refine ⟨?_⟩
  rw [wpStill, if_neg (by rw [hw]; simp)]
  exact h.h
theorem g_un (hg : o.guard = none) (h : ∀ K : Act → Prop, (∀ a, StillG P ops w Q rest a → K a) → o.still P a w K) : StillG P ops w Q (o :: rest) a :=
  g_yes (by simp [Region.wanted, hg]) h
end
end Go.Proofs.YtdjhoadoiknaoaaDoor
namespace Go.Proofs.YtdjhoadoiknaoaaDoor
open Go.RowKit
set_option maxRecDepth 100000 in
set_option maxHeartbeats 4000000 in
theorem rcheckD_any (B : Nat) (w : World) (v iv sv : Value) (t : List (List Int)) (im : List Int) (ss : List StepV) (hB : B ≤ w.heap.size) (h : Mat B w v t) (hi : Row B w iv (ints im)) (hs : SRow B w sv ss) (hw : ∀ i, i < ss.length → (ss.getD i default).word.size ≤ maxLen) :
    Calls Tryd.prog 38 #[v, iv, sv] w fun e w' => e = .returned (.bool (derB t im ss)) ∧ w.grownBy w' none := by
  have hsl := hs.len_le
  unfold maxLen at hsl
  have HCH := Lib.hid (may_any B w v iv t im h hi)
  have H := Lib.hid h; have HI := Lib.hid hi; have HS := Lib.hid hs; have HW := Lib.hid hw
  obtain ⟨ta, tc, rfl⟩ := h.shape
  obtain ⟨ia, ic, rfl⟩ := hi.shape
  obtain ⟨sa, sc, rfl⟩ := hs.shape
  rw [ints_length] at HCH HI ⊢
  clear h hi hs hw
  go_enter Tryd.func38, Tryd.ntmps38
  go_wp2_with fail
  refine HCH.out.mono ?_
  rintro e w1' ⟨rfl, mq, rfl⟩
  obtain ⟨w1, hw1⟩ : ∃ W, W = w.drewN mq := ⟨_, rfl⟩
  have HG1 : Hid (w.grownBy w1 none) := Lib.hid (by rw [hw1]; exact grownBy_drewN w mq none)
  rw [← hw1]
  clear HCH hw1
  by_cases hz : checkE t im ≠ 0
  · have HD := Lib.hid (derB_check (ss := ss) hz)
    obtain ⟨E, hE⟩ : ∃ E, E = checkE t im := ⟨_, rfl⟩
    rw [← hE] at hz ⊢
    have e1 : (E != 0) = true := by rw [bne_iff_ne]; exact hz
    clear hE hz
    go_wp2
    go_ret
    exact ⟨ret_bool HD.out.symm, HG1.out⟩
  replace hz : checkE t im = 0 := by omega
  rw [hz]
  by_cases hl : ss.length = 0
  · have HD := Lib.hid (derB_nil (t := t) (im := im) hl)
    have e1 : ((ss.length : Int) == 0) = true := by rw [hl]; rfl
    clear hz
    go_wp2
    go_ret
    exact ⟨ret_bool HD.out.symm, HG1.out⟩
  have hgd := checkE_good.1 hz
  have e1 : ((ss.length : Int) == 0) = false := by rw [beq_eq_false_iff_ne]; omega
  have hle := hgd.le
  have h6 := hgd.im6
  have him0 := hgd.im0
  have hva := hgd.valid
  have HZ := Lib.hid hz; have HGD := Lib.hid hgd; have HVA := Lib.hid hva; have HTB := Lib.hid (tb_of hva); have HSH := Lib.hid (valid_of hva).1
  obtain ⟨gb, go_, gcap, ge, hgB, hgc, hgm, hso⟩ := HS.out.some_ (by omega)
  simp only [Value.slice.injEq] at ge
  obtain ⟨rfl, _, rfl⟩ := ge
  have HSO := Lib.hid hso
  have hgm' : sc ≤ 9223372036854775807 := by unfold maxLen at hgm; omega
  have hz12 := HG1.out.size
  clear hz hgd hva hso hgm
  go_wp2_with fail
  go_loopg [22] ss.length (fun gh i wr => ∃ (k : Nat), gh + k = ss.length ∧ i = .int .i64 (k : Int) ∧ Hid (stepsTo t im ss k) ∧ w.grownBy wr none)
  case atStart => exact ⟨0, rfl, rfl, Lib.hid (fun i hi => absurd hi (by omega)), HG1.out⟩
  case round =>
    obtain ⟨k, hgh, rfl, hst, hgr⟩ := hrel
    have HGH := Lib.hid hgh; have HGR := Lib.hid hgr
    clear hgh hgr
    by_cases hk : ¬ k < ss.length
    · have HD := Lib.hid (derB_yes HZ.out (by omega) (fun i hi => hst.out i (by have := HGH.out; omega)))
      go_wp2
      go_ret
      exact ⟨ret_bool HD.out.symm, HGR.out⟩
    replace hk : k < ss.length := by omega
    have hk' : (k : Int) < ss.length := by omega
    have hso := HSO.out.kept HGR.out (by simp)
    have c0 := hso.op k hk
    have c1 := hso.a k hk
    have c2 := hso.b k hk
    have c3 := hso.word k hk
    have c4 := hso.set k hk
    obtain ⟨st, hst0⟩ : ∃ st, st = ss.getD k default := ⟨_, rfl⟩
    rw [← hst0] at c0 c1 c2 c3 c4
    have HST := Lib.hid hst0
    have HWZ : Hid (st.word.size ≤ maxLen) := Lib.hid (by rw [hst0]; exact HW.out k hk)
    clear hst0 hso
    obtain ⟨wb, hwb⟩ : ∃ W, W = wr.alloc (.cells #[.int .i64 st.op, .int .i64 st.a, .int .i64 st.b, .string st.word, .int .i64 st.set] 60) := ⟨_, rfl⟩
    have hgb : wr.grownBy wb none := by rw [hwb]; exact World.grownBy_alloc wr _ none
    have hbb := heap_alloc_new wr (.cells #[.int .i64 st.op, .int .i64 st.a, .int .i64 st.b, .string st.word, .int .i64 st.set] 60)
    rw [← hwb] at hbb
    obtain ⟨o, ho⟩ : ∃ o, o = wr.heap.size := ⟨_, rfl⟩
    rw [← ho] at hbb
    have HWB := Lib.hid hwb; have HO := Lib.hid ho; have HBB := Lib.hid hbb
    have HGB := Lib.hid (grown_far HGR.out hgb (by simp))
    clear hwb hgb hbb ho
    go_upto_region 6 with fail
    rw [← HWB.out, ← HO.out]
    clear c0 c1 c2 c3 c4
    obtain ⟨b0, b1, b2, b3, b4⟩ := box5_cells HBB.out
    by_cases hp1 : st.op = 1
    · have q1 : (st.op == 1) = true := by rw [hp1]; rfl
      have HB := Lib.hid (stepB_word (t := t) (im := im) HST.out hp1)
      clear hp1
      by_cases ha : st.a ≠ 0
      · have qa : (st.a != 0) = true := by rw [bne_iff_ne]; exact ha
        have HD : Hid (derB t im ss = false) := Lib.hid (derB_no hk (by rw [HB.out]; simp [ha]))
        go_wp2
        go_ret
        exact ⟨ret_bool HD.out.symm, HGB.out⟩
      replace ha : st.a = 0 := by omega
      have qa : (st.a != 0) = false := by rw [ha]; rfl
      by_cases hb : st.b ≠ 0
      · have qb : (st.b != 0) = true := by rw [bne_iff_ne]; exact hb
        have HD : Hid (derB t im ss = false) := Lib.hid (derB_no hk (by rw [HB.out]; simp [hb]))
        clear ha
        go_wp2
        go_ret
        exact ⟨ret_bool HD.out.symm, HGB.out⟩
      replace hb : st.b = 0 := by omega
      have qb : (st.b != 0) = false := by rw [hb]; rfl
      have HAB : Hid (st.a = 0 ∧ st.b = 0) := Lib.hid ⟨ha, hb⟩
      clear ha hb
      go_wp2_with fail
      refine (valid01_any st.word im.length wb HWZ.out).mono ?_
      rintro e wq ⟨rfl, rfl⟩
      by_cases hv : wordValid st.word im.length = false
      · have HD : Hid (derB t im ss = false) := Lib.hid (derB_no hk (by rw [HB.out, hv]; simp))
        rw [hv]
        clear hv
        go_wp2
        go_ret
        exact ⟨ret_bool HD.out.symm, HGB.out⟩
      replace hv : wordValid st.word im.length = true := by simpa using hv
      rw [hv]
      have HV := Lib.hid hv
      clear hv qa qb
      have HMB := Lib.hid (H.out.kept HGB.out (by simp))
      go_wp2_with fail
      refine (identity14_any B wb _ t HMB.out HSH.out).mono ?_
      rintro e wq ⟨rfl, rfl⟩
      rw [(oneN_lt HGD.out).2]
      obtain ⟨mb, moff, mcap, RB, RO, RC, meq, hc1, hc2, hq⟩ := HMB.out.sq HSH.out
      simp only [Value.slice.injEq] at meq
      obtain ⟨rfl, _, rfl⟩ := meq
      obtain ⟨ib, io, icp, ieq, _, hi1, hi2, hra⟩ := (HI.out.kept HGB.out (by simp)).some_ (by rw [ints_length]; exact him0)
      rw [ints_length] at ieq hi1
      simp only [Value.slice.injEq] at ieq
      obtain ⟨rfl, _, rfl⟩ := ieq
      have hmx : tc ≤ 9223372036854775807 := by unfold maxLen at hc2; omega
      have hmi : ic ≤ 9223372036854775807 := by unfold maxLen at hi2; omega
      have hz20 : st.word.size ≤ 2048 := by
        have := HV.out
        simp only [wordValid, Bool.and_eq_true, decide_eq_true_eq] at this; omega
      have HQ := Lib.hid hq; have HRA := Lib.hid hra
      have h1l := (oneN_lt HGD.out).1
      clear hq hra hc2 hi2
      go_wp2_with fail
      go_loopg [9, 10] st.word.size (fun gj v9 i wr => ∃ (j m x : Nat), gj + j = st.word.size ∧ i = .int .i64 (j : Int) ∧ v9 = .int .i64 (x : Int) ∧ x < t.length ∧ Hid (x = walkV t im (oneN t) (st.word.data.toList.take j)) ∧ wr = wb.drewN m)
      case atStart => exact ⟨0, 0, oneN t, rfl, rfl, rfl, h1l, Lib.hid rfl, rfl⟩
      case round =>
        obtain ⟨j, m, x, hgj, rfl, rfl, hxl, hxe, rfl⟩ := hrel
        have HGJ := Lib.hid hgj; clear hgj
        by_cases hj : j < st.word.size
        · have hj' : (j : Int) < st.word.size := by omega
          have hb := byte_ok HV.out j hj
          obtain ⟨c, hc⟩ : ∃ c, c = st.word[j].toNat := ⟨_, rfl⟩
          have h1 := inB_iff.1 HGD.out.inb (c - 97) (by omega)
          obtain ⟨y, hy⟩ : ∃ y : Nat, (y : Int) = im.getD (c - 97) 0 := ⟨(im.getD (c - 97) 0).toNat, by omega⟩
          have ci := HRA.out.int (c - 97) (by omega)
          rw [← hy] at ci h1
          have hyl : y < t.length := by omega
          have d0 := HQ.out.hd x hxl
          have d1 := HQ.out.el x y hxl hyl
          have hrc := HQ.out.cap x hxl
          have hrcm : RC x ≤ 9223372036854775807 := by have := hrc.2; unfold maxLen at this; omega
          obtain ⟨z, hz0⟩ : ∃ z, z = entN t x y := ⟨_, rfl⟩
          have hzl : z < t.length := by rw [hz0]; exact entN_lt HSH.out hxl hyl
          rw [← hz0] at d1
          have HZ2 : Hid (z = walkV t im (oneN t) (st.word.data.toList.take (j + 1))) := Lib.hid (by
            rw [byteV_at st.word j hj, walkV_snoc, ← hxe.out, ← hc, ← hy]; exact hz0)
          rw [← hc] at hb
          have hcw : IntKind.u8.wrap ((st.word[j].toNat : Int) - 97) = ((c - 97 : Nat) : Int) := by
            rw [← hc]; unfold IntKind.wrap; simp [IntKind.signed, IntKind.bits]; omega
          obtain ⟨y0, hy0⟩ : ∃ y0, y0 = c - 97 := ⟨_, rfl⟩
          have hy6 : y0 < im.length := by omega
          have hy6' : (y0 : Int) < im.length := by omega
          rw [← hy0] at hcw ci
          have hxl' : (x : Int) < t.length := by omega
          have hyl' : (y : Int) < t.length := by omega
          clear hz0 hy hb h1 hy0 hc
          go_wp2
          go_quiet (fail)
          go_wp2
          go_roundg (st.word.size - (j + 1))
          case measure => have := HGJ.out; omega
          case rel => exact ⟨j + 1, _, z, by omega, by go_num, rfl, hzl, HZ2, rfl⟩
        · have hj' : ¬ (j : Int) < st.word.size := by omega
          have hjn : st.word.data.toList.take j = st.word.data.toList := List.take_of_length_le (by simp; omega)
          have HXE : Hid (x = walkV t im (oneN t) st.word.data.toList) := Lib.hid (by rw [← hjn]; exact hxe.out)
          clear hxe hjn
          have hx12 : (x : Int) ≤ 12 := by omega
          have hsh := shl_eq (m := x) (by omega)
          have hsh' := shl_eq' (m := x) (by omega)
          obtain ⟨X, hX⟩ : ∃ X, X = 2 ^ x := ⟨_, rfl⟩
          rw [← hX] at hsh hsh'
          have HX : Hid (X = 2 ^ walkV t im (oneN t) st.word.data.toList) := Lib.hid (by rw [hX, HXE.out])
          clear hX
          by_cases hsx : st.set = (X : Int)
          · have qs : (st.set != (X : Int)) = false := by rw [hsx]; simp
            have HBT : Hid (stepB t im ss k = true) := Lib.hid (by rw [HB.out, HAB.out.1, HAB.out.2, HV.out, ← HX.out, decide_eq_true hsx]; rfl)
            clear hsx
            go_wp2
            go_roundg (ss.length - (k + 1))
            case measure => have := HGH.out; omega
            case rel => exact ⟨k + 1, by have := HGH.out; omega, by go_num, Lib.hid (stepsTo_snoc hst.out HBT.out), grown_far HGB.out (grownBy_drewN wb _ none) (by simp)⟩
          · have qs : (st.set != (X : Int)) = true := by rw [bne_iff_ne]; exact hsx
            have HD : Hid (derB t im ss = false) := Lib.hid (derB_no hk (by rw [HB.out, ← HX.out, decide_eq_false hsx]; simp))
            clear hsx
            go_wp2
            go_ret
            exact ⟨ret_bool HD.out.symm, grown_far HGB.out (grownBy_drewN wb _ none) (by simp)⟩
    by_cases hp2 : st.op = 2
    · have q1 : (st.op == 1) = false := by rw [hp2]; rfl
      have q2 : (st.op == 2) = true := by rw [hp2]; rfl
      have HB := Lib.hid (stepB_prod (t := t) (im := im) HST.out hp2)
      have HBEF : Hid (∀ x : Int, (0 ≤ x ∧ x < (k : Int)) ↔ befB x k = true) := Lib.hid (fun x => befB_iff.symm)
      clear hp1 hp2
      by_cases hA : st.a < 0
      · have qA : decide (st.a < 0) = true := decide_eq_true hA
        have HD : Hid (derB t im ss = false) := Lib.hid (derB_no hk (by rw [HB.out]; rw [show befB st.a k = false by simp [befB]; omega]; simp))
        go_wp2_with fail
        refine wp_region_still_tail 43 (by kernel_rfl) (by kernel_rfl) (StillG.h ?_)
        simp only [List.take_succ_cons, List.take_zero, List.drop_succ_cons, List.drop_zero]
        iterate 4 (refine g_un rfl ?_; intro K hK; go_simp; refine hK _ ?_; clear hK K)
        iterate 4 (refine g_no (by kernel_rfl) ?_; try simp only [Act.put, List.setIfInBounds_toArray, List.set_cons_zero, List.set_cons_succ])
        iterate 2 (refine g_un rfl ?_; intro K hK; go_simp; refine hK _ ?_; clear hK K)
        iterate 3 (refine g_no (by kernel_rfl) ?_; try simp only [Act.put, List.setIfInBounds_toArray, List.set_cons_zero, List.set_cons_succ])
        iterate 2 (refine g_un rfl ?_; intro K hK; go_simp; refine hK _ ?_; clear hK K)
        iterate 4 (refine g_no (by kernel_rfl) ?_; try simp only [Act.put, List.setIfInBounds_toArray, List.set_cons_zero, List.set_cons_succ])
        iterate 2 (refine g_un rfl ?_; intro K hK; go_simp; refine hK _ ?_; clear hK K)
        iterate 3 (refine g_no (by kernel_rfl) ?_; try simp only [Act.put, List.setIfInBounds_toArray, List.set_cons_zero, List.set_cons_succ])
        iterate 2 (refine g_un rfl ?_; intro K hK; go_simp; refine hK _ ?_; clear hK K)
        iterate 17 (refine g_no (by kernel_rfl) ?_; try simp only [Act.put, List.setIfInBounds_toArray, List.set_cons_zero, List.set_cons_succ])
        refine g_nil ?_
        go_wp2
        go_ret
        exact ⟨ret_bool HD.out.symm, grown_far HGB.out (grownBy_drew wb none) (by simp)⟩
      have qA : decide (st.a < 0) = false := decide_eq_false hA
      by_cases hA2 : (k : Int) ≤ st.a
      · have qA2 : decide ((k : Int) ≤ st.a) = true := decide_eq_true hA2
        have HD : Hid (derB t im ss = false) := Lib.hid (derB_no hk (by rw [HB.out]; rw [show befB st.a k = false by simp [befB]; omega]; simp))
        go_wp2_with fail
        refine wp_region_still_tail 43 (by kernel_rfl) (by kernel_rfl) (StillG.h ?_)
        simp only [List.take_succ_cons, List.take_zero, List.drop_succ_cons, List.drop_zero]
        iterate 4 (refine g_un rfl ?_; intro K hK; go_simp; refine hK _ ?_; clear hK K)
        iterate 4 (refine g_yes (by kernel_rfl) ?_; intro K hK; go_simp; refine hK _ ?_; clear hK K)
        iterate 2 (refine g_un rfl ?_; intro K hK; go_simp; refine hK _ ?_; clear hK K)
        iterate 3 (refine g_no (by kernel_rfl) ?_; try simp only [Act.put, List.setIfInBounds_toArray, List.set_cons_zero, List.set_cons_succ])
        iterate 2 (refine g_un rfl ?_; intro K hK; go_simp; refine hK _ ?_; clear hK K)
        iterate 4 (refine g_no (by kernel_rfl) ?_; try simp only [Act.put, List.setIfInBounds_toArray, List.set_cons_zero, List.set_cons_succ])
        iterate 2 (refine g_un rfl ?_; intro K hK; go_simp; refine hK _ ?_; clear hK K)
        iterate 3 (refine g_no (by kernel_rfl) ?_; try simp only [Act.put, List.setIfInBounds_toArray, List.set_cons_zero, List.set_cons_succ])
        iterate 2 (refine g_un rfl ?_; intro K hK; go_simp; refine hK _ ?_; clear hK K)
        iterate 17 (refine g_no (by kernel_rfl) ?_; try simp only [Act.put, List.setIfInBounds_toArray, List.set_cons_zero, List.set_cons_succ])
        refine g_nil ?_
        go_wp2
        go_ret
        exact ⟨ret_bool HD.out.symm, grown_far HGB.out (grownBy_drew wb none) (by simp)⟩
      have qA2 : decide ((k : Int) ≤ st.a) = false := decide_eq_false hA2
      by_cases hC : st.b < 0
      · have qC : decide (st.b < 0) = true := decide_eq_true hC
        have HD : Hid (derB t im ss = false) := Lib.hid (derB_no hk (by rw [HB.out]; rw [show befB st.b k = false by simp [befB]; omega]; simp))
        go_wp2_with fail
        refine wp_region_still_tail 43 (by kernel_rfl) (by kernel_rfl) (StillG.h ?_)
        simp only [List.take_succ_cons, List.take_zero, List.drop_succ_cons, List.drop_zero]
        iterate 4 (refine g_un rfl ?_; intro K hK; go_simp; refine hK _ ?_; clear hK K)
        iterate 4 (refine g_yes (by kernel_rfl) ?_; intro K hK; go_simp; refine hK _ ?_; clear hK K)
        iterate 2 (refine g_un rfl ?_; intro K hK; go_simp; refine hK _ ?_; clear hK K)
        iterate 3 (refine g_yes (by kernel_rfl) ?_; intro K hK; go_simp; refine hK _ ?_; clear hK K)
        iterate 2 (refine g_un rfl ?_; intro K hK; go_simp; refine hK _ ?_; clear hK K)
        iterate 4 (refine g_no (by kernel_rfl) ?_; try simp only [Act.put, List.setIfInBounds_toArray, List.set_cons_zero, List.set_cons_succ])
        iterate 2 (refine g_un rfl ?_; intro K hK; go_simp; refine hK _ ?_; clear hK K)
        iterate 3 (refine g_no (by kernel_rfl) ?_; try simp only [Act.put, List.setIfInBounds_toArray, List.set_cons_zero, List.set_cons_succ])
        iterate 2 (refine g_un rfl ?_; intro K hK; go_simp; refine hK _ ?_; clear hK K)
        iterate 17 (refine g_no (by kernel_rfl) ?_; try simp only [Act.put, List.setIfInBounds_toArray, List.set_cons_zero, List.set_cons_succ])
        refine g_nil ?_
        go_wp2
        go_ret
        exact ⟨ret_bool HD.out.symm, grown_far HGB.out (grownBy_drew wb none) (by simp)⟩
      have qC : decide (st.b < 0) = false := decide_eq_false hC
      by_cases hC2 : (k : Int) ≤ st.b
      · have qC2 : decide ((k : Int) ≤ st.b) = true := decide_eq_true hC2
        have HD : Hid (derB t im ss = false) := Lib.hid (derB_no hk (by rw [HB.out]; rw [show befB st.b k = false by simp [befB]; omega]; simp))
        go_wp2_with fail
        refine wp_region_still_tail 43 (by kernel_rfl) (by kernel_rfl) (StillG.h ?_)
        simp only [List.take_succ_cons, List.take_zero, List.drop_succ_cons, List.drop_zero]
        iterate 4 (refine g_un rfl ?_; intro K hK; go_simp; refine hK _ ?_; clear hK K)
        iterate 4 (refine g_yes (by kernel_rfl) ?_; intro K hK; go_simp; refine hK _ ?_; clear hK K)
        iterate 2 (refine g_un rfl ?_; intro K hK; go_simp; refine hK _ ?_; clear hK K)
        iterate 3 (refine g_yes (by kernel_rfl) ?_; intro K hK; go_simp; refine hK _ ?_; clear hK K)
        iterate 2 (refine g_un rfl ?_; intro K hK; go_simp; refine hK _ ?_; clear hK K)
        iterate 4 (refine g_yes (by kernel_rfl) ?_; intro K hK; go_simp; refine hK _ ?_; clear hK K)
        iterate 2 (refine g_un rfl ?_; intro K hK; go_simp; refine hK _ ?_; clear hK K)
        iterate 3 (refine g_no (by kernel_rfl) ?_; try simp only [Act.put, List.setIfInBounds_toArray, List.set_cons_zero, List.set_cons_succ])
        iterate 2 (refine g_un rfl ?_; intro K hK; go_simp; refine hK _ ?_; clear hK K)
        iterate 17 (refine g_no (by kernel_rfl) ?_; try simp only [Act.put, List.setIfInBounds_toArray, List.set_cons_zero, List.set_cons_succ])
        refine g_nil ?_
        go_wp2
        go_ret
        exact ⟨ret_bool HD.out.symm, grown_far HGB.out (grownBy_drew wb none) (by simp)⟩
      have qC2 : decide ((k : Int) ≤ st.b) = false := decide_eq_false hC2
      obtain ⟨ew, hew⟩ : ∃ ew, ew = st.word.toList.isEmpty := ⟨_, rfl⟩
      have qw : st.word.toList.isEmpty = ew := hew.symm
      rw [qw] at HB
      clear hew
      cases ew with
      | false =>
        have HD : Hid (derB t im ss = false) := Lib.hid (derB_no hk (by rw [HB.out]; simp))
        go_wp2_with fail
        refine wp_region_still_tail 43 (by kernel_rfl) (by kernel_rfl) (StillG.h ?_)
        simp only [List.take_succ_cons, List.take_zero, List.drop_succ_cons, List.drop_zero]
        iterate 4 (refine g_un rfl ?_; intro K hK; go_simp; refine hK _ ?_; clear hK K)
        iterate 4 (refine g_yes (by kernel_rfl) ?_; intro K hK; go_simp; refine hK _ ?_; clear hK K)
        iterate 2 (refine g_un rfl ?_; intro K hK; go_simp; refine hK _ ?_; clear hK K)
        iterate 3 (refine g_yes (by kernel_rfl) ?_; intro K hK; go_simp; refine hK _ ?_; clear hK K)
        iterate 2 (refine g_un rfl ?_; intro K hK; go_simp; refine hK _ ?_; clear hK K)
        iterate 4 (refine g_yes (by kernel_rfl) ?_; intro K hK; go_simp; refine hK _ ?_; clear hK K)
        iterate 2 (refine g_un rfl ?_; intro K hK; go_simp; refine hK _ ?_; clear hK K)
        iterate 3 (refine g_yes (by kernel_rfl) ?_; intro K hK; go_simp; refine hK _ ?_; clear hK K)
        iterate 2 (refine g_un rfl ?_; intro K hK; go_simp; refine hK _ ?_; clear hK K)
        iterate 17 (refine g_no (by kernel_rfl) ?_; try simp only [Act.put, List.setIfInBounds_toArray, List.set_cons_zero, List.set_cons_succ])
        refine g_nil ?_
        go_wp2
        go_ret
        exact ⟨ret_bool HD.out.symm, grown_far HGB.out (grownBy_drew wb none) (by simp)⟩
      | true =>
        obtain ⟨xa, hxa⟩ : ∃ xa : Nat, (xa : Int) = st.a := ⟨st.a.toNat, by omega⟩
        obtain ⟨xb, hxb⟩ : ∃ xb : Nat, (xb : Int) = st.b := ⟨st.b.toNat, by omega⟩
        have hak : xa < ss.length := by omega
        have hbk : xb < ss.length := by omega
        have hak' : (xa : Int) < ss.length := by omega
        have hbk' : (xb : Int) < ss.length := by omega
        have hsa := step_set HGD.out hst.out xa (by omega)
        have hsb := step_set HGD.out hst.out xb (by omega)
        have HBF : Hid (befB st.a k = true ∧ befB st.b k = true) := Lib.hid ⟨befB_iff.2 ⟨by omega, by omega⟩, befB_iff.2 ⟨by omega, by omega⟩⟩
        have hso := HSO.out.kept HGB.out (by simp)
        have ca := hso.set xa hak
        have cb := hso.set xb hbk
        have hxA : xa ≤ k := by omega
        have hxB : xb ≤ k := by omega
        obtain ⟨za, hza⟩ : ∃ za : Nat, (za : Int) = (ss.getD xa default).set := ⟨(ss.getD xa default).set.toNat, by omega⟩
        obtain ⟨zb, hzb⟩ : ∃ zb : Nat, (zb : Int) = (ss.getD xb default).set := ⟨(ss.getD xb default).set.toNat, by omega⟩
        rw [← hza] at ca hsa
        rw [← hzb] at cb hsb
        obtain ⟨X, hX⟩ : ∃ X, X = prodSet t.length (entN t) za zb := ⟨_, rfl⟩
        have HPR : Hid (∀ W : World, wb.grownBy W none → Calls Tryd.prog 55 #[.slice ta t.length tc, .int .i64 (za : Int), .int .i64 (zb : Int)] W fun e w' => e = .returned (.int .i64 (X : Int)) ∧ w' = W) := Lib.hid (fun W hW => (prod40_any B W _ t za zb ((H.out.kept HGB.out (by simp)).kept hW (by simp)) HSH.out hle (by omega) (by omega)).mono fun e w' ⟨h1, h2⟩ => ⟨by rw [h1, hX], h2.symm⟩)
        have HBE : Hid (stepB t im ss k = decide (st.set = (X : Int))) := Lib.hid (by
          rw [HB.out, HBF.out.1, HBF.out.2, hX, ← hxa, ← hxb, Int.toNat_natCast, Int.toNat_natCast, ← hza, ← hzb, Int.toNat_natCast, Int.toNat_natCast]; simp)
        rw [← hxa] at b1
        rw [← hxb] at b2
        have f1 : decide ((xa : Int) < 0) = false := decide_eq_false (by omega)
        have f2 : decide (k ≤ xa) = false := decide_eq_false (by omega)
        have f3 : decide ((xb : Int) < 0) = false := decide_eq_false (by omega)
        have f4 : decide (k ≤ xb) = false := decide_eq_false (by omega)
        clear hA hA2 hC hC2 qA qA2 qC qC2
        clear hX hsa hsb hza hzb hso hxa hxb
        by_cases hsx : st.set = (X : Int)
        · have qs : (st.set != (X : Int)) = false := by rw [hsx]; simp
          have HBT : Hid (stepB t im ss k = true) := Lib.hid (by rw [HBE.out, decide_eq_true hsx])
          clear hsx
          go_wp2_with fail
          refine wp_region_still_tail 43 (by kernel_rfl) (by kernel_rfl) (StillG.h ?_)
          simp only [List.take_succ_cons, List.take_zero, List.drop_succ_cons, List.drop_zero]
          iterate 4 (refine g_un rfl ?_; intro K hK; go_simp; refine hK _ ?_; clear hK K)
          iterate 4 (refine g_yes (by kernel_rfl) ?_; intro K hK; go_simp; refine hK _ ?_; clear hK K)
          iterate 2 (refine g_un rfl ?_; intro K hK; go_simp; refine hK _ ?_; clear hK K)
          iterate 3 (refine g_yes (by kernel_rfl) ?_; intro K hK; go_simp; refine hK _ ?_; clear hK K)
          iterate 2 (refine g_un rfl ?_; intro K hK; go_simp; refine hK _ ?_; clear hK K)
          iterate 4 (refine g_yes (by kernel_rfl) ?_; intro K hK; go_simp; refine hK _ ?_; clear hK K)
          iterate 2 (refine g_un rfl ?_; intro K hK; go_simp; refine hK _ ?_; clear hK K)
          iterate 3 (refine g_yes (by kernel_rfl) ?_; intro K hK; go_simp; refine hK _ ?_; clear hK K)
          iterate 2 (refine g_un rfl ?_; intro K hK; go_simp; refine hK _ ?_; clear hK K)
          iterate 15 (refine g_yes (by kernel_rfl) ?_; intro K hK; go_simp; refine hK _ ?_; clear hK K)
          refine g_yes (by kernel_rfl) ?_; intro K hK; go_simp; refine ⟨_, HPR.out _ (grownBy_drew _ _), hK _ ?_⟩; clear hK K
          refine g_yes (by kernel_rfl) ?_; intro K hK; go_simp; refine hK _ ?_; clear hK K
          refine g_nil ?_
          go_wp2
          go_roundg (ss.length - (k + 1))
          case measure => have := HGH.out; omega
          case rel => exact ⟨k + 1, by have := HGH.out; omega, by go_num, Lib.hid (stepsTo_snoc hst.out HBT.out), grown_far HGB.out (grownBy_drew wb none) (by simp)⟩
        · have qs : (st.set != (X : Int)) = true := by rw [bne_iff_ne]; exact hsx
          have HD : Hid (derB t im ss = false) := Lib.hid (derB_no hk (by rw [HBE.out, decide_eq_false hsx]))
          clear hsx
          go_wp2_with fail
          refine wp_region_still_tail 43 (by kernel_rfl) (by kernel_rfl) (StillG.h ?_)
          simp only [List.take_succ_cons, List.take_zero, List.drop_succ_cons, List.drop_zero]
          iterate 4 (refine g_un rfl ?_; intro K hK; go_simp; refine hK _ ?_; clear hK K)
          iterate 4 (refine g_yes (by kernel_rfl) ?_; intro K hK; go_simp; refine hK _ ?_; clear hK K)
          iterate 2 (refine g_un rfl ?_; intro K hK; go_simp; refine hK _ ?_; clear hK K)
          iterate 3 (refine g_yes (by kernel_rfl) ?_; intro K hK; go_simp; refine hK _ ?_; clear hK K)
          iterate 2 (refine g_un rfl ?_; intro K hK; go_simp; refine hK _ ?_; clear hK K)
          iterate 4 (refine g_yes (by kernel_rfl) ?_; intro K hK; go_simp; refine hK _ ?_; clear hK K)
          iterate 2 (refine g_un rfl ?_; intro K hK; go_simp; refine hK _ ?_; clear hK K)
          iterate 3 (refine g_yes (by kernel_rfl) ?_; intro K hK; go_simp; refine hK _ ?_; clear hK K)
          iterate 2 (refine g_un rfl ?_; intro K hK; go_simp; refine hK _ ?_; clear hK K)
          iterate 15 (refine g_yes (by kernel_rfl) ?_; intro K hK; go_simp; refine hK _ ?_; clear hK K)
          refine g_yes (by kernel_rfl) ?_; intro K hK; go_simp; refine ⟨_, HPR.out _ (grownBy_drew _ _), hK _ ?_⟩; clear hK K
          refine g_yes (by kernel_rfl) ?_; intro K hK; go_simp; refine hK _ ?_; clear hK K
          refine g_nil ?_
          go_wp2
          go_ret
          exact ⟨ret_bool HD.out.symm, grown_far HGB.out (grownBy_drew wb none) (by simp)⟩
    by_cases hp3 : st.op = 3
    · have q1 : (st.op == 1) = false := by rw [hp3]; rfl
      have q2 : (st.op == 2) = false := by rw [hp3]; rfl
      have q3 : (st.op == 3) = true := by rw [hp3]; rfl
      have HB := Lib.hid (stepB_om (t := t) (im := im) HST.out hp3)
      clear hp1 hp2 hp3
      by_cases hA : st.a < 0
      · have qA : decide (st.a < 0) = true := decide_eq_true hA
        have HD : Hid (derB t im ss = false) := Lib.hid (derB_no hk (by rw [HB.out]; rw [show befB st.a k = false by simp [befB]; omega]; simp))
        go_wp2_with fail
        refine wp_region_still_tail 31 (by kernel_rfl) (by kernel_rfl) (StillG.h ?_)
        simp only [List.take_succ_cons, List.take_zero, List.drop_succ_cons, List.drop_zero]
        iterate 4 (refine g_un rfl ?_; intro K hK; go_simp; refine hK _ ?_; clear hK K)
        iterate 4 (refine g_no (by kernel_rfl) ?_; try simp only [Act.put, List.setIfInBounds_toArray, List.set_cons_zero, List.set_cons_succ])
        iterate 2 (refine g_un rfl ?_; intro K hK; go_simp; refine hK _ ?_; clear hK K)
        iterate 3 (refine g_no (by kernel_rfl) ?_; try simp only [Act.put, List.setIfInBounds_toArray, List.set_cons_zero, List.set_cons_succ])
        iterate 2 (refine g_un rfl ?_; intro K hK; go_simp; refine hK _ ?_; clear hK K)
        iterate 3 (refine g_no (by kernel_rfl) ?_; try simp only [Act.put, List.setIfInBounds_toArray, List.set_cons_zero, List.set_cons_succ])
        iterate 2 (refine g_un rfl ?_; intro K hK; go_simp; refine hK _ ?_; clear hK K)
        iterate 11 (refine g_no (by kernel_rfl) ?_; try simp only [Act.put, List.setIfInBounds_toArray, List.set_cons_zero, List.set_cons_succ])
        refine g_nil ?_
        go_wp2
        go_ret
        exact ⟨ret_bool HD.out.symm, grown_far HGB.out (grownBy_drew wb none) (by simp)⟩
      have qA : decide (st.a < 0) = false := decide_eq_false hA
      by_cases hA2 : (k : Int) ≤ st.a
      · have qA2 : decide ((k : Int) ≤ st.a) = true := decide_eq_true hA2
        have HD : Hid (derB t im ss = false) := Lib.hid (derB_no hk (by rw [HB.out]; rw [show befB st.a k = false by simp [befB]; omega]; simp))
        go_wp2_with fail
        refine wp_region_still_tail 31 (by kernel_rfl) (by kernel_rfl) (StillG.h ?_)
        simp only [List.take_succ_cons, List.take_zero, List.drop_succ_cons, List.drop_zero]
        iterate 4 (refine g_un rfl ?_; intro K hK; go_simp; refine hK _ ?_; clear hK K)
        iterate 4 (refine g_yes (by kernel_rfl) ?_; intro K hK; go_simp; refine hK _ ?_; clear hK K)
        iterate 2 (refine g_un rfl ?_; intro K hK; go_simp; refine hK _ ?_; clear hK K)
        iterate 3 (refine g_no (by kernel_rfl) ?_; try simp only [Act.put, List.setIfInBounds_toArray, List.set_cons_zero, List.set_cons_succ])
        iterate 2 (refine g_un rfl ?_; intro K hK; go_simp; refine hK _ ?_; clear hK K)
        iterate 3 (refine g_no (by kernel_rfl) ?_; try simp only [Act.put, List.setIfInBounds_toArray, List.set_cons_zero, List.set_cons_succ])
        iterate 2 (refine g_un rfl ?_; intro K hK; go_simp; refine hK _ ?_; clear hK K)
        iterate 11 (refine g_no (by kernel_rfl) ?_; try simp only [Act.put, List.setIfInBounds_toArray, List.set_cons_zero, List.set_cons_succ])
        refine g_nil ?_
        go_wp2
        go_ret
        exact ⟨ret_bool HD.out.symm, grown_far HGB.out (grownBy_drew wb none) (by simp)⟩
      have qA2 : decide ((k : Int) ≤ st.a) = false := decide_eq_false hA2
      by_cases hb : st.b ≠ 0
      · have qb : (st.b != 0) = true := by rw [bne_iff_ne]; exact hb
        have HD : Hid (derB t im ss = false) := Lib.hid (derB_no hk (by rw [HB.out]; simp [hb]))
        clear hb
        go_wp2_with fail
        refine wp_region_still_tail 31 (by kernel_rfl) (by kernel_rfl) (StillG.h ?_)
        simp only [List.take_succ_cons, List.take_zero, List.drop_succ_cons, List.drop_zero]
        iterate 4 (refine g_un rfl ?_; intro K hK; go_simp; refine hK _ ?_; clear hK K)
        iterate 4 (refine g_yes (by kernel_rfl) ?_; intro K hK; go_simp; refine hK _ ?_; clear hK K)
        iterate 2 (refine g_un rfl ?_; intro K hK; go_simp; refine hK _ ?_; clear hK K)
        iterate 3 (refine g_yes (by kernel_rfl) ?_; intro K hK; go_simp; refine hK _ ?_; clear hK K)
        iterate 2 (refine g_un rfl ?_; intro K hK; go_simp; refine hK _ ?_; clear hK K)
        iterate 3 (refine g_no (by kernel_rfl) ?_; try simp only [Act.put, List.setIfInBounds_toArray, List.set_cons_zero, List.set_cons_succ])
        iterate 2 (refine g_un rfl ?_; intro K hK; go_simp; refine hK _ ?_; clear hK K)
        iterate 11 (refine g_no (by kernel_rfl) ?_; try simp only [Act.put, List.setIfInBounds_toArray, List.set_cons_zero, List.set_cons_succ])
        refine g_nil ?_
        go_wp2
        go_ret
        exact ⟨ret_bool HD.out.symm, grown_far HGB.out (grownBy_drew wb none) (by simp)⟩
      replace hb : st.b = 0 := by omega
      have qb : (st.b != 0) = false := by rw [hb]; rfl
      have HB0 := Lib.hid hb
      clear hb
      obtain ⟨ew, hew⟩ : ∃ ew, ew = st.word.toList.isEmpty := ⟨_, rfl⟩
      have qw : st.word.toList.isEmpty = ew := hew.symm
      rw [qw] at HB
      clear hew
      cases ew with
      | false =>
        have HD : Hid (derB t im ss = false) := Lib.hid (derB_no hk (by rw [HB.out]; simp))
        go_wp2_with fail
        refine wp_region_still_tail 31 (by kernel_rfl) (by kernel_rfl) (StillG.h ?_)
        simp only [List.take_succ_cons, List.take_zero, List.drop_succ_cons, List.drop_zero]
        iterate 4 (refine g_un rfl ?_; intro K hK; go_simp; refine hK _ ?_; clear hK K)
        iterate 4 (refine g_yes (by kernel_rfl) ?_; intro K hK; go_simp; refine hK _ ?_; clear hK K)
        iterate 2 (refine g_un rfl ?_; intro K hK; go_simp; refine hK _ ?_; clear hK K)
        iterate 3 (refine g_yes (by kernel_rfl) ?_; intro K hK; go_simp; refine hK _ ?_; clear hK K)
        iterate 2 (refine g_un rfl ?_; intro K hK; go_simp; refine hK _ ?_; clear hK K)
        iterate 3 (refine g_yes (by kernel_rfl) ?_; intro K hK; go_simp; refine hK _ ?_; clear hK K)
        iterate 2 (refine g_un rfl ?_; intro K hK; go_simp; refine hK _ ?_; clear hK K)
        iterate 11 (refine g_no (by kernel_rfl) ?_; try simp only [Act.put, List.setIfInBounds_toArray, List.set_cons_zero, List.set_cons_succ])
        refine g_nil ?_
        go_wp2
        go_ret
        exact ⟨ret_bool HD.out.symm, grown_far HGB.out (grownBy_drew wb none) (by simp)⟩
      | true =>
        obtain ⟨xa, hxa⟩ : ∃ xa : Nat, (xa : Int) = st.a := ⟨st.a.toNat, by omega⟩
        have hak : xa < ss.length := by omega
        have hak' : (xa : Int) < ss.length := by omega
        have hsa := step_set HGD.out hst.out xa (by omega)
        have HBF : Hid (befB st.a k = true) := Lib.hid (befB_iff.2 ⟨by omega, by omega⟩)
        have hso := HSO.out.kept HGB.out (by simp)
        have ca := hso.set xa hak
        obtain ⟨za, hza⟩ : ∃ za : Nat, (za : Int) = (ss.getD xa default).set := ⟨(ss.getD xa default).set.toNat, by omega⟩
        rw [← hza] at ca hsa
        obtain ⟨X, hX⟩ : ∃ X, X = omegaSet t.length (entN t) za := ⟨_, rfl⟩
        have HPR : Hid (∀ W : World, wb.grownBy W none → Calls Tryd.prog 57 #[.slice ta t.length tc, .int .i64 (za : Int)] W fun e w' => e = .returned (.int .i64 (X : Int)) ∧ w' = W) := Lib.hid (fun W hW => (omega40_any B W _ t za ((H.out.kept HGB.out (by simp)).kept hW (by simp)) HVA.out hle (by omega)).mono fun e w' ⟨h1, h2⟩ => ⟨by rw [h1, hX], h2.symm⟩)
        have HBE : Hid (stepB t im ss k = decide (st.set = (X : Int))) := Lib.hid (by
          rw [HB.out, HBF.out, HB0.out, hX, ← hxa, Int.toNat_natCast, ← hza, Int.toNat_natCast]; simp)
        rw [← hxa] at b1
        have f1 : decide ((xa : Int) < 0) = false := decide_eq_false (by omega)
        have f2 : decide (k ≤ xa) = false := decide_eq_false (by omega)
        clear hA hA2 qA qA2
        clear hX hsa hza hso hxa
        by_cases hsx : st.set = (X : Int)
        · have qs : (st.set != (X : Int)) = false := by rw [hsx]; simp
          have HBT : Hid (stepB t im ss k = true) := Lib.hid (by rw [HBE.out, decide_eq_true hsx])
          clear hsx
          go_wp2_with fail
          refine wp_region_still_tail 31 (by kernel_rfl) (by kernel_rfl) (StillG.h ?_)
          simp only [List.take_succ_cons, List.take_zero, List.drop_succ_cons, List.drop_zero]
          iterate 4 (refine g_un rfl ?_; intro K hK; go_simp; refine hK _ ?_; clear hK K)
          iterate 4 (refine g_yes (by kernel_rfl) ?_; intro K hK; go_simp; refine hK _ ?_; clear hK K)
          iterate 2 (refine g_un rfl ?_; intro K hK; go_simp; refine hK _ ?_; clear hK K)
          iterate 3 (refine g_yes (by kernel_rfl) ?_; intro K hK; go_simp; refine hK _ ?_; clear hK K)
          iterate 2 (refine g_un rfl ?_; intro K hK; go_simp; refine hK _ ?_; clear hK K)
          iterate 3 (refine g_yes (by kernel_rfl) ?_; intro K hK; go_simp; refine hK _ ?_; clear hK K)
          iterate 2 (refine g_un rfl ?_; intro K hK; go_simp; refine hK _ ?_; clear hK K)
          iterate 9 (refine g_yes (by kernel_rfl) ?_; intro K hK; go_simp; refine hK _ ?_; clear hK K)
          refine g_yes (by kernel_rfl) ?_; intro K hK; go_simp; refine ⟨_, HPR.out _ (grownBy_drew _ _), hK _ ?_⟩; clear hK K
          refine g_yes (by kernel_rfl) ?_; intro K hK; go_simp; refine hK _ ?_; clear hK K
          refine g_nil ?_
          go_wp2
          go_roundg (ss.length - (k + 1))
          case measure => have := HGH.out; omega
          case rel => exact ⟨k + 1, by have := HGH.out; omega, by go_num, Lib.hid (stepsTo_snoc hst.out HBT.out), grown_far HGB.out (grownBy_drew wb none) (by simp)⟩
        · have qs : (st.set != (X : Int)) = true := by rw [bne_iff_ne]; exact hsx
          have HD : Hid (derB t im ss = false) := Lib.hid (derB_no hk (by rw [HBE.out, decide_eq_false hsx]))
          clear hsx
          go_wp2_with fail
          refine wp_region_still_tail 31 (by kernel_rfl) (by kernel_rfl) (StillG.h ?_)
          simp only [List.take_succ_cons, List.take_zero, List.drop_succ_cons, List.drop_zero]
          iterate 4 (refine g_un rfl ?_; intro K hK; go_simp; refine hK _ ?_; clear hK K)
          iterate 4 (refine g_yes (by kernel_rfl) ?_; intro K hK; go_simp; refine hK _ ?_; clear hK K)
          iterate 2 (refine g_un rfl ?_; intro K hK; go_simp; refine hK _ ?_; clear hK K)
          iterate 3 (refine g_yes (by kernel_rfl) ?_; intro K hK; go_simp; refine hK _ ?_; clear hK K)
          iterate 2 (refine g_un rfl ?_; intro K hK; go_simp; refine hK _ ?_; clear hK K)
          iterate 3 (refine g_yes (by kernel_rfl) ?_; intro K hK; go_simp; refine hK _ ?_; clear hK K)
          iterate 2 (refine g_un rfl ?_; intro K hK; go_simp; refine hK _ ?_; clear hK K)
          iterate 9 (refine g_yes (by kernel_rfl) ?_; intro K hK; go_simp; refine hK _ ?_; clear hK K)
          refine g_yes (by kernel_rfl) ?_; intro K hK; go_simp; refine ⟨_, HPR.out _ (grownBy_drew _ _), hK _ ?_⟩; clear hK K
          refine g_yes (by kernel_rfl) ?_; intro K hK; go_simp; refine hK _ ?_; clear hK K
          refine g_nil ?_
          go_wp2
          go_ret
          exact ⟨ret_bool HD.out.symm, grown_far HGB.out (grownBy_drew wb none) (by simp)⟩
    · have HD := Lib.hid (derB_no hk (stepB_op (t := t) (im := im) HST.out hp1 hp2 hp3))
      have q1 : (st.op == 1) = false := by rw [beq_eq_false_iff_ne]; exact hp1
      have q2 : (st.op == 2) = false := by rw [beq_eq_false_iff_ne]; exact hp2
      have q3 : (st.op == 3) = false := by rw [beq_eq_false_iff_ne]; exact hp3
      go_wp2
      go_ret
      exact ⟨ret_bool HD.out.symm, HGB.out⟩
end Go.Proofs.YtdjhoadoiknaoaaDoor
namespace Go.Proofs.YtdjhoadoiknaoaaDoor
open Go.RowKit
structure RawSt (w0 : World) (v iv sv stv : Value) (t : List (List Int)) (im zs : List Int) (d : Bool) (ss : List StepV) (o : Nat) (w : World) : Prop where
  mat : Mat w0.heap.size w v t
  im : Row w0.heap.size w iv (ints im)
  zs : Row w0.heap.size w sv (ints zs)
  ss : SRow w0.heap.size w stv ss
  box : w.heap[o]? = some (.cells #[sv, .bool d] 49 (0, 0))
  tab : TabOk w
  grown : w0.grownBy w none
theorem RawSt.step {w0 w w' : World} {v iv sv stv : Value} {t : List (List Int)} {im zs : List Int} {d : Bool} {ss : List StepV} {o : Nat} (h : RawSt w0 v iv sv stv t im zs d ss o w) (hg : w.grownBy w' none) : RawSt w0 v iv sv stv t im zs d ss o w' :=
  ⟨h.mat.kept hg (by simp), h.im.kept hg (by simp), h.zs.kept hg (by simp), h.ss.kept hg (by simp), block_kept h.box hg (by simp), h.tab.kept hg (by simp), grown_far h.grown hg (by simp)⟩
theorem DeriveOk.uni {w w' : World} {t : List (List Int)} {im : List Int} {s : Int} {e : Ending} (h : DeriveOk w t im s e w') : ∃ (a : Option Addr) (n c : Nat), e = .returned (.tuple #[.slice a n c, .int .i64 (derE t im s)]) ∧ w.grownBy w' none := by
  obtain ⟨hg, ⟨_, rfl⟩ | ⟨h0, sa, sc, l, S, rfl, _⟩⟩ := h
  · exact ⟨none, 0, 0, rfl, hg⟩
  · exact ⟨sa, _, sc, by rw [h0], hg⟩
theorem RawSt.size {w0 w : World} {v iv sv stv : Value} {t : List (List Int)} {im zs : List Int} {d : Bool} {ss : List StepV} {o : Nat} (h : RawSt w0 v iv sv stv t im zs d ss o w) : w0.heap.size ≤ w.heap.size := h.grown.size
set_option maxRecDepth 100000 in
set_option maxHeartbeats 4000000 in
theorem raw_walk (w : World) (v iv sv stv : Value) (t : List (List Int)) (im zs : List Int) (d : Bool) (s bud : Int) (ss : List StepV) (h : Mat w.heap.size w v t) (hi : Row w.heap.size w iv (ints im)) (hz : Row w.heap.size w sv (ints zs)) (hss : SRow w.heap.size w stv ss) (hwz : ∀ i, i < ss.length → (ss.getD i default).word.size ≤ maxLen) (hT : TabOk w) :
    Calls Tryd.prog 10 #[v, iv, .agg #[sv, .bool d], .int .i64 s, .int .i64 bud, stv] w fun e w' => e = .returned (.bool true) ∧ w.grownBy w' none := by
  have htl := h.len_le
  have hil := hi.len_le
  have hzl := hz.len_le
  have hsl := hss.len_le
  rw [ints_length] at hil hzl
  unfold maxLen at htl hil hzl hsl
  obtain ⟨w1, hw1⟩ : ∃ W, W = w.alloc (.cells #[sv, .bool d] 49) := ⟨_, rfl⟩
  have hg1 := World.grownBy_alloc w (.cells #[sv, .bool d] 49) none
  have hb1 := heap_alloc_new w (.cells #[sv, .bool d] 49)
  rw [← hw1] at hg1 hb1
  obtain ⟨o, ho⟩ : ∃ o, o = w.heap.size := ⟨_, rfl⟩
  rw [← ho] at hb1
  have R1 : Hid (RawSt w v iv sv stv t im zs d ss o w1) := Lib.hid ⟨h.kept hg1 (by simp), hi.kept hg1 (by simp), hz.kept hg1 (by simp), hss.kept hg1 (by simp), hb1, hT.kept hg1 (by simp), hg1⟩
  obtain ⟨tA, tC, rfl⟩ := h.shape
  obtain ⟨iA, iC, rfl⟩ := hi.shape
  obtain ⟨zA, zC, rfl⟩ := hz.shape
  obtain ⟨sA, sC, rfl⟩ := hss.shape
  simp only [ints_length] at R1 hw1 hb1 ⊢
  have HW1 := Lib.hid hw1; have HO := Lib.hid ho; have HWZ := Lib.hid hwz
  clear h hi hz hss hwz hT hw1 ho hg1 hb1
  go_enter Tryd.func10, Tryd.ntmps10
  go_upto_region 1 with fail
  rw [← HW1.out, ← HO.out]
  go_wp2_with fail
  refine (fewRows_any _ _ _ t R1.out.mat).mono ?_
  rintro e wq ⟨rfl, rfl⟩
  obtain ⟨zb0, zb1⟩ := box2_cells R1.out.box
  by_cases hf : fewRows t = false
  · rw [hf]
    go_wp2
    go_ret
    exact ⟨rfl, R1.out.grown⟩
  replace hf : fewRows t = true := by simpa using hf
  rw [hf]
  clear hf
  by_cases h1 : 14 < (t.length : Int)
  · go_wp2
    go_ret
    exact ⟨rfl, R1.out.grown⟩
  by_cases h2 : 10 < (im.length : Int)
  · go_wp2
    go_ret
    exact ⟨rfl, R1.out.grown⟩
  by_cases h3 : 20 < (zs.length : Int)
  · go_wp2
    go_ret
    exact ⟨rfl, R1.out.grown⟩
  by_cases h4 : 10 < (ss.length : Int)
  · go_wp2
    go_ret
    exact ⟨rfl, R1.out.grown⟩
  go_wp2
  go_loopg [56] ss.length (fun gh i wr => ∃ (k : Nat), gh + k = ss.length ∧ i = .int .i64 (k : Int) ∧ Hid (RawSt w (.slice tA t.length tC) (.slice iA im.length iC) (.slice zA zs.length zC) (.slice sA ss.length sC) t im zs d ss o wr))
  case atStart => exact ⟨0, rfl, rfl, R1⟩
  case round =>
    clear R1 zb0 zb1 h1 h2 h3
    obtain ⟨k, hgh, rfl, R⟩ := hrel
    have HGH := Lib.hid hgh
    clear hgh
    by_cases hk : k < ss.length
    · have hk' : (k : Int) < ss.length := by omega
      obtain ⟨gb, go_, gcap, ge, hgB, hgc, hgm, hso⟩ := R.out.ss.some_ (by omega)
      simp only [Value.slice.injEq] at ge
      obtain ⟨rfl, _, rfl⟩ := ge
      have hgm' : sC ≤ 9223372036854775807 := by unfold maxLen at hgm; omega
      have c0 := hso.op k hk
      have c1 := hso.a k hk
      have c2 := hso.b k hk
      have c3 := hso.word k hk
      have c4 := hso.set k hk
      obtain ⟨st, hst0⟩ : ∃ st, st = ss.getD k default := ⟨_, rfl⟩
      rw [← hst0] at c0 c1 c2 c3 c4
      have hws : st.word.size ≤ 9223372036854775807 := by have := HWZ.out k hk; rw [← hst0] at this; exact this
      clear hst0 hso hgm
      obtain ⟨wb, hwb⟩ : ∃ W, W = wr.alloc (.cells #[.int .i64 st.op, .int .i64 st.a, .int .i64 st.b, .string st.word, .int .i64 st.set] 60) := ⟨_, rfl⟩
      have hgb : wr.grownBy wb none := by rw [hwb]; exact World.grownBy_alloc wr _ none
      have hbb := heap_alloc_new wr (.cells #[.int .i64 st.op, .int .i64 st.a, .int .i64 st.b, .string st.word, .int .i64 st.set] 60)
      rw [← hwb] at hbb
      obtain ⟨ob, hob⟩ : ∃ o, o = wr.heap.size := ⟨_, rfl⟩
      rw [← hob] at hbb
      have HWB := Lib.hid hwb; have HOB := Lib.hid hob
      have RB := Lib.hid (R.out.step hgb)
      obtain ⟨b0, b1, b2, b3, b4⟩ := box5_cells hbb
      clear hwb hgb hbb hob
      go_upto_region 6 with fail
      rw [← HWB.out, ← HOB.out]
      clear c0 c1 c2 c3 c4
      by_cases hl : 40 < (st.word.size : Int)
      · go_wp2
        go_ret
        exact ⟨rfl, RB.out.grown⟩
      go_wp2
      go_roundg (ss.length - (k + 1))
      case measure => have := HGH.out; omega
      case rel => exact ⟨k + 1, by have := HGH.out; omega, by go_num, RB⟩
    · have hk' : ¬ (k : Int) < ss.length := by omega
      clear hk h4
      by_cases hq1 : 50 < bud
      case' pos => by_cases hq2 : bud ≤ 1048576
      all_goals (
      go_wp2_with fail
      refine (begin_any w.heap.size _ _ _ t im R.out.size R.out.mat R.out.im R.out.tab).mono ?_
      intro e w3 hb
      obtain ⟨a3, c3, rfl, hr3, hg3⟩ := hb.uni
      have R3 := Lib.hid (R.out.step hg3)
      obtain ⟨L, hL⟩ : ∃ L, L = beginF t im := ⟨_, rfl⟩
      obtain ⟨ce, hce⟩ : ∃ ce, ce = checkE t im := ⟨_, rfl⟩
      have HL := Lib.hid hL; have HCE := Lib.hid hce
      rw [← HL.out] at hr3
      rw [← HL.out, ← HCE.out]
      obtain ⟨w4, hw4⟩ : ∃ W, W = w3.alloc (.cells #[.slice a3 L.length c3, .bool false] 49) := ⟨_, rfl⟩
      have hgw4 := World.grownBy_alloc w3 (.cells #[.slice a3 L.length c3, .bool false] 49) none
      have hbw4 := heap_alloc_new w3 (.cells #[.slice a3 L.length c3, .bool false] 49)
      rw [← hw4] at hgw4 hbw4
      obtain ⟨o4, ho4⟩ : ∃ o, o = w3.heap.size := ⟨_, rfl⟩
      rw [← ho4] at hbw4
      have R4 := Lib.hid (R3.out.step hgw4); have HB4 := Lib.hid hbw4; have HR4 := Lib.hid ((hr3.kept hgw4 (by simp)).mono hgw4.size)
      have HW4 := Lib.hid hw4; have HO4 := Lib.hid ho4
      clear hb hr3 hg3 hL hce hw4 hgw4 hbw4 ho4 R
      go_upto_region 12 with fail
      rw [← HW4.out, ← HO4.out]
      go_wp2_with fail
      refine (rbegin_any w.heap.size w4 _ _ t im R4.out.size R4.out.mat R4.out.im).mono ?_
      intro e w5 hb
      obtain ⟨a5, c5, rfl, hr5, hg5⟩ := hb.uni
      rw [← HL.out] at hr5
      rw [← HL.out, ← HCE.out]
      have R5 := Lib.hid (R4.out.step hg5); have HB45 := Lib.hid (block_kept HB4.out hg5 (by simp)); have HR45 := Lib.hid ((HR4.out.kept hg5 (by simp)).mono hg5.size)
      obtain ⟨w6, hw6⟩ : ∃ W, W = w5.alloc (.cells #[.slice a5 L.length c5, .bool false] 49) := ⟨_, rfl⟩
      have hgw6 := World.grownBy_alloc w5 (.cells #[.slice a5 L.length c5, .bool false] 49) none
      have hbw6 := heap_alloc_new w5 (.cells #[.slice a5 L.length c5, .bool false] 49)
      rw [← hw6] at hgw6 hbw6
      obtain ⟨o6, ho6⟩ : ∃ o, o = w5.heap.size := ⟨_, rfl⟩
      rw [← ho6] at hbw6
      have R6 := Lib.hid (R5.out.step hgw6); have HB6 := Lib.hid hbw6; have HR6 := Lib.hid ((hr5.kept hgw6 (by simp)).mono hgw6.size)
      have HB46 := Lib.hid (block_kept HB45.out hgw6 (by simp)); have HR46 := Lib.hid ((HR45.out.kept hgw6 (by simp)).mono hgw6.size)
      have HW6 := Lib.hid hw6; have HO6 := Lib.hid ho6
      clear hb hr5 hg5 hw6 hgw6 hbw6 ho6 HB4 HR4 HB45 HR45 R3 R4 R5
      go_upto_region 13 with fail
      rw [← HW6.out, ← HO6.out]
      obtain ⟨zb0, zb1⟩ := box2_cells R6.out.box
      go_wp2_with fail
      refine (advance_any w.heap.size w6 _ _ _ t im zs d _ R6.out.size R6.out.mat R6.out.im R6.out.zs R6.out.tab).mono ?_
      intro e w7 hb
      obtain ⟨a7, c7, rfl, hr7, hg7⟩ := hb.uni
      clear hb zb0 zb1
      have R7 := Lib.hid (R6.out.step hg7)
      have HB47 := Lib.hid (block_kept HB46.out hg7 (by simp)); have HR47 := Lib.hid ((HR46.out.kept hg7 (by simp)).mono hg7.size)
      have HB67 := Lib.hid (block_kept HB6.out hg7 (by simp)); have HR67 := Lib.hid ((HR6.out.kept hg7 (by simp)).mono hg7.size)
      generalize hae : advE t im zs _ = ae at hr7 ⊢
      generalize haf : advF t im zs d _ = af at hr7 ⊢
      have HAE := Lib.hid hae; have HAF := Lib.hid haf
      obtain ⟨M, D⟩ := af
      dsimp only at hr7 ⊢
      obtain ⟨w8, hw8⟩ : ∃ W, W = w7.alloc (.cells #[.slice a7 M.length c7, .bool D] 49) := ⟨_, rfl⟩
      have hgw8 := World.grownBy_alloc w7 (.cells #[.slice a7 M.length c7, .bool D] 49) none
      have hbw8 := heap_alloc_new w7 (.cells #[.slice a7 M.length c7, .bool D] 49)
      rw [← hw8] at hgw8 hbw8
      obtain ⟨o8, ho8⟩ : ∃ o, o = w7.heap.size := ⟨_, rfl⟩
      rw [← ho8] at hbw8
      have R8 := Lib.hid (R7.out.step hgw8); have HB8 := Lib.hid hbw8; have HR8 := Lib.hid ((hr7.kept hgw8 (by simp)).mono hgw8.size)
      have HB48 := Lib.hid (block_kept HB47.out hgw8 (by simp)); have HR48 := Lib.hid ((HR47.out.kept hgw8 (by simp)).mono hgw8.size)
      have HB68 := Lib.hid (block_kept HB67.out hgw8 (by simp)); have HR68 := Lib.hid ((HR67.out.kept hgw8 (by simp)).mono hgw8.size)
      have HW8 := Lib.hid hw8; have HO8 := Lib.hid ho8
      clear hr7 hg7 hae haf hw8 hgw8 hbw8 ho8 HB46 HR46 HB6 HR6 HB47 HR47 HB67 HR67 R6 R7
      go_upto_region 14 with fail
      rw [← HW8.out, ← HO8.out]
      obtain ⟨zb0, zb1⟩ := box2_cells R8.out.box
      go_wp2_with fail
      refine (radvance_any w.heap.size w8 _ _ _ t im zs d _ R8.out.size R8.out.mat R8.out.im R8.out.zs).mono ?_
      intro e w9 hb
      obtain ⟨a9, c9, rfl, hr9, hg9⟩ := hb.uni
      clear hb zb0 zb1
      rw [HAE.out]
      rw [HAF.out] at hr9 ⊢
      dsimp only at hr9 ⊢
      have R9 := Lib.hid (R8.out.step hg9)
      have HB49 := Lib.hid (block_kept HB48.out hg9 (by simp)); have HR49 := Lib.hid ((HR48.out.kept hg9 (by simp)).mono hg9.size)
      have HB69 := Lib.hid (block_kept HB68.out hg9 (by simp)); have HR69 := Lib.hid ((HR68.out.kept hg9 (by simp)).mono hg9.size)
      have HB89 := Lib.hid (block_kept HB8.out hg9 (by simp)); have HR89 := Lib.hid ((HR8.out.kept hg9 (by simp)).mono hg9.size)
      obtain ⟨wA, hwA⟩ : ∃ W, W = w9.alloc (.cells #[.slice a9 M.length c9, .bool D] 49) := ⟨_, rfl⟩
      have hgwA := World.grownBy_alloc w9 (.cells #[.slice a9 M.length c9, .bool D] 49) none
      have hbwA := heap_alloc_new w9 (.cells #[.slice a9 M.length c9, .bool D] 49)
      rw [← hwA] at hgwA hbwA
      obtain ⟨oA, hoA⟩ : ∃ o, o = w9.heap.size := ⟨_, rfl⟩
      rw [← hoA] at hbwA
      have RA := Lib.hid (R9.out.step hgwA); have HBA := Lib.hid hbwA; have HRA := Lib.hid ((hr9.kept hgwA (by simp)).mono hgwA.size)
      have HB4A := Lib.hid (block_kept HB49.out hgwA (by simp)); have HR4A := Lib.hid ((HR49.out.kept hgwA (by simp)).mono hgwA.size)
      have HB6A := Lib.hid (block_kept HB69.out hgwA (by simp)); have HR6A := Lib.hid ((HR69.out.kept hgwA (by simp)).mono hgwA.size)
      have HB8A := Lib.hid (block_kept HB89.out hgwA (by simp)); have HR8A := Lib.hid ((HR89.out.kept hgwA (by simp)).mono hgwA.size)
      have HWA := Lib.hid hwA; have HOA := Lib.hid hoA
      clear hr9 hg9 hwA hgwA hbwA hoA HB48 HR48 HB68 HR68 HB8 HR8 HB49 HR49 HB69 HR69 HB89 HR89 R8 R9
      go_upto_region 15 with fail
      rw [← HWA.out, ← HOA.out]
      go_wp2_with fail
      refine (closure_any w.heap.size wA _ _ t im RA.out.size RA.out.mat RA.out.im RA.out.tab).mono ?_
      intro e wB hb
      obtain ⟨aB, cB, rfl, hrB, hgB⟩ := hb.uni
      clear hb
      obtain ⟨F, hF⟩ : ∃ F, F = closeF t im := ⟨_, rfl⟩
      have HF := Lib.hid hF
      rw [← HF.out] at hrB
      rw [← HF.out, ← HCE.out]
      have RB := Lib.hid (RA.out.step hgB); have HRB := Lib.hid hrB
      have HB4B := Lib.hid (block_kept HB4A.out hgB (by simp)); have HR4B := Lib.hid ((HR4A.out.kept hgB (by simp)).mono hgB.size)
      have HB6B := Lib.hid (block_kept HB6A.out hgB (by simp)); have HR6B := Lib.hid ((HR6A.out.kept hgB (by simp)).mono hgB.size)
      have HB8B := Lib.hid (block_kept HB8A.out hgB (by simp)); have HR8B := Lib.hid ((HR8A.out.kept hgB (by simp)).mono hgB.size)
      have HBAB := Lib.hid (block_kept HBA.out hgB (by simp)); have HRAB := Lib.hid ((HRA.out.kept hgB (by simp)).mono hgB.size)
      clear hF hrB hgB HB4A HR4A HB6A HR6A HB8A HR8A HBA HRA RA
      go_wp2_with fail
      refine (rclosure_any w.heap.size wB _ _ t im RB.out.size RB.out.mat RB.out.im).mono ?_
      intro e wC hb
      obtain ⟨aC, cC, rfl, hrC, hgC⟩ := hb.uni
      clear hb
      rw [← HF.out] at hrC
      rw [← HF.out, ← HCE.out]
      have RC := Lib.hid (RB.out.step hgC); have HRC := Lib.hid hrC; have HRBC := Lib.hid ((HRB.out.kept hgC (by simp)).mono hgC.size)
      have HB4C := Lib.hid (block_kept HB4B.out hgC (by simp)); have HR4C := Lib.hid ((HR4B.out.kept hgC (by simp)).mono hgC.size)
      have HB6C := Lib.hid (block_kept HB6B.out hgC (by simp)); have HR6C := Lib.hid ((HR6B.out.kept hgC (by simp)).mono hgC.size)
      have HB8C := Lib.hid (block_kept HB8B.out hgC (by simp)); have HR8C := Lib.hid ((HR8B.out.kept hgC (by simp)).mono hgC.size)
      have HBAC := Lib.hid (block_kept HBAB.out hgC (by simp)); have HRAC := Lib.hid ((HRAB.out.kept hgC (by simp)).mono hgC.size)
      clear hrC hgC HB4B HR4B HB6B HR6B HB8B HR8B HBAB HRAB HRB RB
      have e1 : (ce != ce) = false := by simp
      have e2 : (ae != ae) = false := by simp
      obtain ⟨x0, x1⟩ := box2_cells HB4C.out
      obtain ⟨y0, y1⟩ := box2_cells HB6C.out
      go_wp2_with fail
      refine (lawsame_same wC wC.heap.size wC.heap.size _ _ L false (Nat.le_refl _) (Nat.le_refl _) HR4C.out HR6C.out).mono ?_
      rintro e wD ⟨rfl, hgD⟩
      have RD := Lib.hid (RC.out.step hgD); have HRBD := Lib.hid ((HRBC.out.kept hgD (by simp)).mono hgD.size); have HRCD := Lib.hid ((HRC.out.kept hgD (by simp)).mono hgD.size)
      have HB8D := Lib.hid (block_kept HB8C.out hgD (by simp)); have HR8D := Lib.hid ((HR8C.out.kept hgD (by simp)).mono hgD.size)
      have HBAD := Lib.hid (block_kept HBAC.out hgD (by simp)); have HRAD := Lib.hid ((HRAC.out.kept hgD (by simp)).mono hgD.size)
      clear x0 x1 y0 y1 hgD RC HB4C HR4C HB6C HR6C HB8C HR8C HBAC HRAC HRBC HRC
      obtain ⟨x0, x1⟩ := box2_cells HB8D.out
      obtain ⟨y0, y1⟩ := box2_cells HBAD.out
      go_wp2_with fail
      refine (lawsame_same wD wD.heap.size wD.heap.size _ _ M D (Nat.le_refl _) (Nat.le_refl _) HR8D.out HRAD.out).mono ?_
      rintro e wE ⟨rfl, hgE⟩
      have RE := Lib.hid (RD.out.step hgE); have HRBE := Lib.hid ((HRBD.out.kept hgE (by simp)).mono hgE.size); have HRCE := Lib.hid ((HRCD.out.kept hgE (by simp)).mono hgE.size)
      clear x0 x1 y0 y1 hgE RD HB8D HR8D HBAD HRAD HRBD HRCD e2
      go_wp2_with fail
      refine (same03_any wE.heap.size wE.heap.size wE _ _ (F.map fun (x : Nat) => (x : Int)) (F.map fun (x : Nat) => (x : Int)) (by rw [← nats_ints]; exact HRBE.out) (by rw [← nats_ints]; exact HRCE.out)).mono ?_
      rintro e wF ⟨rfl, mm, rfl⟩
      rw [decide_eq_true rfl]
      have RF := Lib.hid (RE.out.step (grownBy_drewN wE mm none))
      clear RE HRBE HRCE e1
      obtain ⟨wF, hwF⟩ : ∃ W, W = wE.drewN mm := ⟨_, rfl⟩
      rw [← hwF] at RF ⊢
      clear hwF
      go_wp2_with fail
      refine (derive_any w.heap.size wF _ _ t im s RF.out.size RF.out.mat RF.out.im RF.out.tab).mono ?_
      intro e wG hb
      obtain ⟨aG, nG, cG, rfl, hgG⟩ := hb.uni
      have RG := Lib.hid (RF.out.step hgG)
      clear hb hgG RF
      obtain ⟨de, hde⟩ : ∃ de, de = derE t im s := ⟨_, rfl⟩
      have HDE := Lib.hid hde
      rw [← HDE.out]
      clear hde
      go_wp2_with fail
      refine (derives_any w.heap.size wG _ _ t im s RG.out.size RG.out.mat RG.out.im).mono ?_
      rintro e wH ⟨rfl, hgH⟩
      have RH := Lib.hid (RG.out.step hgH)
      rw [← HDE.out]
      have e1 : (de != de) = false := by simp
      clear hgH RG
      obtain ⟨b1, hb1⟩ : ∃ b, b = derB t im ss := ⟨_, rfl⟩
      obtain ⟨b2, hb2⟩ : ∃ b, b = clB t im zs := ⟨_, rfl⟩
      obtain ⟨x3, hx3⟩ : ∃ x, x = omegaP t s := ⟨_, rfl⟩
      have f1 : (b1 == b1) = true := by simp
      have f2 : (b2 == b2) = true := by simp
      have f3 : (x3 == x3) = true := by simp
      have HC1 : Hid (∀ W, wH.grownBy W none → Calls Tryd.prog 35 #[.slice tA t.length tC, .slice iA im.length iC, .slice sA ss.length sC] W fun e w' => e = .returned (.bool b1) ∧ wH.grownBy w' none) := Lib.hid (fun W hW => (checkD_any w.heap.size W _ _ _ t im ss (RH.out.step hW).size (RH.out.step hW).mat (RH.out.step hW).im (RH.out.step hW).ss HWZ.out (RH.out.step hW).tab).mono fun e w' ⟨h1, h2⟩ => ⟨by rw [h1, hb1], grownBy_trans' hW h2⟩)
      have HC2 : Hid (∀ W, wH.grownBy W none → Calls Tryd.prog 38 #[.slice tA t.length tC, .slice iA im.length iC, .slice sA ss.length sC] W fun e w' => e = .returned (.bool b1) ∧ wH.grownBy w' none) := Lib.hid (fun W hW => (rcheckD_any w.heap.size W _ _ _ t im ss (RH.out.step hW).size (RH.out.step hW).mat (RH.out.step hW).im (RH.out.step hW).ss HWZ.out).mono fun e w' ⟨h1, h2⟩ => ⟨by rw [h1, hb1], grownBy_trans' hW h2⟩)
      have HC3 : Hid (∀ W, wH.grownBy W none → Calls Tryd.prog 39 #[.slice tA t.length tC, .slice iA im.length iC, .slice zA zs.length zC] W fun e w' => e = .returned (.bool b2) ∧ wH.grownBy w' none) := Lib.hid (fun W hW => (pcclosed_any w.heap.size W _ _ _ t im zs (RH.out.step hW).size (RH.out.step hW).mat (RH.out.step hW).im (RH.out.step hW).zs (RH.out.step hW).tab).mono fun e w' ⟨h1, h2⟩ => ⟨by rw [h1, hb2], grownBy_trans' hW h2⟩)
      have HC4 : Hid (∀ W, wH.grownBy W none → Calls Tryd.prog 40 #[.slice tA t.length tC, .slice iA im.length iC, .slice zA zs.length zC] W fun e w' => e = .returned (.bool b2) ∧ wH.grownBy w' none) := Lib.hid (fun W hW => (rcclosed_any w.heap.size W _ _ _ t im zs (RH.out.step hW).size (RH.out.step hW).mat (RH.out.step hW).im (RH.out.step hW).zs).mono fun e w' ⟨h1, h2⟩ => ⟨by rw [h1, hb2], grownBy_trans' hW h2⟩)
      have HC5 : Hid (∀ W, wH.grownBy W none → Calls Tryd.prog 22 #[.slice tA t.length tC, .int .i64 s] W fun e w' => e = .returned (.int .i64 x3) ∧ wH.grownBy w' none) := Lib.hid (fun W hW => (pomega_any w.heap.size W _ t s (RH.out.step hW).size (RH.out.step hW).mat (RH.out.step hW).tab).mono fun e w' ⟨h1, h2⟩ => ⟨by rw [h1, hx3], grownBy_trans' hW h2⟩)
      have HC6 : Hid (∀ W, wH.grownBy W none → Calls Tryd.prog 23 #[.slice tA t.length tC, .int .i64 s] W fun e w' => e = .returned (.int .i64 x3) ∧ wH.grownBy w' none) := Lib.hid (fun W hW => (romega_any w.heap.size W _ t s (RH.out.step hW).size (RH.out.step hW).mat).mono fun e w' ⟨h1, h2⟩ => ⟨by rw [h1, hx3], grownBy_trans' hW h2⟩)
      have HC7 : Hid (∀ W, wH.grownBy W none → Calls Tryd.prog 17 #[] W fun e w' => e = .returned (.bool true) ∧ wH.grownBy w' none) := Lib.hid (fun W hW => (known40_any W (RH.out.step hW).tab).mono fun e w' ⟨h1, h2⟩ => ⟨h1, grownBy_trans' hW h2⟩)
      have HCB : Hid (∀ W, wH.grownBy W none → W.cell? ⟨o, 0, none⟩ = some (.slice zA zs.length zC)) := Lib.hid (fun W hW => (box2_cells (RH.out.step hW).box).1)
      have zb0 := HCB.out wH (grownBy_refl wH none)
      have zb0' := HCB.out wH.drew (grownBy_drew wH none)
      have GA : wH.grownBy wH.drew none := grownBy_drew wH none
      have HGH := Lib.hid RH.out.grown
      clear hb1 hb2 hx3 RH
      go_upto_region 23 with fail
      go_region_held3 (fun w' => w'.cell? ⟨o, 0, none⟩ = some (.slice zA zs.length zC))
        (first | exact zb0 | exact zb0' | go_keep | exact HCB.out _ G1 | exact HCB.out _ G2 | exact HCB.out _ G3 | exact HCB.out _ G4 | exact HCB.out _ G5 | exact HCB.out _ G6 | exact HCB.out _ G7 | fail)
        (first | (go_at_call 35; (with_reducible refine (HC1.out _ GA).mono ?_); rintro e u1 ⟨rfl, G1⟩) | (go_at_call 38; (with_reducible refine (HC2.out _ G1).mono ?_); rintro e u2 ⟨rfl, G2⟩) | (go_at_call 39; (with_reducible refine (HC3.out _ G2).mono ?_); rintro e u3 ⟨rfl, G3⟩) | (go_at_call 40; (with_reducible refine (HC4.out _ G3).mono ?_); rintro e u4 ⟨rfl, G4⟩) | (go_at_call 22; (with_reducible refine (HC5.out _ G4).mono ?_); rintro e u5 ⟨rfl, G5⟩) | (go_at_call 23; (with_reducible refine (HC6.out _ G5).mono ?_); rintro e u6 ⟨rfl, G6⟩) | (go_at_call 17; (with_reducible refine (HC7.out _ G6).mono ?_); rintro e u7 ⟨rfl, G7⟩) | fail)
      go_wp2
      go_ret
      exact ⟨rfl, grown_far HGH.out G7 (by simp)⟩)
end Go.Proofs.YtdjhoadoiknaoaaDoor
namespace Go.Proofs.YtdjhoadoiknaoaaDoor
open Go.RowKit Go.ChangeShapes Go.WideShapes Go.Deep
section
variable {H : Type} {enc : TypeId × Value → H} {w : World} {fuel : Nat} {cs : List Value} {x : DataW H × List MemPlace}
theorem open_row {t e : TypeId} {k : IntKind} {base : Nat} {held : Bool} {P : Program} (ht : P.underlying t = some (.slice e)) (he : P.underlying e = some (.int k)) (hc : P.cellsOf e = 1) (h : DataW.trod enc P w base (fun _ => true) held fuel t cs = some x) :
    ∃ (v : Value) (zs : List Int), cs = [v] ∧ Row w.heap.size w v (zs.map (Value.int k)) := by
  rcases open_ints ht he hc h with ⟨hcs, _⟩ | ⟨a, l, c, zs, hcs, _, hl, hm, hz, _, hcell, hwz⟩
  · exact ⟨_, [], hcs, .inl ⟨_, _, rfl, rfl⟩⟩
  · exact ⟨_, zs.take l, hcs, Row.of_arg (.inr ⟨a, rfl, hl, hm, by simpa using hz, hcell, hwz⟩)⟩
theorem open_mat {t e q : TypeId} {base : Nat} {held : Bool} {P : Program} (ht : P.underlying t = some (.slice e)) (he : P.underlying e = some (.slice q)) (hq : P.underlying q = some (.int .i64)) (ce : P.cellsOf e = 1) (cq : P.cellsOf q = 1) (h : DataW.trod enc P w base (fun _ => true) held fuel t cs = some x) :
    ∃ (v : Value) (m : List (List Int)), cs = [v] ∧ Mat w.heap.size w v m := by
  rcases open_int_rows ht he hq ce cq h with ⟨hcs, _⟩ | ⟨a, len, cap, A, L, C, Z, hcs, _, hl, hm, _, hall⟩
  · exact ⟨_, [], hcs, .inl ⟨_, _, rfl, rfl⟩⟩
  · by_cases h0 : len = 0
    · subst h0
      exact ⟨_, [], hcs, .inl ⟨_, _, rfl, rfl⟩⟩
    obtain ⟨b, off, spot⟩ := a
    have hc0 := (hall 0 (by omega)).1
    have hspot : spot = none := by simpa [Addr.add] using World.cell?_spot hc0
    subst hspot
    have hadd : ∀ i, (⟨b, off, none⟩ : Addr).add i = ⟨b, off + i, none⟩ := fun i => by unfold Addr.add; split <;> simp_all
    have hlen : ∀ r, r < len → ((List.range len).map fun r => (Z r).take (L r)).getD r [] = (Z r).take (L r) := fun r hr => by
      rw [List.getD_eq_getElem?_getD, List.getElem?_map, List.getElem?_range hr]; rfl
    have hll : ((List.range len).map fun r => (Z r).take (L r)).length = len := by simp
    have hL : ∀ r, r < len → ((Z r).take (L r)).length = L r := fun r hr => by
      obtain ⟨_, h1, _, h2, _⟩ := hall r (by omega)
      rw [List.length_take]; omega
    have hb : b < w.heap.size := World.block_lt_of_cell? w _ hc0
    refine ⟨_, (List.range len).map fun r => (Z r).take (L r), hcs, .inr ⟨b, off, cap, A, C, by rw [hll], by rw [hll]; exact hl, hm, hb, hb, fun r hr => ?_, fun r hr => ?_⟩⟩
    · rw [hll] at hr
      rw [hlen r hr, hL r hr, ← hadd]
      exact (hall r (by omega)).1
    · rw [hll] at hr
      obtain ⟨_, h1, h2, h3, h4, h5, h6⟩ := hall r (by omega)
      rw [hlen r hr, hL r hr]
      cases hA : A r with
      | none =>
        have hC := h5 hA
        have : L r = 0 := by omega
        rw [this]
        exact .inl ⟨_, _, rfl, rfl⟩
      | some a' =>
        exact Row.of_arg (.inr ⟨a', rfl, h1, h2, h3, fun i hi => (h6 a' hA).2 i (by omega), h4⟩)
set_option maxRecDepth 100000 in
theorem trod_fam {held : Bool} (h : DataW.trod enc Tryd.prog w 0 (fun _ => true) held fuel 49 cs = some x) : ∃ (sv : Value) (zs : List Int) (d : Bool), cs = [sv, .bool d] ∧ Row w.heap.size w sv (zs.map (Value.int .i64)) := by
  obtain ⟨y0, y1, n, _, hl, h0, h1⟩ := trod_struct2 Tryd.underlying49 h
  have c0 : Tryd.prog.cellsOf 22 = 1 := by kernel_rfl
  have c1 : Tryd.prog.cellsOf 4 = 1 := by kernel_rfl
  have hl2 : cs.length = 2 := hl.trans (by kernel_rfl)
  match cs, hl2 with
  | [a, b], _ =>
    simp only [c0, c1] at h0 h1
    simp at h0 h1
    obtain ⟨v, zs, hv, hr⟩ := open_row Tryd.underlying22 Tryd.underlying3 (by kernel_rfl) h0
    obtain ⟨d, hd, _⟩ := DataW.trod_bool Tryd.underlying4 h1
    simp at hv hd
    subst hv hd
    exact ⟨a, zs, d, rfl, hr⟩
set_option maxRecDepth 100000 in
theorem trod_step {held : Bool} (h : DataW.trod enc Tryd.prog w 0 (fun _ => true) held fuel 60 cs = some x) : ∃ st : StepV, cs = st.vals ∧ st.word.size ≤ maxLen := by
  obtain ⟨xs, n, _, _, hl, hlen, hf⟩ := DataW.trod_struct Tryd.underlying60 h
  have c0 : Tryd.prog.cellsOf 3 = 1 := by kernel_rfl
  have c3 : Tryd.prog.cellsOf 9 = 1 := by kernel_rfl
  have hl5 : cs.length = 5 := hl.trans (by kernel_rfl)
  have key : ∀ i, i < 5 → ∃ y, xs[i]? = some y := fun i hi => ⟨xs[i]'(by simp at hlen; omega), List.getElem?_eq_getElem _⟩
  match cs, hl5 with
  | [a, b, c, d, e], _ =>
    obtain ⟨y0, e0⟩ := key 0 (by omega)
    obtain ⟨y1, e1⟩ := key 1 (by omega)
    obtain ⟨y2, e2⟩ := key 2 (by omega)
    obtain ⟨y3, e3⟩ := key 3 (by omega)
    obtain ⟨y4, e4⟩ := key 4 (by omega)
    have f0 := (hf 0 _ rfl).trans e0
    have f1 := (hf 1 _ rfl).trans e1
    have f2 := (hf 2 _ rfl).trans e2
    have f3 := (hf 3 _ rfl).trans e3
    have f4 := (hf 4 _ rfl).trans e4
    simp [c0, c3] at f0 f1 f2 f3 f4
    obtain ⟨z0, g0, _⟩ := DataW.trod_int Tryd.underlying3 f0
    obtain ⟨z1, g1, _⟩ := DataW.trod_int Tryd.underlying3 f1
    obtain ⟨z2, g2, _⟩ := DataW.trod_int Tryd.underlying3 f2
    obtain ⟨s3, g3, _, hs⟩ := DataW.trod_string Tryd.underlying9 f3
    obtain ⟨z4, g4, _⟩ := DataW.trod_int Tryd.underlying3 f4
    simp at g0 g1 g2 g3 g4
    subst g0 g1 g2 g3 g4
    exact ⟨⟨z0, z1, z2, s3, z4⟩, rfl, hs⟩
set_option maxRecDepth 100000 in
theorem open_steps {held : Bool} (h : DataW.trod enc Tryd.prog w 0 (fun _ => true) held fuel 56 cs = some x) : ∃ (v : Value) (ss : List StepV), cs = [v] ∧ SRow w.heap.size w v ss ∧ ∀ i, i < ss.length → (ss.getD i default).word.size ≤ maxLen := by
  rcases open_slice Tryd.underlying56 h with ⟨hcs, _⟩ | ⟨a, len, cap, m, n, D, Pl, hcs, _, hl, hm, hmm, _, hall⟩
  · exact ⟨_, [], hcs, .inl ⟨_, _, rfl, rfl⟩, fun i hi => absurd hi (by simp)⟩
  · by_cases h0 : len = 0
    · subst h0
      exact ⟨_, [], hcs, .inl ⟨_, _, rfl, rfl⟩, fun i hi => absurd hi (by simp)⟩
    simp only [if_true] at hmm
    subst hmm
    have c5 : Tryd.prog.cellsOf 60 = 5 := by kernel_rfl
    rw [c5] at hall
    have each : ∀ i, i < m → ∃ st : StepV, w.cells? 0 (a.add (i * 5)) 5 = some st.vals ∧ st.word.size ≤ maxLen := fun i hi => by
      obtain ⟨cs', h1, h2⟩ := hall i hi
      obtain ⟨st, rfl, hs⟩ := trod_step h2
      exact ⟨st, h1, hs⟩
    obtain ⟨S, hS⟩ := choose_lt each
    obtain ⟨b, off, spot⟩ := a
    have hcell : ∀ i, i < m → ∀ c, c < 5 → w.cell? (((⟨b, off, spot⟩ : Addr).add (i * 5)).add c) = (S i).vals[c]? := fun i hi c hc => (World.cells?_some (hS i hi).1).2.2 c hc
    have hc0 : w.cell? ((⟨b, off, spot⟩ : Addr).add 0) = some (.int .i64 (S 0).op) := by simpa [Addr.add, StepV.vals] using hcell 0 (by omega) 0 (by omega)
    have hspot : spot = none := by simpa [Addr.add] using World.cell?_spot hc0
    subst hspot
    have hadd : ∀ o i, (⟨b, o, none⟩ : Addr).add i = ⟨b, o + i, none⟩ := fun o i => by unfold Addr.add; split <;> simp_all
    simp only [hadd] at hcell
    have hg : ∀ i, i < len → ((List.range len).map S).getD i default = S i := fun i hi => by
      rw [List.getD_eq_getElem?_getD, List.getElem?_map, List.getElem?_range hi]; rfl
    have hll : ((List.range len).map S).length = len := by simp
    have hb : b < w.heap.size := World.block_lt_of_cell? w _ (by rw [hadd] at hc0; exact hc0)
    refine ⟨_, (List.range len).map S, hcs, .inr ⟨b, off, m, by rw [hll], hb, by rw [hll]; exact hl, hm, hb, fun i hi => ?_, fun i hi => ?_, fun i hi => ?_, fun i hi => ?_, fun i hi => ?_⟩, fun i hi => ?_⟩
    all_goals (rw [hll] at hi; rw [hg i hi])
    · exact hcell i (by omega) 0 (by omega)
    · exact hcell i (by omega) 1 (by omega)
    · exact hcell i (by omega) 2 (by omega)
    · exact hcell i (by omega) 3 (by omega)
    · exact hcell i (by omega) 4 (by omega)
    · exact (hS i (by omega)).2
end
end Go.Proofs.YtdjhoadoiknaoaaDoor
namespace Go.Proofs.YtdjhoadoiknaoaaDoor
open Go.RowKit
def laidTabs : List (String × DataW Unit) := [("math/bits.deBruijn32tab", Rows.laid_math_bits_deBruijn32tab), ("math/bits.deBruijn64tab", Rows.laid_math_bits_deBruijn64tab)]
theorem tabOk_of_laid {W : World} (h : laidMetH Tryd.prog laidTabs W) : TabOk W := by
  rw [MakeChecks.laidMetH_plain _ _ _ (by kernel_rfl)] at h
  obtain ⟨ps, ⟨g0, t0, cs0, f0, p0, q0, hg0, ht0, hv0, hd0, ⟨g1, t1, cs1, f1, p1, q1, hg1, ht1, hv1, hd1, _, _⟩, _⟩, _, _⟩ := h
  have e1 : Tryd.prog.globalNamed "math/bits.deBruijn64tab" = some 1 := by kernel_rfl
  obtain rfl := Option.some.inj (e1.symm.trans hg1)
  have e2 : (Tryd.prog.globals[1]?).map (·.type) = some 143 := by kernel_rfl
  obtain rfl := Option.some.inj (e2.symm.trans ht1)
  have hc := Lib.cells_of_tab (k := .u8) (zs := Lib.deBruijn64tab.map fun (x : Nat) => (x : Int)) (n := 64) (e := 5) (by kernel_rfl) (by kernel_rfl) (by kernel_rfl) (by kernel_rfl) hd1
  have hti : Lib.TabIs Tryd.prog W "math/bits.deBruijn64tab" .u8 (Lib.deBruijn64tab.map fun (x : Nat) => (x : Int)) := by
    unfold Lib.TabIs
    rw [hv1, ← hc]
  have hcell : ∀ i, i < Lib.deBruijn64tab.length → W.cell? ⟨1, i, none⟩ = some (.int .u8 (Lib.deBruijn64tab.getD i 0)) := fun i hi => by
    have := hti.cell e1 i (by rw [List.length_map]; exact hi)
    rw [this]
    simp [List.getD, List.getElem?_eq_getElem hi]
  exact ⟨World.block_lt_of_cell? W _ (hcell 0 (by decide)), hcell⟩
end Go.Proofs.YtdjhoadoiknaoaaDoor
