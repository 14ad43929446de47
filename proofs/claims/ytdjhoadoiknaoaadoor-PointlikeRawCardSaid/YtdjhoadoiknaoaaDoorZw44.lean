/- Part 44 of the proof: CClosed. -/
import Derived.Test.YtdjhoadoiknaoaaDoorZw43
set_option linter.unusedVariables false
set_option linter.unusedSimpArgs false
namespace Go.Proofs.YtdjhoadoiknaoaaDoor
open Go.RowKit
def clN (t : List (List Int)) (im : List Int) (l : List Nat) : Bool := (genL t im).all (under l) && l.all fun a => (l.all fun b => under l (prodSet t.length (entN t) a b)) && under l (omegaSet t.length (entN t) a)
noncomputable def clB (t : List (List Int)) (im zs : List Int) : Bool := decide (checkE t im = 0) && (zs.all (setB t.length) && clN t im (natL zs))
theorem ints_intL (l : List Nat) : ints (intL l) = nats l := by simp [ints, intL, nats]
section
variable {t : List (List Int)} {im zs : List Int}
theorem clB_check (h : checkE t im ≠ 0) : clB t im zs = false := by simp [clB, h]
theorem clB_set {k : Nat} (hk : k < zs.length) (h : setB t.length (zs.getD k 0) = false) : clB t im zs = false := by
  have : zs.all (setB t.length) = false := List.all_eq_false.2 ⟨zs.getD k 0, getDm hk, by rw [h]; simp⟩
  simp [clB, this]
theorem clN_gen {l : List Nat} {s : Nat} (hs : s ∈ genL t im) (h : under l s = false) : clN t im l = false := by
  have : (genL t im).all (under l) = false := List.all_eq_false.2 ⟨s, hs, by rw [h]; simp⟩
  simp [clN, this]
theorem clN_prod {l : List Nat} {a b : Nat} (ha : a ∈ l) (hb : b ∈ l) (h : under l (prodSet t.length (entN t) a b) = false) : clN t im l = false := by
  have h1 : (l.all fun b => under l (prodSet t.length (entN t) a b)) = false := List.all_eq_false.2 ⟨b, hb, by rw [h]; simp⟩
  have h2 : (l.all fun a => (l.all fun b => under l (prodSet t.length (entN t) a b)) && under l (omegaSet t.length (entN t) a)) = false := List.all_eq_false.2 ⟨a, ha, by rw [h1]; simp⟩
  simp [clN, h2]
theorem clN_om {l : List Nat} {a : Nat} (ha : a ∈ l) (h : under l (omegaSet t.length (entN t) a) = false) : clN t im l = false := by
  have h2 : (l.all fun a => (l.all fun b => under l (prodSet t.length (entN t) a b)) && under l (omegaSet t.length (entN t) a)) = false := List.all_eq_false.2 ⟨a, ha, by rw [h]; simp⟩
  simp [clN, h2]
theorem clN_yes {l : List Nat} (hg : ∀ s ∈ genL t im, under l s = true) (hp : ∀ a ∈ l, ∀ b ∈ l, under l (prodSet t.length (entN t) a b) = true) (ho : ∀ a ∈ l, under l (omegaSet t.length (entN t) a) = true) : clN t im l = true := by
  unfold clN
  rw [Bool.and_eq_true, List.all_eq_true, List.all_eq_true]
  refine ⟨hg, fun a ha => ?_⟩
  rw [Bool.and_eq_true, List.all_eq_true]
  exact ⟨fun b hb => hp a ha b hb, ho a ha⟩
theorem clB_eq (h : checkE t im = 0) (hs : ∀ k, k < zs.length → setB t.length (zs.getD k 0) = true) : clB t im zs = clN t im (natL zs) := by
  have : zs.all (setB t.length) = true := List.all_eq_true.2 fun z hz => by
    obtain ⟨i, hi, rfl⟩ := List.getElem_of_mem hz
    have := hs i hi
    rwa [getD_eq hi] at this
  simp [clB, h, this]
theorem clN_max {l : List Nat} (ht : Tb t.length (entN t)) (hl : ∀ b ∈ l, b < 2 ^ t.length) (hg : ∀ s ∈ genL t im, under l s = true) (hp : ∀ a ∈ maxOf t.length l, ∀ b ∈ maxOf t.length l, under l (prodSet t.length (entN t) a b) = true) (ho : ∀ a ∈ maxOf t.length l, under l (omegaSet t.length (entN t) a) = true) : clN t im l = true := by
  have up : ∀ a ∈ l, ∃ x ∈ maxOf t.length l, a &&& x = a := fun a ha => exists_max hl _ a (Nat.le_refl _) ha
  refine clN_yes hg (fun a ha b hb => ?_) (fun a ha => ?_)
  · obtain ⟨x, hx, hax⟩ := up a ha
    obtain ⟨y, hy, hby⟩ := up b hb
    obtain ⟨c, hc, e⟩ := under_iff.1 (hp x hx y hy)
    exact under_iff.2 ⟨c, hc, sub_trans (prodSet_mono hax hby) e⟩
  · obtain ⟨x, hx, hax⟩ := up a ha
    have hxl := hl x (maxOf_sub hl hx)
    obtain ⟨c, hc, e⟩ := under_iff.1 (ho x hx)
    exact under_iff.2 ⟨c, hc, sub_trans (omegaSet_mono ht (sub_lt hax hxl) hxl hax) e⟩
theorem sets_nat {n : Nat} (h : ∀ k, k < zs.length → setB n (zs.getD k 0) = true) : ints zs = nats (natL zs) ∧ ∀ b ∈ natL zs, b < 2 ^ n := by
  have key : ∀ z ∈ zs, 0 ≤ z ∧ z < ((2 ^ n : Nat) : Int) := fun z hz => by
    obtain ⟨i, hi, rfl⟩ := List.getElem_of_mem hz
    have := h i hi
    rw [getD_eq hi] at this
    have e : ((2 ^ n : Nat) : Int) = (2 : Int) ^ n := by rw [Int.natCast_pow]; rfl
    simp only [setB, decide_eq_true_eq] at this
    rw [e]; exact this
  refine ⟨?_, fun b hb => ?_⟩
  · simp only [ints, nats, natL, List.map_map]
    refine List.map_congr_left fun z hz => ?_
    have := key z hz
    simp only [Function.comp]
    rw [Int.toNat_of_nonneg this.1]
  · obtain ⟨z, hz, rfl⟩ := List.mem_map.1 hb
    have := key z hz
    omega
end
set_option maxRecDepth 100000 in
set_option maxHeartbeats 1000000 in
theorem rcclosed_any (B : Nat) (w : World) (v iv sv : Value) (t : List (List Int)) (im zs : List Int) (hB : B ≤ w.heap.size) (h : Mat B w v t) (hi : Row B w iv (ints im)) (hs : Row B w sv (ints zs)) :
    Calls Tryd.prog 40 #[v, iv, sv] w fun e w' => e = .returned (.bool (clB t im zs)) ∧ w.grownBy w' none := by
  have hzl := hs.len_le
  rw [ints_length] at hzl
  unfold maxLen at hzl
  have HM := Lib.hid (may_any B w v iv t im h hi)
  have H := Lib.hid h; have HI := Lib.hid hi; have HS := Lib.hid hs
  obtain ⟨ta, tc, rfl⟩ := h.shape
  obtain ⟨ia, ic, rfl⟩ := hi.shape
  obtain ⟨sa, sc, rfl⟩ := hs.shape
  rw [ints_length] at HM HI HS ⊢
  rw [ints_length]
  clear h hi hs
  go_enter Tryd.func40, Tryd.ntmps40
  go_wp2_with fail
  refine HM.out.mono ?_
  rintro e w1 ⟨rfl, m, rfl⟩
  have HG1 := Lib.hid (grownBy_drewN w m none)
  by_cases hz : checkE t im ≠ 0
  · have HD := Lib.hid (clB_check (zs := zs) hz)
    obtain ⟨E, hE⟩ : ∃ E, E = checkE t im := ⟨_, rfl⟩
    rw [← hE] at hz ⊢
    have e1 : (E != 0) = true := by rw [bne_iff_ne]; exact hz
    clear hE hz
    go_wp2
    go_ret
    exact ⟨ret_bool HD.out.symm, HG1.out⟩
  replace hz : checkE t im = 0 := by omega
  rw [hz]
  have hgd := checkE_good.1 hz
  have hle := hgd.le
  have HZ := Lib.hid hz; have HGD := Lib.hid hgd; have HTB := Lib.hid (tb_of hgd.valid); have HSH := Lib.hid (valid_of hgd.valid).1; have HVA := Lib.hid hgd.valid
  have hwl := hB
  clear hz hgd
  obtain ⟨wk, hwk⟩ : ∃ wk : World, wk = w.drewN m := ⟨_, rfl⟩
  rw [← hwk]
  have HK := Lib.hid ((H.out.kept (grownBy_drewN w m none) (by simp))); have HIK := Lib.hid ((HI.out.kept (grownBy_drewN w m none) (by simp))); have HSK := Lib.hid ((HS.out.kept (grownBy_drewN w m none) (by simp)))
  rw [← hwk] at HK HIK HSK HG1
  have hwz : w.heap.size ≤ wk.heap.size := HG1.out.size
  clear hwk
  go_wp2_with fail
  go_loopg [21] zs.length (fun gh i wr => wk = wr ∧ ∃ k : Nat, gh + k = zs.length ∧ i = .int .i64 (k : Int) ∧ Hid (∀ j, j < k → setB t.length (zs.getD j 0) = true))
  case atStart => exact ⟨rfl, 0, rfl, rfl, Lib.hid (fun j hj => absurd hj (by omega))⟩
  case round =>
    obtain ⟨rfl, k, hgh, rfl, HP⟩ := hrel
    have HGH := Lib.hid hgh
    clear hgh
    by_cases hk : k < zs.length
    · have hk' : (k : Int) < zs.length := by omega
      obtain ⟨kb, off, cap, ek, hkB, hk1, hk2, hkr⟩ := HSK.out.some_ (by rw [ints_length]; omega)
      rw [ints_length] at ek
      simp only [Value.slice.injEq] at ek
      obtain ⟨rfl, _, rfl⟩ := ek
      have hc := hkr.int k hk
      obtain ⟨z, hz⟩ : ∃ z, z = zs.getD k 0 := ⟨_, rfl⟩
      rw [← hz] at hc
      have HZK := Lib.hid hz
      clear hz hkr
      go_wp2_with fail
      refine (isSet_any _ ta t.length tc z hle).mono ?_
      rintro e wq ⟨rfl, rfl⟩
      cases hb : setB t.length z with
      | false =>
        have HD : Hid (clB t im zs = false) := Lib.hid (clB_set hk (by rw [← HZK.out]; exact hb))
        clear hb
        go_wp2
        go_ret
        exact ⟨ret_bool HD.out.symm, HG1.out⟩
      | true =>
        have HP2 : Hid (∀ j, j < k + 1 → setB t.length (zs.getD j 0) = true) := Lib.hid (fun j hj => by
          rcases Nat.lt_succ_iff_lt_or_eq.1 hj with hj | rfl
          · exact HP.out j hj
          · rw [← HZK.out]; exact hb)
        clear hb
        go_wp2
        go_roundg (zs.length - (k + 1))
        case measure => have := HGH.out; omega
        case rel => exact ⟨rfl, k + 1, by omega, by go_num, HP2⟩
    · have HE : Hid (k = zs.length) := Lib.hid (by have := HGH.out; omega)
      have hk' : ¬ (k : Int) < zs.length := by omega
      have hall : ∀ j, j < zs.length → setB t.length (zs.getD j 0) = true := by rw [← HE.out]; exact HP.out
      obtain ⟨hnz, hlt⟩ := sets_nat hall
      have HCL := Lib.hid (clB_eq HZ.out hall)
      obtain ⟨l, hl⟩ : ∃ l, l = natL zs := ⟨_, rfl⟩
      have hll : l.length = zs.length := by rw [hl]; simp [natL]
      rw [← hl] at hnz hlt HCL
      have HNI : Hid (ints zs = ints (intL l)) := Lib.hid (by rw [hnz, ints_intL])
      rw [HNI.out] at HSK
      have HLT := Lib.hid hlt; have HLL := Lib.hid hll
      clear hnz hlt hl hll hall HP
      have HBG := Lib.hid (begin40_any B wk _ _ t im (by omega) HK.out HIK.out HGD.out)
      go_wp2_with fail
      refine HBG.out.mono ?_
      rintro e w2 ⟨ga, gc, rfl, hown, hg2⟩
      have HG2 := Lib.hid (grown_far HG1.out hg2 (by simp))
      have HM2 := Lib.hid (HK.out.kept hg2 (by simp)); have HS2 := Lib.hid (HSK.out.kept hg2 (by simp))
      have HR2 := Lib.hid (Row.of_owns hown)
      have hgl : (genL t im).length = im.length + 1 := genL_length t im
      have h6 := HGD.out.im6
      obtain ⟨gl, hglE⟩ : ∃ gl, gl = genL t im := ⟨_, rfl⟩
      rw [← hglE] at hgl HR2 ⊢
      have hgl7 : gl.length ≤ 7 := by omega
      have HGL := Lib.hid hglE
      have HWI : Hid (∀ x : Nat, x < 2 ^ t.length → Calls Tryd.prog 34 #[.slice sa zs.length sc, .int .i64 (x : Int)] w2 fun e w' => e = .returned (.bool (under l x)) ∧ w2 = w') := Lib.hid (fun x hx => by
        refine (within_any B w2 _ (intL l) x HS2.out).mono ?_
        rintro e w' ⟨rfl, rfl⟩
        refine ⟨?_, rfl⟩
        congr 2
        have hp := pow_le hle
        unfold withinB under intL
        rw [List.any_map, Bool.eq_iff_iff, List.any_eq_true, List.any_eq_true]
        refine exists_congr fun b => and_congr_right fun hb => ?_
        have hbl := HLT.out b hb
        simp only [Function.comp, beq_iff_eq, decide_eq_true_eq]
        rw [i64_and_nat b x (by omega) (by omega), Nat.and_comm]
        omega)
      clear hown hg2 hglE hgl HBG
      go_wp2_with fail
      go_loopg [34] gl.length (fun gh i wr => w2 = wr ∧ ∃ k : Nat, gh + k = gl.length ∧ i = .int .i64 (k : Int) ∧ Hid (∀ j, j < k → under l (gl.getD j 0) = true))
      case atStart => exact ⟨rfl, 0, rfl, rfl, Lib.hid (fun j hj => absurd hj (by omega))⟩
      case round =>
        obtain ⟨rfl, k, hgh, rfl, HP⟩ := hrel
        have HGH2 := Lib.hid hgh
        clear hgh
        by_cases hk : k < gl.length
        · have hk' : (k : Int) < gl.length := by omega
          obtain ⟨kb, off, cap, ek, hkB, hk1, hk2, hkr⟩ := HR2.out.some_ (by rw [nats_length]; omega)
          rw [nats_length] at ek
          simp only [Value.slice.injEq] at ek
          obtain ⟨rfl, _, rfl⟩ := ek
          have hc := hkr.nat k hk
          obtain ⟨x, hx⟩ : ∃ x, x = gl.getD k 0 := ⟨_, rfl⟩
          rw [← hx] at hc
          have hxm : x ∈ gl := by rw [hx]; exact getD_memN hk
          have HXM := Lib.hid hxm; have HXK := Lib.hid hx
          have hxl : x < 2 ^ t.length := genL_lt HGD.out x (by rw [← HGL.out]; exact hxm)
          clear hx hkr hxm
          go_wp2_with fail
          refine (HWI.out x hxl).mono ?_
          rintro e wq ⟨rfl, rfl⟩
          cases hb : under l x with
          | false =>
            have HD : Hid (clB t im zs = false) := Lib.hid (by rw [HCL.out]; exact clN_gen (by rw [← HGL.out]; exact HXM.out) hb)
            clear hb hxl
            go_wp2
            go_ret
            exact ⟨ret_bool HD.out.symm, HG2.out⟩
          | true =>
            have HP2 : Hid (∀ j, j < k + 1 → under l (gl.getD j 0) = true) := Lib.hid (fun j hj => by
              rcases Nat.lt_succ_iff_lt_or_eq.1 hj with hj | rfl
              · exact HP.out j hj
              · rw [← HXK.out]; exact hb)
            clear hb hxl
            go_wp2
            go_roundg (gl.length - (k + 1))
            case measure => have := HGH2.out; omega
            case rel => exact ⟨rfl, k + 1, by omega, by go_num, HP2⟩
        · have hk' : ¬ (k : Int) < gl.length := by omega
          have HGA : Hid (∀ s ∈ genL t im, under l s = true) := Lib.hid (fun s hs => by
            rw [← HGL.out] at hs
            obtain ⟨i, hi, rfl⟩ := List.getElem_of_mem hs
            have := HP.out i (by omega)
            rwa [getD_eq hi] at this)
          clear HP
          go_wp2_with fail
          go_loopg [45] zs.length (fun gh i wr => w2 = wr ∧ ∃ k : Nat, gh + k = zs.length ∧ i = .int .i64 (k : Int) ∧ Hid (∀ i, i < k → (∀ j, j < zs.length → under l (prodSet t.length (entN t) (l.getD i 0) (l.getD j 0)) = true) ∧ under l (omegaSet t.length (entN t) (l.getD i 0)) = true))
          case atStart => exact ⟨rfl, 0, rfl, rfl, Lib.hid (fun j hj => absurd hj (by omega))⟩
          case round =>
            obtain ⟨rfl, k, hgh, rfl, HP⟩ := hrel
            have HGH3 := Lib.hid hgh
            clear hgh
            by_cases hk : k < zs.length
            · have hk' : (k : Int) < zs.length := by omega
              have hkl : k < l.length := by rw [HLL.out]; exact hk
              have hsn := HS2.out
              rw [ints_intL] at hsn
              obtain ⟨kb, off, cap, ek, hkB, hk1, hk2, hkr⟩ := hsn.some_ (by rw [nats_length, HLL.out]; omega)
              rw [nats_length, HLL.out] at ek
              simp only [Value.slice.injEq] at ek
              obtain ⟨rfl, _, rfl⟩ := ek
              have hc := hkr.nat k hkl
              have HKR := Lib.hid hkr
              obtain ⟨a, ha⟩ : ∃ a, a = l.getD k 0 := ⟨_, rfl⟩
              rw [← ha] at hc
              have ham : a ∈ l := by rw [ha]; exact getD_memN hkl
              have hal := HLT.out a ham
              have HAM := Lib.hid ham; have HAK := Lib.hid ha; have HAL := Lib.hid hal
              clear ha hkr hsn ham hal
              go_wp2_with fail
              go_loopg [51] zs.length (fun gh i wr => w2 = wr ∧ ∃ j : Nat, gh + j = zs.length ∧ i = .int .i64 (j : Int) ∧ Hid (∀ i, i < j → under l (prodSet t.length (entN t) a (l.getD i 0)) = true))
              case atStart => exact ⟨rfl, 0, rfl, rfl, Lib.hid (fun j hj => absurd hj (by omega))⟩
              case round =>
                obtain ⟨rfl, j, hgj, rfl, HQ⟩ := hrel
                have HGJ := Lib.hid hgj
                clear hgj
                by_cases hj : j < zs.length
                · have hj' : (j : Int) < zs.length := by omega
                  have hjl : j < l.length := by rw [HLL.out]; exact hj
                  have hcj := HKR.out.nat j hjl
                  obtain ⟨b, hb⟩ : ∃ b, b = l.getD j 0 := ⟨_, rfl⟩
                  rw [← hb] at hcj
                  have hbm : b ∈ l := by rw [hb]; exact getD_memN hjl
                  have HBL := Lib.hid (HLT.out b hbm); have HBM := Lib.hid hbm; have HBJ := Lib.hid hb
                  have HPL := Lib.hid (prodSet_lt HTB.out.lt a b)
                  clear hb hbm
                  go_wp2_with fail
                  refine (prod40_any B w2 _ t a b HM2.out HSH.out hle HAL.out HBL.out).mono ?_
                  rintro e wq ⟨rfl, rfl⟩
                  obtain ⟨P, hP⟩ : ∃ P, P = prodSet t.length (entN t) a b := ⟨_, rfl⟩
                  rw [← hP] at HPL ⊢
                  have HPE := Lib.hid hP
                  clear hP
                  go_wp2_with fail
                  refine (HWI.out P HPL.out).mono ?_
                  rintro e wq ⟨rfl, rfl⟩
                  cases hu : under l P with
                  | false =>
                    have HD : Hid (clB t im zs = false) := Lib.hid (by rw [HCL.out]; exact clN_prod HAM.out HBM.out (by rw [← HPE.out]; exact hu))
                    clear hu
                    go_wp2
                    go_ret
                    exact ⟨ret_bool HD.out.symm, HG2.out⟩
                  | true =>
                    have HQ2 : Hid (∀ i, i < j + 1 → under l (prodSet t.length (entN t) a (l.getD i 0)) = true) := Lib.hid (fun i hi => by
                      rcases Nat.lt_succ_iff_lt_or_eq.1 hi with hi | rfl
                      · exact HQ.out i hi
                      · rw [← HBJ.out, ← HPE.out]; exact hu)
                    clear hu
                    go_wp2
                    go_roundg (zs.length - (j + 1))
                    case measure => have := HGJ.out; omega
                    case rel => exact ⟨rfl, j + 1, by omega, by go_num, HQ2⟩
                · have hj' : ¬ (j : Int) < zs.length := by omega
                  have HQA : Hid (∀ i, i < zs.length → under l (prodSet t.length (entN t) a (l.getD i 0)) = true) := Lib.hid (fun i hi => HQ.out i (by omega))
                  have HOL := Lib.hid (omegaSet_lt HTB.out HAL.out)
                  clear HQ
                  go_wp2_with fail
                  refine (omega40_any B w2 _ t a HM2.out HVA.out hle HAL.out).mono ?_
                  rintro e wq ⟨rfl, rfl⟩
                  obtain ⟨P, hP⟩ : ∃ P, P = omegaSet t.length (entN t) a := ⟨_, rfl⟩
                  rw [← hP] at HOL ⊢
                  have HPE := Lib.hid hP
                  clear hP
                  go_wp2_with fail
                  refine (HWI.out P HOL.out).mono ?_
                  rintro e wq ⟨rfl, rfl⟩
                  cases hu : under l P with
                  | false =>
                    have HD : Hid (clB t im zs = false) := Lib.hid (by rw [HCL.out]; exact clN_om HAM.out (by rw [← HPE.out]; exact hu))
                    clear hu
                    go_wp2
                    go_ret
                    exact ⟨ret_bool HD.out.symm, HG2.out⟩
                  | true =>
                    have HP2 : Hid (∀ i, i < k + 1 → (∀ j, j < zs.length → under l (prodSet t.length (entN t) (l.getD i 0) (l.getD j 0)) = true) ∧ under l (omegaSet t.length (entN t) (l.getD i 0)) = true) := Lib.hid (fun i hi => by
                      rcases Nat.lt_succ_iff_lt_or_eq.1 hi with hi | rfl
                      · exact HP.out i hi
                      · rw [← HAK.out]; exact ⟨HQA.out, by rw [← HPE.out]; exact hu⟩)
                    clear hu
                    go_wp2
                    go_roundg (zs.length - (k + 1))
                    case measure => have := HGH3.out; omega
                    case rel => exact ⟨rfl, k + 1, by omega, by go_num, HP2⟩
            · have hk' : ¬ (k : Int) < zs.length := by omega
              have HD : Hid (clB t im zs = true) := Lib.hid (by
                rw [HCL.out]
                have key : ∀ a ∈ l, ∃ i, i < zs.length ∧ l.getD i 0 = a := fun a ha => by
                  obtain ⟨i, hi, rfl⟩ := List.getElem_of_mem ha
                  exact ⟨i, by rw [← HLL.out]; exact hi, getD_eq hi⟩
                refine clN_yes HGA.out (fun a ha b hb => ?_) (fun a ha => ?_)
                · obtain ⟨i, hi, rfl⟩ := key a ha
                  obtain ⟨j, hj, rfl⟩ := key b hb
                  exact (HP.out i (by omega)).1 j hj
                · obtain ⟨i, hi, rfl⟩ := key a ha
                  exact (HP.out i (by omega)).2)
              go_wp2
              go_ret
              exact ⟨ret_bool HD.out.symm, HG2.out⟩
end Go.Proofs.YtdjhoadoiknaoaaDoor
