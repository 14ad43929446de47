/- Part 36 of the proof: CheckD. -/
import Derived.Test.YtdjhoadoiknaoaaDoorZw35
set_option linter.unusedVariables false
set_option linter.unusedSimpArgs false
namespace Go.Proofs.YtdjhoadoiknaoaaDoor
open Go.RowKit
theorem cell_still {w w' : World} {p : Addr} {u : Value} {row : Option Nat} (h : w.cell? p = some u) (hg : w.grownBy w' row) (hr : ∀ k, row = some k → k ≠ p.block) : w'.cell? p = some u := (World.cell?_of_block (hg.block p.block (World.block_lt_of_cell? w p h) (fun e => hr _ e.symm rfl))).trans h
theorem box5_cells {w : World} {p e : Nat} {x0 x1 x2 x3 x4 : Value} (h : w.heap[p]? = some (.cells #[x0, x1, x2, x3, x4] e (0, 0))) : w.cell? ⟨p, 0, none⟩ = some x0 ∧ w.cell? ⟨p, 1, none⟩ = some x1 ∧ w.cell? ⟨p, 2, none⟩ = some x2 ∧ w.cell? ⟨p, 3, none⟩ = some x3 ∧ w.cell? ⟨p, 4, none⟩ = some x4 := by
  have c0 := cell_block h 0 (by simp)
  have c1 := cell_block h 1 (by simp)
  have c2 := cell_block h 2 (by simp)
  have c3 := cell_block h 3 (by simp)
  have c4 := cell_block h 4 (by simp)
  exact ⟨by simpa using c0, by simpa using c1, by simpa using c2, by simpa using c3, by simpa using c4⟩
theorem stepB_op {t : List (List Int)} {im : List Int} {ss : List StepV} {i : Nat} {st : StepV} (e : st = ss.getD i default) (h1 : st.op ≠ 1) (h2 : st.op ≠ 2) (h3 : st.op ≠ 3) : stepB t im ss i = false := by
  subst e; simp only [stepB]; rw [if_neg h1, if_neg h2, if_neg h3]
theorem stepB_word {t : List (List Int)} {im : List Int} {ss : List StepV} {i : Nat} {st : StepV} (e : st = ss.getD i default) (h1 : st.op = 1) : stepB t im ss i = (decide (st.a = 0) && decide (st.b = 0) && wordValid st.word im.length && decide (st.set = ((2 ^ walkV t im (oneN t) st.word.data.toList : Nat) : Int))) := by
  subst e; simp only [stepB]; rw [if_pos h1]
theorem stepB_prod {t : List (List Int)} {im : List Int} {ss : List StepV} {i : Nat} {st : StepV} (e : st = ss.getD i default) (h1 : st.op = 2) : stepB t im ss i = (st.word.toList.isEmpty && befB st.a i && befB st.b i && decide (st.set = ((prodSet t.length (entN t) (ss.getD st.a.toNat default).set.toNat (ss.getD st.b.toNat default).set.toNat : Nat) : Int))) := by
  subst e; simp only [stepB]; rw [if_neg (by omega), if_pos h1]
theorem stepB_om {t : List (List Int)} {im : List Int} {ss : List StepV} {i : Nat} {st : StepV} (e : st = ss.getD i default) (h1 : st.op = 3) : stepB t im ss i = (st.word.toList.isEmpty && befB st.a i && decide (st.b = 0) && decide (st.set = ((omegaSet t.length (entN t) (ss.getD st.a.toNat default).set.toNat : Nat) : Int))) := by
  subst e; simp only [stepB]; rw [if_neg (by omega), if_neg (by omega), if_pos h1]
theorem quiet_plus {P : Program} {f : FuncId} {args : Array Value} {w : World} {n : Nat} {v : Value} (h : Calls P f args (w.drewN n) fun e w' => e = .returned v ∧ ∃ m, w' = (w.drewN n).drewN m) : Calls P f args (w.drewN n) fun e w'' => e = .returned v ∧ ∃ m, w'' = w.drewN m :=
  h.mono fun _ _ ⟨he, m, hm⟩ => ⟨he, n + m, by rw [hm, World.drewN_drewN]⟩
set_option maxRecDepth 100000 in
set_option maxHeartbeats 2000000 in
theorem checkD_any (B : Nat) (w : World) (v iv sv : Value) (t : List (List Int)) (im : List Int) (ss : List StepV) (hB : B ≤ w.heap.size) (h : Mat B w v t) (hi : Row B w iv (ints im)) (hs : SRow B w sv ss) (hw : ∀ i, i < ss.length → (ss.getD i default).word.size ≤ maxLen) (hT : TabOk w) :
    Calls Tryd.prog 35 #[v, iv, sv] w fun e w' => e = .returned (.bool (derB t im ss)) ∧ w.grownBy w' none := by
  have hsl := hs.len_le
  unfold maxLen at hsl
  have HCH := Lib.hid (check_any B w v iv t im hB h hi)
  have H := Lib.hid h; have HI := Lib.hid hi; have HS := Lib.hid hs; have HW := Lib.hid hw; have HT := Lib.hid hT
  obtain ⟨ta, tc, rfl⟩ := h.shape
  obtain ⟨ia, ic, rfl⟩ := hi.shape
  obtain ⟨sa, sc, rfl⟩ := hs.shape
  rw [ints_length] at HCH HI ⊢
  clear h hi hs hw hT
  go_enter Tryd.func35, Tryd.ntmps35
  go_wp2_with fail
  refine HCH.out.mono ?_
  rintro e w1 ⟨rfl, hg1⟩
  have HG1 := Lib.hid hg1
  clear HCH hg1
  by_cases hz : checkE t im ≠ 0
  · have HD := Lib.hid (derB_check (ss := ss) hz)
    obtain ⟨E, hE⟩ : ∃ E, E = checkE t im := ⟨_, rfl⟩
    rw [← hE] at hz ⊢
    have e1 : (E != 0) = true := by rw [bne_iff_ne]; exact hz
    clear hE hz
    go_wp2
    go_ret
    exact ⟨ret_bool HD.out.symm, HG1.out⟩
  replace hz : checkE t im = 0 := by omega
  rw [hz]
  by_cases hl : ss.length = 0
  · have HD := Lib.hid (derB_nil (t := t) (im := im) hl)
    have e1 : ((ss.length : Int) == 0) = true := by rw [hl]; rfl
    clear hz
    go_wp2
    go_ret
    exact ⟨ret_bool HD.out.symm, HG1.out⟩
  have hgd := checkE_good.1 hz
  have e1 : ((ss.length : Int) == 0) = false := by rw [beq_eq_false_iff_ne]; omega
  have hle := hgd.le
  have hva := hgd.valid
  have HZ := Lib.hid hz; have HGD := Lib.hid hgd; have HVA := Lib.hid hva; have HTB := Lib.hid (tb_of hva); have HSH := Lib.hid (valid_of hva).1
  obtain ⟨gb, go_, gcap, ge, hgB, hgc, hgm, hso⟩ := HS.out.some_ (by omega)
  simp only [Value.slice.injEq] at ge
  obtain ⟨rfl, _, rfl⟩ := ge
  have HSO := Lib.hid hso
  have hgm' : sc ≤ 9223372036854775807 := by unfold maxLen at hgm; omega
  have HN := Lib.hid (newSets_any B w1 _ t (by have := HG1.out.size; omega) (H.out.kept HG1.out (by simp)) hva hle (HT.out.kept HG1.out (by simp)))
  clear hz hgd hva hso hgm
  go_wp2_with fail
  refine HN.out.mono ?_
  rintro e w2 ⟨p, go, rfl, hs2, hg2⟩
  have HG2 := Lib.hid (grown_far HG1.out hg2 (by simp))
  have HS2 := Lib.hid hs2
  have HID := Lib.hid (identity_any B w2 _ t (by have := HG2.out.size; omega) (H.out.kept HG2.out (by simp)))
  rw [identE_valid HVA.out, (oneN_lt HGD.out).2] at HID
  have hz12 := HG1.out.size
  have hz2 := hg2.size
  have hgo := hs2.go_lt
  clear HN hs2 hg2
  go_wp2_with fail
  refine HID.out.mono ?_
  rintro e w3 ⟨rfl, hg3⟩
  have HG3 := Lib.hid (grown_far HG2.out hg3 (by simp))
  have HS3 := Lib.hid (HS2.out.kept hg3 (by simp))
  have HZ3 := Lib.hid hg3.size
  clear HID hg3
  go_wp2
  go_loopg [27] ss.length (fun gh i wr => ∃ (k : Nat), gh + k = ss.length ∧ i = .int .i64 (k : Int) ∧ Hid (stepsTo t im ss k) ∧ SetsOk w1.heap.size w2.heap.size wr p go t.length (entN t) ∧ w.grownBy wr none ∧ w2.heap.size ≤ wr.heap.size)
  case atStart => exact ⟨0, rfl, rfl, Lib.hid (fun i hi => absurd hi (by omega)), HS3.out, HG3.out, HZ3.out⟩
  case round =>
    clear HS3 HG3 HZ3
    obtain ⟨k, hgh, rfl, hst, hsr, hgr, hzr⟩ := hrel
    have HGH := Lib.hid hgh; have HSR := Lib.hid hsr; have HGR := Lib.hid hgr
    clear hgh hsr hgr
    by_cases hk : ¬ k < ss.length
    · have HD := Lib.hid (derB_yes HZ.out (by omega) (fun i hi => hst.out i (by have := HGH.out; omega)))
      go_wp2
      go_ret
      exact ⟨ret_bool HD.out.symm, HGR.out⟩
    replace hk : k < ss.length := by omega
    have hk' : (k : Int) < ss.length := by omega
    have hso := HSO.out.kept HGR.out (by simp)
    have c0 := hso.op k hk
    have c1 := hso.a k hk
    have c2 := hso.b k hk
    have c3 := hso.word k hk
    have c4 := hso.set k hk
    obtain ⟨st, hst0⟩ : ∃ st, st = ss.getD k default := ⟨_, rfl⟩
    rw [← hst0] at c0 c1 c2 c3 c4
    have HST := Lib.hid hst0
    have HWZ : Hid (st.word.size ≤ maxLen) := Lib.hid (by rw [hst0]; exact HW.out k hk)
    clear hst0 hso
    obtain ⟨wb, hwb⟩ : ∃ W, W = wr.alloc (.cells #[.int .i64 st.op, .int .i64 st.a, .int .i64 st.b, .string st.word, .int .i64 st.set] 60) := ⟨_, rfl⟩
    have hgb : wr.grownBy wb none := by rw [hwb]; exact World.grownBy_alloc wr _ none
    have hbb := heap_alloc_new wr (.cells #[.int .i64 st.op, .int .i64 st.a, .int .i64 st.b, .string st.word, .int .i64 st.set] 60)
    rw [← hwb] at hbb
    obtain ⟨o, ho⟩ : ∃ o, o = wr.heap.size := ⟨_, rfl⟩
    rw [← ho] at hbb
    have HWB := Lib.hid hwb; have HO := Lib.hid ho; have HBB := Lib.hid hbb
    have HGB := Lib.hid (grown_far HGR.out hgb (by simp)); have HSB := Lib.hid (HSR.out.kept hgb (by simp))
    have hzb : w2.heap.size ≤ wb.heap.size := Nat.le_trans hzr hgb.size
    have hoz : w2.heap.size ≤ o := by omega
    clear hwb hgb hbb ho
    go_upto_region 8 with fail
    rw [← HWB.out, ← HO.out]
    clear c0 c1 c2 c3 c4
    obtain ⟨b0, b1, b2, b3, b4⟩ := box5_cells HBB.out
    by_cases hp1 : st.op = 1
    · have q1 : (st.op == 1) = true := by rw [hp1]; rfl
      have HB := Lib.hid (stepB_word (t := t) (im := im) HST.out hp1)
      clear hp1
      by_cases ha : st.a ≠ 0
      · have qa : (st.a == 0) = false := by rw [beq_eq_false_iff_ne]; exact ha
        have HD : Hid (derB t im ss = false) := Lib.hid (derB_no hk (by rw [HB.out]; simp [ha]))
        go_wp2
        go_quiet (fail)
        go_wp2
        go_ret
        exact ⟨ret_bool HD.out.symm, grown_far HGB.out (grownBy_drewN wb _ none) (by simp)⟩
      replace ha : st.a = 0 := by omega
      have qa : (st.a == 0) = true := by rw [ha]; rfl
      by_cases hb : st.b ≠ 0
      · have qb : (st.b == 0) = false := by rw [beq_eq_false_iff_ne]; exact hb
        have HD : Hid (derB t im ss = false) := Lib.hid (derB_no hk (by rw [HB.out]; simp [hb]))
        go_wp2
        go_quiet (fail)
        go_wp2
        go_ret
        exact ⟨ret_bool HD.out.symm, grown_far HGB.out (grownBy_drewN wb _ none) (by simp)⟩
      replace hb : st.b = 0 := by omega
      have qb : (st.b == 0) = true := by rw [hb]; rfl
      obtain ⟨wv, hwv⟩ : ∃ wv, wv = wordValid st.word im.length := ⟨_, rfl⟩
      have HWV := Lib.hid hwv
      have HCV : ∀ W : World, Hid (Calls Tryd.prog 72 #[.string st.word, .int .i64 im.length] W fun e w' => e = .returned (.bool wv) ∧ W = w') := fun W => Lib.hid (by rw [hwv]; exact wordValid_any st.word im.length W HWZ.out)
      rw [← hwv] at HB
      clear hwv
      cases wv with
      | false =>
        have HD : Hid (derB t im ss = false) := Lib.hid (derB_no hk (by rw [HB.out]; simp))
        go_wp2
        go_quiet ((go_at_call 72; exact quiet_left (HCV _).out))
        go_wp2
        go_ret
        exact ⟨ret_bool HD.out.symm, grown_far HGB.out (grownBy_drewN wb _ none) (by simp)⟩
      | true =>
        have hvl := walkV_lt HGD.out st.word.data.toList (oneN t) (by
          have := HWV.out.symm
          simp only [wordValid, Bool.and_eq_true, List.all_eq_true] at this
          exact this.2) (oneN_lt HGD.out).1
        have hval : ∀ W : World, wb.grownBy W none → Calls Tryd.prog 73 #[.slice ta t.length tc, .slice ia im.length ic, .int .i64 (oneN t : Int), .string st.word] W fun e w' => e = .returned (.int .i64 ((walkV t im (oneN t) st.word.data.toList : Nat) : Int)) ∧ ∃ m, w' = W.drewN m := fun W hW =>
          value_any B W _ _ t im (oneN t) st.word ((H.out.kept HGB.out (by simp)).kept hW (by simp)) ((HI.out.kept HGB.out (by simp)).kept hW (by simp)) HGD.out (oneN_lt HGD.out).1 HWV.out.symm
        obtain ⟨V, hV⟩ : ∃ V, V = walkV t im (oneN t) st.word.data.toList := ⟨_, rfl⟩
        rw [← hV] at hvl hval HB
        have HVAL := Lib.hid hval
        have hsh := shl_eq (m := V) (by omega)
        have hsh' := shl_eq' (m := V) (by omega)
        obtain ⟨X, hX⟩ : ∃ X, X = 2 ^ V := ⟨_, rfl⟩
        rw [← hX] at hsh hsh' HB
        clear hV hX hval
        by_cases hv : st.set = (X : Int)
        · have qv : (st.set == (X : Int)) = true := by rw [hv]; simp
          have HBT : Hid (stepB t im ss k = true) := Lib.hid (by rw [HB.out]; simp [ha, hb, hv])
          go_wp2
          go_quiet ((first | (go_at_call 72; exact quiet_left (HCV _).out) | (go_at_call 73; exact quiet_plus (HVAL.out _ (grownBy_drewN wb _ none))) | fail))
          go_wp2
          go_roundg (ss.length - (k + 1))
          case measure => have := HGH.out; omega
          case rel => exact ⟨k + 1, by have := HGH.out; omega, by go_num, Lib.hid (stepsTo_snoc hst.out HBT.out), HSB.out.kept (grownBy_drewN wb _ none) (by simp), grown_far HGB.out (grownBy_drewN wb _ none) (by simp), hzb⟩
        · have qv : (st.set == (X : Int)) = false := by rw [beq_eq_false_iff_ne]; exact hv
          have HD : Hid (derB t im ss = false) := Lib.hid (derB_no hk (by rw [HB.out]; simp [hv]))
          go_wp2
          go_quiet ((first | (go_at_call 72; exact quiet_left (HCV _).out) | (go_at_call 73; exact quiet_plus (HVAL.out _ (grownBy_drewN wb _ none))) | fail))
          go_wp2
          go_ret
          exact ⟨ret_bool HD.out.symm, grown_far HGB.out (grownBy_drewN wb _ none) (by simp)⟩
    by_cases hp2 : st.op = 2
    · have q1 : (st.op == 1) = false := by rw [hp2]; rfl
      have q2 : (st.op == 2) = true := by rw [hp2]; rfl
      have HB := Lib.hid (stepB_prod (t := t) (im := im) HST.out hp2)
      clear hp1 hp2
      obtain ⟨ew, hew⟩ : ∃ ew, ew = st.word.toList.isEmpty := ⟨_, rfl⟩
      have qw : st.word.toList.isEmpty = ew := hew.symm
      rw [← hew] at HB
      clear hew
      cases ew with
      | false =>
        have HD : Hid (derB t im ss = false) := Lib.hid (derB_no hk (by rw [HB.out]; simp))
        go_wp2
        go_quiet (fail)
        go_wp2
        go_ret
        exact ⟨ret_bool HD.out.symm, grown_far HGB.out (grownBy_drewN wb _ none) (by simp)⟩
      | true =>
        by_cases ha : ¬ (0 ≤ st.a ∧ st.a < k)
        · have qa : decide (0 ≤ st.a ∧ st.a < (k : Int)) = false := decide_eq_false ha
          have HD : Hid (derB t im ss = false) := Lib.hid (derB_no hk (by rw [HB.out]; simp [befB, qa]))
          have HBA : ∀ W : World, Hid (Calls Tryd.prog 74 #[.int .i64 st.a, .int .i64 k] W fun e w' => e = .returned (.bool false) ∧ W = w') := fun W => Lib.hid (by rw [← qa]; exact before_any W st.a k)
          go_wp2
          go_quiet ((go_at_call 74; exact quiet_left (HBA _).out))
          go_wp2
          go_ret
          exact ⟨ret_bool HD.out.symm, grown_far HGB.out (grownBy_drewN wb _ none) (by simp)⟩
        replace ha : 0 ≤ st.a ∧ st.a < k := Decidable.not_not.1 ha
        have qa : decide (0 ≤ st.a ∧ st.a < (k : Int)) = true := decide_eq_true ha
        have HBA : ∀ W : World, Hid (Calls Tryd.prog 74 #[.int .i64 st.a, .int .i64 k] W fun e w' => e = .returned (.bool true) ∧ W = w') := fun W => Lib.hid (by rw [← qa]; exact before_any W st.a k)
        by_cases hb : ¬ (0 ≤ st.b ∧ st.b < k)
        · have qb : decide (0 ≤ st.b ∧ st.b < (k : Int)) = false := decide_eq_false hb
          have HD : Hid (derB t im ss = false) := Lib.hid (derB_no hk (by rw [HB.out]; simp [befB, qb]))
          have HBB2 : ∀ W : World, Hid (Calls Tryd.prog 74 #[.int .i64 st.b, .int .i64 k] W fun e w' => e = .returned (.bool false) ∧ W = w') := fun W => Lib.hid (by rw [← qb]; exact before_any W st.b k)
          clear qa qb
          go_wp2
          go_quiet ((go_at_call 74; first | with_reducible exact quiet_left (HBA _).out | with_reducible exact quiet_left (HBB2 _).out))
          go_wp2
          go_ret
          exact ⟨ret_bool HD.out.symm, grown_far HGB.out (grownBy_drewN wb _ none) (by simp)⟩
        replace hb : 0 ≤ st.b ∧ st.b < k := Decidable.not_not.1 hb
        have qb : decide (0 ≤ st.b ∧ st.b < (k : Int)) = true := decide_eq_true hb
        have HBB2 : ∀ W : World, Hid (Calls Tryd.prog 74 #[.int .i64 st.b, .int .i64 k] W fun e w' => e = .returned (.bool true) ∧ W = w') := fun W => Lib.hid (by rw [← qb]; exact before_any W st.b k)
        obtain ⟨na, hna⟩ : ∃ na : Nat, (na : Int) = st.a := ⟨st.a.toNat, by omega⟩
        obtain ⟨nb, hnb⟩ : ∃ nb : Nat, (nb : Int) = st.b := ⟨st.b.toNat, by omega⟩
        have hak : na < ss.length := by omega
        have hbk : nb < ss.length := by omega
        have hak' : (na : Int) < ss.length := by omega
        have hbk' : (nb : Int) < ss.length := by omega
        have hsa := step_set HGD.out hst.out na (by omega)
        have hsb := step_set HGD.out hst.out nb (by omega)
        have HFA : Hid (befB st.a k = true ∧ befB st.b k = true) := Lib.hid ⟨qa, qb⟩
        have hso := HSO.out.kept HGB.out (by simp)
        have ca := hso.set na hak
        have cb := hso.set nb hbk
        have hba : st.a.toNat = na := by omega
        have hbb : st.b.toNat = nb := by omega
        rw [hba, hbb] at HB
        rw [← hna] at b1 HBA
        rw [← hnb] at b2 HBB2
        obtain ⟨za, hza⟩ : ∃ za : Nat, (za : Int) = (ss.getD na default).set := ⟨(ss.getD na default).set.toNat, by omega⟩
        obtain ⟨zb, hzb2⟩ : ∃ zb : Nat, (zb : Int) = (ss.getD nb default).set := ⟨(ss.getD nb default).set.toNat, by omega⟩
        rw [← hza] at ca hsa HB
        rw [← hzb2] at cb hsb HB
        rw [Int.toNat_natCast, Int.toNat_natCast] at HB
        have hpr : ∀ W : World, wb.grownBy W none → Calls Tryd.prog 53 #[.pointer (some ⟨p, 0, none⟩), .int .i64 (za : Int), .int .i64 (zb : Int)] W fun e w' => e = .returned (.int .i64 (prodSet t.length (entN t) za zb : Nat)) ∧ ∃ m, w' = W.drewN m := fun W hW =>
          product_any w1.heap.size w2.heap.size W p go t.length (entN t) za zb (HSB.out.kept hW (by simp)) HTB.out.lt hle (by omega) (by omega) ((HT.out.kept HGB.out (by simp)).kept hW (by simp))
        obtain ⟨X, hX⟩ : ∃ X, X = prodSet t.length (entN t) za zb := ⟨_, rfl⟩
        rw [← hX] at hpr HB
        have HPR := Lib.hid hpr
        clear hX hpr hso hsa hsb hba hbb hza hzb2 qa qb ha hb hna hnb
        by_cases hv : st.set = (X : Int)
        · have qv : (st.set == (X : Int)) = true := by rw [hv]; simp
          have HBT : Hid (stepB t im ss k = true) := Lib.hid (by rw [HB.out, HFA.out.1, HFA.out.2, decide_eq_true hv]; rfl)
          go_wp2
          go_quiet ((first | (go_at_call 74; first | with_reducible exact quiet_left (HBA _).out | with_reducible exact quiet_left (HBB2 _).out) | (go_at_call 53; exact quiet_plus (HPR.out _ (grownBy_drewN wb _ none))) | fail))
          go_wp2
          go_roundg (ss.length - (k + 1))
          case measure => have := HGH.out; omega
          case rel => exact ⟨k + 1, by have := HGH.out; omega, by go_num, Lib.hid (stepsTo_snoc hst.out HBT.out), HSB.out.kept (grownBy_drewN wb _ none) (by simp), grown_far HGB.out (grownBy_drewN wb _ none) (by simp), hzb⟩
        · have qv : (st.set == (X : Int)) = false := by rw [beq_eq_false_iff_ne]; exact hv
          have HD : Hid (derB t im ss = false) := Lib.hid (derB_no hk (by rw [HB.out]; simp [hv]))
          go_wp2
          go_quiet ((first | (go_at_call 74; first | with_reducible exact quiet_left (HBA _).out | with_reducible exact quiet_left (HBB2 _).out) | (go_at_call 53; exact quiet_plus (HPR.out _ (grownBy_drewN wb _ none))) | fail))
          go_wp2
          go_ret
          exact ⟨ret_bool HD.out.symm, grown_far HGB.out (grownBy_drewN wb _ none) (by simp)⟩
    by_cases hp3 : st.op = 3
    · have q1 : (st.op == 1) = false := by rw [hp3]; rfl
      have q2 : (st.op == 2) = false := by rw [hp3]; rfl
      have q3 : (st.op == 3) = true := by rw [hp3]; rfl
      have HB := Lib.hid (stepB_om (t := t) (im := im) HST.out hp3)
      clear hp1 hp2 hp3
      obtain ⟨ew, hew⟩ : ∃ ew, ew = st.word.toList.isEmpty := ⟨_, rfl⟩
      have qw : st.word.toList.isEmpty = ew := hew.symm
      rw [← hew] at HB
      clear hew
      cases ew with
      | false =>
        have HD : Hid (derB t im ss = false) := Lib.hid (derB_no hk (by rw [HB.out]; simp))
        go_wp2
        go_quiet (fail)
        go_wp2
        go_ret
        exact ⟨ret_bool HD.out.symm, grown_far HGB.out (grownBy_drewN wb _ none) (by simp)⟩
      | true =>
        by_cases ha : ¬ (0 ≤ st.a ∧ st.a < k)
        · have qa : decide (0 ≤ st.a ∧ st.a < (k : Int)) = false := decide_eq_false ha
          have HD : Hid (derB t im ss = false) := Lib.hid (derB_no hk (by rw [HB.out]; simp [befB, qa]))
          have HBA : ∀ W : World, Hid (Calls Tryd.prog 74 #[.int .i64 st.a, .int .i64 k] W fun e w' => e = .returned (.bool false) ∧ W = w') := fun W => Lib.hid (by rw [← qa]; exact before_any W st.a k)
          go_wp2
          go_quiet ((go_at_call 74; exact quiet_left (HBA _).out))
          go_wp2
          go_ret
          exact ⟨ret_bool HD.out.symm, grown_far HGB.out (grownBy_drewN wb _ none) (by simp)⟩
        replace ha : 0 ≤ st.a ∧ st.a < k := Decidable.not_not.1 ha
        have qa : decide (0 ≤ st.a ∧ st.a < (k : Int)) = true := decide_eq_true ha
        have HBA : ∀ W : World, Hid (Calls Tryd.prog 74 #[.int .i64 st.a, .int .i64 k] W fun e w' => e = .returned (.bool true) ∧ W = w') := fun W => Lib.hid (by rw [← qa]; exact before_any W st.a k)
        by_cases hb : st.b ≠ 0
        · have qb : (st.b == 0) = false := by rw [beq_eq_false_iff_ne]; exact hb
          have HD : Hid (derB t im ss = false) := Lib.hid (derB_no hk (by rw [HB.out]; simp [hb]))
          clear qa ha
          go_wp2
          go_quiet ((go_at_call 74; exact quiet_left (HBA _).out))
          go_wp2
          go_ret
          exact ⟨ret_bool HD.out.symm, grown_far HGB.out (grownBy_drewN wb _ none) (by simp)⟩
        replace hb : st.b = 0 := by omega
        have qb : (st.b == 0) = true := by rw [hb]; rfl
        obtain ⟨na, hna⟩ : ∃ na : Nat, (na : Int) = st.a := ⟨st.a.toNat, by omega⟩
        have hak : na < ss.length := by omega
        have hak' : (na : Int) < ss.length := by omega
        have hsa := step_set HGD.out hst.out na (by omega)
        have HFA : Hid (befB st.a k = true ∧ st.b = 0) := Lib.hid ⟨qa, hb⟩
        have hso := HSO.out.kept HGB.out (by simp)
        have ca := hso.set na hak
        have hgblt := hso.lt
        have hba : st.a.toNat = na := by omega
        rw [hba] at HB
        rw [← hna] at b1 HBA
        obtain ⟨za, hza⟩ : ∃ za : Nat, (za : Int) = (ss.getD na default).set := ⟨(ss.getD na default).set.toNat, by omega⟩
        rw [← hza] at ca hsa HB
        rw [Int.toNat_natCast] at HB
        have hom : ∀ W : World, wb.grownBy W none → Calls Tryd.prog 56 #[.pointer (some ⟨p, 0, none⟩), .int .i64 (za : Int)] W fun e w' => e = .returned (.int .i64 (omegaSet t.length (entN t) za : Nat)) ∧ SetsOk w1.heap.size w2.heap.size w' p go t.length (entN t) ∧ wb.grownBy w' (some go) := fun W hW =>
          (omega_any w1.heap.size w2.heap.size W p go t.length (entN t) za (HSB.out.kept hW (by simp)) HTB.out hle (by omega) ((HT.out.kept HGB.out (by simp)).kept hW (by simp))).mono fun _ _ ⟨h1, h2, h3⟩ => ⟨h1, h2, grownBy_trans' (grownBy_weak hW) h3⟩
        have hbg : gb < w.heap.size := by omega
        have HCB : Hid (∀ W, wb.grownBy W (some go) → W.cell? ⟨o, 1, none⟩ = some (.int .i64 (na : Int)) ∧ W.cell? ⟨o, 2, none⟩ = some (.int .i64 st.b) ∧ W.cell? ⟨o, 3, none⟩ = some (.string st.word) ∧ W.cell? ⟨o, 4, none⟩ = some (.int .i64 st.set) ∧ W.cell? ⟨gb, go_ + na * 5 + 4, none⟩ = some (.int .i64 (za : Int))) := Lib.hid (fun W hW => by
          have key : ∀ (b i : Nat) (u : Value), b ≠ go → wb.cell? ⟨b, i, none⟩ = some u → W.cell? ⟨b, i, none⟩ = some u := fun b i u hne hc => cell_still hc hW (fun j e e2 => hne ((Option.some.inj e).trans e2).symm)
          exact ⟨key _ _ _ (by omega) b1, key _ _ _ (by omega) b2, key _ _ _ (by omega) b3, key _ _ _ (by omega) b4, key _ _ _ (by omega) ca⟩)
        have GA : wb.grownBy wb.drew none := grownBy_drew _ _
        obtain ⟨X, hX⟩ : ∃ X, X = omegaSet t.length (entN t) za := ⟨_, rfl⟩
        rw [← hX] at hom HB
        have HOM := Lib.hid hom
        clear hX hom hso hsa hba hza qa ha hb hna hgblt
        by_cases hv : st.set = (X : Int)
        · have qv : (st.set == (X : Int)) = true := by rw [hv]; simp
          have HBT : Hid (stepB t im ss k = true) := Lib.hid (by rw [HB.out, HFA.out.1, HFA.out.2, decide_eq_true hv]; rfl)
          clear hv
          go_wp2
          go_region_held3 (fun W => W.cell? ⟨o, 1, none⟩ = some (.int .i64 (na : Int)) ∧ W.cell? ⟨o, 2, none⟩ = some (.int .i64 st.b) ∧ W.cell? ⟨o, 3, none⟩ = some (.string st.word) ∧ W.cell? ⟨o, 4, none⟩ = some (.int .i64 st.set) ∧ W.cell? ⟨gb, go_ + na * 5 + 4, none⟩ = some (.int .i64 (za : Int)))
            (first | go_keep | exact HCB.out _ hG7 | fail)
            (first | (go_at_call 74; refine (HBA _).out.mono ?_; rintro e w' ⟨rfl, rfl⟩) | (go_at_call 56; (with_reducible refine (HOM.out _ GA).mono ?_); rintro e w7 ⟨rfl, hS7, hG7⟩) | fail)
          have hFAR : ∀ j, some go = some j → w.heap.size ≤ j := fun j e => by have e : go = j := Option.some.inj e; omega
          have HG8 := Lib.hid (grown_far HGB.out hG7 hFAR)
          have hz7 := hG7.size
          have HS7 := Lib.hid hS7
          clear hS7 hG7 hFAR
          go_wp2
          go_roundg (ss.length - (k + 1))
          case measure => have := HGH.out; omega
          case rel => exact ⟨k + 1, by have := HGH.out; omega, by go_num, Lib.hid (stepsTo_snoc hst.out HBT.out), HS7.out, HG8.out, by omega⟩
        · have qv : (st.set == (X : Int)) = false := by rw [beq_eq_false_iff_ne]; exact hv
          have HD : Hid (derB t im ss = false) := Lib.hid (derB_no hk (by rw [HB.out]; simp [hv]))
          clear hv
          go_wp2
          go_region_held3 (fun W => W.cell? ⟨o, 1, none⟩ = some (.int .i64 (na : Int)) ∧ W.cell? ⟨o, 2, none⟩ = some (.int .i64 st.b) ∧ W.cell? ⟨o, 3, none⟩ = some (.string st.word) ∧ W.cell? ⟨o, 4, none⟩ = some (.int .i64 st.set) ∧ W.cell? ⟨gb, go_ + na * 5 + 4, none⟩ = some (.int .i64 (za : Int)))
            (first | go_keep | exact HCB.out _ hG7 | fail)
            (first | (go_at_call 74; refine (HBA _).out.mono ?_; rintro e w' ⟨rfl, rfl⟩) | (go_at_call 56; (with_reducible refine (HOM.out _ GA).mono ?_); rintro e w7 ⟨rfl, hS7, hG7⟩) | fail)
          have hFAR : ∀ j, some go = some j → w.heap.size ≤ j := fun j e => by have e : go = j := Option.some.inj e; omega
          have HG8 := Lib.hid (grown_far HGB.out hG7 hFAR)
          clear hS7 hG7 hFAR
          go_wp2
          go_ret
          exact ⟨ret_bool HD.out.symm, HG8.out⟩
    · have HD := Lib.hid (derB_no hk (stepB_op (t := t) (im := im) HST.out hp1 hp2 hp3))
      have q1 : (st.op == 1) = false := by rw [beq_eq_false_iff_ne]; exact hp1
      have q2 : (st.op == 2) = false := by rw [beq_eq_false_iff_ne]; exact hp2
      have q3 : (st.op == 3) = false := by rw [beq_eq_false_iff_ne]; exact hp3
      go_wp2
      go_ret
      exact ⟨ret_bool HD.out.symm, HGB.out⟩
end Go.Proofs.YtdjhoadoiknaoaaDoor
