/- Part 43 of the proof: CheckD, Value14. -/
import Derived.Test.YtdjhoadoiknaoaaDoorZa42
set_option linter.unusedVariables false
set_option linter.unusedSimpArgs false
namespace Go.Proofs.YtdjhoadoiknaoaaDoor
open Go.RowKit
theorem cell_still {w w' : World} {p : Addr} {u : Value} {row : Option Nat} (h : w.cell? p = some u) (hg : w.grownBy w' row) (hr : ∀ k, row = some k → k ≠ p.block) : w'.cell? p = some u := (World.cell?_of_block (hg.block p.block (World.block_lt_of_cell? w p h) (fun e => hr _ e.symm rfl))).trans h
theorem box5_cells {w : World} {p e : Nat} {x0 x1 x2 x3 x4 : Value} (h : w.heap[p]? = some (.cells #[x0, x1, x2, x3, x4] e (0, 0))) : w.cell? ⟨p, 0, none⟩ = some x0 ∧ w.cell? ⟨p, 1, none⟩ = some x1 ∧ w.cell? ⟨p, 2, none⟩ = some x2 ∧ w.cell? ⟨p, 3, none⟩ = some x3 ∧ w.cell? ⟨p, 4, none⟩ = some x4 := by
 have c0 := zJ h 0 (by simp)
 have c1 := zJ h 1 (by simp)
 have c2 := zJ h 2 (by simp)
 have c3 := zJ h 3 (by simp)
 have c4 := zJ h 4 (by simp)
 exact ⟨by simpa using c0, by simpa using c1, by simpa using c2, by simpa using c3, by simpa using c4⟩
theorem stepB_op {t : List (List Int)} {im : List Int} {ss : List StepV} {i : Nat} {st : StepV} (e : st = ss.getD i default) (h1 : st.op ≠ 1) (h2 : st.op ≠ 2) (h3 : st.op ≠ 3) : stepB t im ss i = false := by
 subst e; simp only [stepB]; rw [if_neg h1, if_neg h2, if_neg h3]
theorem stepB_word {t : List (List Int)} {im : List Int} {ss : List StepV} {i : Nat} {st : StepV} (e : st = ss.getD i default) (h1 : st.op = 1) : stepB t im ss i = (decide (st.a = 0) && decide (st.b = 0) && yI st.word im.length && decide (st.set = ((2 ^ walkV t im (oneN t) st.word.data.toList : Nat) : Int))) := by
 subst e; simp only [stepB]; rw [if_pos h1]
theorem stepB_prod {t : List (List Int)} {im : List Int} {ss : List StepV} {i : Nat} {st : StepV} (e : st = ss.getD i default) (h1 : st.op = 2) : stepB t im ss i = (st.word.toList.isEmpty && befB st.a i && befB st.b i && decide (st.set = ((zV t.length (entN t) (ss.getD st.a.toNat default).set.toNat (ss.getD st.b.toNat default).set.toNat : Nat) : Int))) := by
 subst e; simp only [stepB]; rw [if_neg (by omega), if_pos h1]
theorem stepB_om {t : List (List Int)} {im : List Int} {ss : List StepV} {i : Nat} {st : StepV} (e : st = ss.getD i default) (h1 : st.op = 3) : stepB t im ss i = (st.word.toList.isEmpty && befB st.a i && decide (st.b = 0) && decide (st.set = ((yQ t.length (entN t) (ss.getD st.a.toNat default).set.toNat : Nat) : Int))) := by
 subst e; simp only [stepB]; rw [if_neg (by omega), if_neg (by omega), if_pos h1]
theorem quiet_plus {P : Program} {f : FuncId} {args : Array Value} {w : World} {n : Nat} {v : Value} (h : Calls P f args (w.drewN n) fun e w' => e = .returned v ∧ ∃ m, w' = (w.drewN n).drewN m) : Calls P f args (w.drewN n) fun e w'' => e = .returned v ∧ ∃ m, w'' = w.drewN m :=
 h.mono fun _ _ ⟨he, m, hm⟩ => ⟨he, n + m, by rw [hm, World.drewN_drewN]⟩
set_option maxRecDepth 100000 in
set_option maxHeartbeats 2000000 in
theorem checkD_any (B : Nat) (w : World) (v iv sv : Value) (t : List (List Int)) (im : List Int) (ss : List StepV) (hB : B ≤ w.heap.size) (h : Mat B w v t) (hi : Row B w iv (ints im)) (hs : SRow B w sv ss) (hw : ∀ i, i < ss.length → (ss.getD i default).word.size ≤ maxLen) (hT : TabOk w) :
  Calls Tryd.prog 35 #[v, iv, sv] w fun e w' => e = .returned (.bool (derB t im ss)) ∧ w.grownBy w' none := by
 have hsl := hs.len_le
 unfold maxLen at hsl
 have HCH := Kh (check_any B w v iv t im hB h hi)
 have H := Kh h; have HI := Kh hi; have HS := Kh hs; have HW := Kh hw; have HT := Kh hT
 obtain ⟨ta, tc, rfl⟩ := h.shape
 obtain ⟨ia, ic, rfl⟩ := hi.shape
 obtain ⟨sa, sc, rfl⟩ := hs.shape
 rw [zP] at HCH HI ⊢
 clear h hi hs hw hT
 go_enter Tryd.func35, Tryd.ntmps35
 go_wp2_with fail
 refine HCH.out.mono ?_
 rintro e w1 ⟨rfl, hg1⟩
 have HG1 := Kh hg1
 clear HCH hg1
 by_cases hz : xT t im ≠ 0
 ·have HD := Kh (derB_check (ss := ss) hz)
  obtain ⟨E, hE⟩ : ∃ E, E = xT t im := ⟨_, rfl⟩
  rw [← hE] at hz ⊢
  have e1 : (E != 0) = true := by rw [bne_iff_ne]; exact hz
  clear hE hz
  go_wp2
  go_ret
  exact ⟨yA HD.out.symm, HG1.out⟩
 replace hz : xT t im = 0 := by omega
 rw [hz]
 by_cases hl : ss.length = 0
 ·have HD := Kh (derB_nil (t := t) (im := im) hl)
  have e1 : ((ss.length : Int) == 0) = true := by rw [hl]; rfl
  clear hz
  go_wp2
  go_ret
  exact ⟨yA HD.out.symm, HG1.out⟩
 have hgd := checkE_good.1 hz
 have e1 : ((ss.length : Int) == 0) = false := by rw [beq_eq_false_iff_ne]; omega
 have hle := hgd.le
 have hva := hgd.valid
 have HZ := Kh hz; have HGD := Kh hgd; have HVA := Kh hva; have HTB := Kh (tb_of hva); have HSH := Kh (uE hva).1
 obtain ⟨gb, go_, gcap, ge, hgB, hgc, hgm, hso⟩ := HS.out.some_ (by omega)
 simp only [Value.slice.injEq] at ge
 obtain ⟨rfl, _, rfl⟩ := ge
 have HSO := Kh hso
 have hgm' : sc ≤ 9223372036854775807 := by unfold maxLen at hgm; omega
 have HN := Kh (sQ B w1 _ t (by have := HG1.out.size; omega) (H.out.kept HG1.out (by simp)) hva hle (HT.out.kept HG1.out (by simp)))
 clear hz hgd hva hso hgm
 go_wp2_with fail
 refine HN.out.mono ?_
 rintro e w2 ⟨p, go, rfl, hs2, hg2⟩
 have HG2 := Kh (zF HG1.out hg2 (by simp))
 have HS2 := Kh hs2
 have HID := Kh (identity_any B w2 _ t (by have := HG2.out.size; omega) (H.out.kept HG2.out (by simp)))
 rw [identE_valid HVA.out, (tS HGD.out).2] at HID
 have hz12 := HG1.out.size
 have hz2 := hg2.size
 have hgo := hs2.go_lt
 clear HN hs2 hg2
 go_wp2_with fail
 refine HID.out.mono ?_
 rintro e w3 ⟨rfl, hg3⟩
 have HG3 := Kh (zF HG2.out hg3 (by simp))
 have HS3 := Kh (HS2.out.kept hg3 (by simp))
 have HZ3 := Kh hg3.size
 clear HID hg3
 go_wp2
 go_loopg [27] ss.length (fun gh i wr => ∃ (k : Nat), gh + k = ss.length ∧ i = .int .i64 (k : Int) ∧ Hid (stepsTo t im ss k) ∧ wH w1.heap.size w2.heap.size wr p go t.length (entN t) ∧ w.grownBy wr none ∧ w2.heap.size ≤ wr.heap.size)
 case atStart => exact ⟨0, rfl, rfl, Kh (fun i hi => absurd hi (by omega)), HS3.out, HG3.out, HZ3.out⟩
 case round =>
  clear HS3 HG3 HZ3
  obtain ⟨k, hgh, rfl, hst, hsr, hgr, hzr⟩ := hrel
  have HGH := Kh hgh; have HSR := Kh hsr; have HGR := Kh hgr
  clear hgh hsr hgr
  by_cases hk : ¬ k < ss.length
  ·have HD := Kh (derB_yes HZ.out (by omega) (fun i hi => hst.out i (by have := HGH.out; omega)))
   go_wp2
   go_ret
   exact ⟨yA HD.out.symm, HGR.out⟩
  replace hk : k < ss.length := by omega
  have hk' : (k : Int) < ss.length := by omega
  have hso := HSO.out.kept HGR.out (by simp)
  have c0 := hso.op k hk
  have c1 := hso.a k hk
  have c2 := hso.b k hk
  have c3 := hso.word k hk
  have c4 := hso.set k hk
  obtain ⟨st, hst0⟩ : ∃ st, st = ss.getD k default := ⟨_, rfl⟩
  rw [← hst0] at c0 c1 c2 c3 c4
  have HST := Kh hst0
  have HWZ : Hid (st.word.size ≤ maxLen) := Kh (by rw [hst0]; exact HW.out k hk)
  clear hst0 hso
  obtain ⟨wb, hwb⟩ : ∃ W, W = wr.alloc (.cells #[.int .i64 st.op, .int .i64 st.a, .int .i64 st.b, .string st.word, .int .i64 st.set] 60) := ⟨_, rfl⟩
  have hgb : wr.grownBy wb none := by rw [hwb]; exact World.grownBy_alloc wr _ none
  have hbb := heap_alloc_new wr (.cells #[.int .i64 st.op, .int .i64 st.a, .int .i64 st.b, .string st.word, .int .i64 st.set] 60)
  rw [← hwb] at hbb
  obtain ⟨o, ho⟩ : ∃ o, o = wr.heap.size := ⟨_, rfl⟩
  rw [← ho] at hbb
  have HWB := Kh hwb; have HO := Kh ho; have HBB := Kh hbb
  have HGB := Kh (zF HGR.out hgb (by simp)); have HSB := Kh (HSR.out.kept hgb (by simp))
  have hzb : w2.heap.size ≤ wb.heap.size := Nat.le_trans hzr hgb.size
  have hoz : w2.heap.size ≤ o := by omega
  clear hwb hgb hbb ho
  go_upto_region 8 with fail
  rw [← HWB.out, ← HO.out]
  clear c0 c1 c2 c3 c4
  obtain ⟨b0, b1, b2, b3, b4⟩ := box5_cells HBB.out
  by_cases hp1 : st.op = 1
  ·have q1 : (st.op == 1) = true := by rw [hp1]; rfl
   have HB := Kh (stepB_word (t := t) (im := im) HST.out hp1)
   clear hp1
   by_cases ha : st.a ≠ 0
   ·have qa : (st.a == 0) = false := by rw [beq_eq_false_iff_ne]; exact ha
    have HD : Hid (derB t im ss = false) := Kh (tH hk (by rw [HB.out]; simp [ha]))
    go_wp2
    go_quiet (fail)
    go_wp2
    go_ret
    exact ⟨yA HD.out.symm, zF HGB.out (zL wb _ none) (by simp)⟩
   replace ha : st.a = 0 := by omega
   have qa : (st.a == 0) = true := by rw [ha]; rfl
   by_cases hb : st.b ≠ 0
   ·have qb : (st.b == 0) = false := by rw [beq_eq_false_iff_ne]; exact hb
    have HD : Hid (derB t im ss = false) := Kh (tH hk (by rw [HB.out]; simp [hb]))
    go_wp2
    go_quiet (fail)
    go_wp2
    go_ret
    exact ⟨yA HD.out.symm, zF HGB.out (zL wb _ none) (by simp)⟩
   replace hb : st.b = 0 := by omega
   have qb : (st.b == 0) = true := by rw [hb]; rfl
   obtain ⟨wv, hwv⟩ : ∃ wv, wv = yI st.word im.length := ⟨_, rfl⟩
   have HWV := Kh hwv
   have HCV : ∀ W : World, Hid (Calls Tryd.prog 72 #[.string st.word, .int .i64 im.length] W fun e w' => e = .returned (.bool wv) ∧ W = w') := fun W => Kh (by rw [hwv]; exact wordValid_any st.word im.length W HWZ.out)
   rw [← hwv] at HB
   clear hwv
   cases wv with
   | false =>
    have HD : Hid (derB t im ss = false) := Kh (tH hk (by rw [HB.out]; simp))
    go_wp2
    go_quiet ((go_at_call 72; exact xM (HCV _).out))
    go_wp2
    go_ret
    exact ⟨yA HD.out.symm, zF HGB.out (zL wb _ none) (by simp)⟩
   | true =>
    have hvl := walkV_lt HGD.out st.word.data.toList (oneN t) (by
     have := HWV.out.symm
     simp only [yI, Bool.and_eq_true, List.all_eq_true] at this
     exact this.2) (tS HGD.out).1
    have hval : ∀ W : World, wb.grownBy W none → Calls Tryd.prog 73 #[.slice ta t.length tc, .slice ia im.length ic, .int .i64 (oneN t : Int), .string st.word] W fun e w' => e = .returned (.int .i64 ((walkV t im (oneN t) st.word.data.toList : Nat) : Int)) ∧ ∃ m, w' = W.drewN m := fun W hW =>
     value_any B W _ _ t im (oneN t) st.word ((H.out.kept HGB.out (by simp)).kept hW (by simp)) ((HI.out.kept HGB.out (by simp)).kept hW (by simp)) HGD.out (tS HGD.out).1 HWV.out.symm
    obtain ⟨V, hV⟩ : ∃ V, V = walkV t im (oneN t) st.word.data.toList := ⟨_, rfl⟩
    rw [← hV] at hvl hval HB
    have HVAL := Kh hval
    have hsh := shl_eq (m := V) (by omega)
    have hsh' := shl_eq' (m := V) (by omega)
    obtain ⟨X, hX⟩ : ∃ X, X = 2 ^ V := ⟨_, rfl⟩
    rw [← hX] at hsh hsh' HB
    clear hV hX hval
    by_cases hv : st.set = (X : Int)
    ·have qv : (st.set == (X : Int)) = true := by rw [hv]; simp
     have HBT : Hid (stepB t im ss k = true) := Kh (by rw [HB.out]; simp [ha, hb, hv])
     go_wp2
     go_quiet ((first | (go_at_call 72; exact xM (HCV _).out) | (go_at_call 73; exact quiet_plus (HVAL.out _ (zL wb _ none))) | fail))
     go_wp2
     go_roundg (ss.length - (k + 1))
     case measure => have := HGH.out; omega
     case rel => exact ⟨k + 1, by have := HGH.out; omega, by go_num, Kh (stepsTo_snoc hst.out HBT.out), HSB.out.kept (zL wb _ none) (by simp), zF HGB.out (zL wb _ none) (by simp), hzb⟩
    ·have qv : (st.set == (X : Int)) = false := by rw [beq_eq_false_iff_ne]; exact hv
     have HD : Hid (derB t im ss = false) := Kh (tH hk (by rw [HB.out]; simp [hv]))
     go_wp2
     go_quiet ((first | (go_at_call 72; exact xM (HCV _).out) | (go_at_call 73; exact quiet_plus (HVAL.out _ (zL wb _ none))) | fail))
     go_wp2
     go_ret
     exact ⟨yA HD.out.symm, zF HGB.out (zL wb _ none) (by simp)⟩
  by_cases hp2 : st.op = 2
  ·have q1 : (st.op == 1) = false := by rw [hp2]; rfl
   have q2 : (st.op == 2) = true := by rw [hp2]; rfl
   have HB := Kh (stepB_prod (t := t) (im := im) HST.out hp2)
   clear hp1 hp2
   obtain ⟨ew, hew⟩ : ∃ ew, ew = st.word.toList.isEmpty := ⟨_, rfl⟩
   have qw : st.word.toList.isEmpty = ew := hew.symm
   rw [← hew] at HB
   clear hew
   cases ew with
   | false =>
    have HD : Hid (derB t im ss = false) := Kh (tH hk (by rw [HB.out]; simp))
    go_wp2
    go_quiet (fail)
    go_wp2
    go_ret
    exact ⟨yA HD.out.symm, zF HGB.out (zL wb _ none) (by simp)⟩
   | true =>
    by_cases ha : ¬ (0 ≤ st.a ∧ st.a < k)
    ·have qa : decide (0 ≤ st.a ∧ st.a < (k : Int)) = false := decide_eq_false ha
     have HD : Hid (derB t im ss = false) := Kh (tH hk (by rw [HB.out]; simp [befB, qa]))
     have HBA : ∀ W : World, Hid (Calls Tryd.prog 74 #[.int .i64 st.a, .int .i64 k] W fun e w' => e = .returned (.bool false) ∧ W = w') := fun W => Kh (by rw [← qa]; exact sB W st.a k)
     go_wp2
     go_quiet ((go_at_call 74; exact xM (HBA _).out))
     go_wp2
     go_ret
     exact ⟨yA HD.out.symm, zF HGB.out (zL wb _ none) (by simp)⟩
    replace ha : 0 ≤ st.a ∧ st.a < k := Decidable.not_not.1 ha
    have qa : decide (0 ≤ st.a ∧ st.a < (k : Int)) = true := decide_eq_true ha
    have HBA : ∀ W : World, Hid (Calls Tryd.prog 74 #[.int .i64 st.a, .int .i64 k] W fun e w' => e = .returned (.bool true) ∧ W = w') := fun W => Kh (by rw [← qa]; exact sB W st.a k)
    by_cases hb : ¬ (0 ≤ st.b ∧ st.b < k)
    ·have qb : decide (0 ≤ st.b ∧ st.b < (k : Int)) = false := decide_eq_false hb
     have HD : Hid (derB t im ss = false) := Kh (tH hk (by rw [HB.out]; simp [befB, qb]))
     have HBB2 : ∀ W : World, Hid (Calls Tryd.prog 74 #[.int .i64 st.b, .int .i64 k] W fun e w' => e = .returned (.bool false) ∧ W = w') := fun W => Kh (by rw [← qb]; exact sB W st.b k)
     clear qa qb
     go_wp2
     go_quiet ((go_at_call 74; first | with_reducible exact xM (HBA _).out | with_reducible exact xM (HBB2 _).out))
     go_wp2
     go_ret
     exact ⟨yA HD.out.symm, zF HGB.out (zL wb _ none) (by simp)⟩
    replace hb : 0 ≤ st.b ∧ st.b < k := Decidable.not_not.1 hb
    have qb : decide (0 ≤ st.b ∧ st.b < (k : Int)) = true := decide_eq_true hb
    have HBB2 : ∀ W : World, Hid (Calls Tryd.prog 74 #[.int .i64 st.b, .int .i64 k] W fun e w' => e = .returned (.bool true) ∧ W = w') := fun W => Kh (by rw [← qb]; exact sB W st.b k)
    obtain ⟨na, hna⟩ : ∃ na : Nat, (na : Int) = st.a := ⟨st.a.toNat, by omega⟩
    obtain ⟨nb, hnb⟩ : ∃ nb : Nat, (nb : Int) = st.b := ⟨st.b.toNat, by omega⟩
    have hak : na < ss.length := by omega
    have hbk : nb < ss.length := by omega
    have hak' : (na : Int) < ss.length := by omega
    have hbk' : (nb : Int) < ss.length := by omega
    have hsa := step_set HGD.out hst.out na (by omega)
    have hsb := step_set HGD.out hst.out nb (by omega)
    have HFA : Hid (befB st.a k = true ∧ befB st.b k = true) := Kh ⟨qa, qb⟩
    have hso := HSO.out.kept HGB.out (by simp)
    have ca := hso.set na hak
    have cb := hso.set nb hbk
    have hba : st.a.toNat = na := by omega
    have hbb : st.b.toNat = nb := by omega
    rw [hba, hbb] at HB
    rw [← hna] at b1 HBA
    rw [← hnb] at b2 HBB2
    obtain ⟨za, hza⟩ : ∃ za : Nat, (za : Int) = (ss.getD na default).set := ⟨(ss.getD na default).set.toNat, by omega⟩
    obtain ⟨zb, hzb2⟩ : ∃ zb : Nat, (zb : Int) = (ss.getD nb default).set := ⟨(ss.getD nb default).set.toNat, by omega⟩
    rw [← hza] at ca hsa HB
    rw [← hzb2] at cb hsb HB
    rw [Int.toNat_natCast, Int.toNat_natCast] at HB
    have hpr : ∀ W : World, wb.grownBy W none → Calls Tryd.prog 53 #[.pointer (some ⟨p, 0, none⟩), .int .i64 (za : Int), .int .i64 (zb : Int)] W fun e w' => e = .returned (.int .i64 (zV t.length (entN t) za zb : Nat)) ∧ ∃ m, w' = W.drewN m := fun W hW =>
     sK w1.heap.size w2.heap.size W p go t.length (entN t) za zb (HSB.out.kept hW (by simp)) HTB.out.lt hle (by omega) (by omega) ((HT.out.kept HGB.out (by simp)).kept hW (by simp))
    obtain ⟨X, hX⟩ : ∃ X, X = zV t.length (entN t) za zb := ⟨_, rfl⟩
    rw [← hX] at hpr HB
    have HPR := Kh hpr
    clear hX hpr hso hsa hsb hba hbb hza hzb2 qa qb ha hb hna hnb
    by_cases hv : st.set = (X : Int)
    ·have qv : (st.set == (X : Int)) = true := by rw [hv]; simp
     have HBT : Hid (stepB t im ss k = true) := Kh (by rw [HB.out, HFA.out.1, HFA.out.2, decide_eq_true hv]; rfl)
     go_wp2
     go_quiet ((first | (go_at_call 74; first | with_reducible exact xM (HBA _).out | with_reducible exact xM (HBB2 _).out) | (go_at_call 53; exact quiet_plus (HPR.out _ (zL wb _ none))) | fail))
     go_wp2
     go_roundg (ss.length - (k + 1))
     case measure => have := HGH.out; omega
     case rel => exact ⟨k + 1, by have := HGH.out; omega, by go_num, Kh (stepsTo_snoc hst.out HBT.out), HSB.out.kept (zL wb _ none) (by simp), zF HGB.out (zL wb _ none) (by simp), hzb⟩
    ·have qv : (st.set == (X : Int)) = false := by rw [beq_eq_false_iff_ne]; exact hv
     have HD : Hid (derB t im ss = false) := Kh (tH hk (by rw [HB.out]; simp [hv]))
     go_wp2
     go_quiet ((first | (go_at_call 74; first | with_reducible exact xM (HBA _).out | with_reducible exact xM (HBB2 _).out) | (go_at_call 53; exact quiet_plus (HPR.out _ (zL wb _ none))) | fail))
     go_wp2
     go_ret
     exact ⟨yA HD.out.symm, zF HGB.out (zL wb _ none) (by simp)⟩
  by_cases hp3 : st.op = 3
  ·have q1 : (st.op == 1) = false := by rw [hp3]; rfl
   have q2 : (st.op == 2) = false := by rw [hp3]; rfl
   have q3 : (st.op == 3) = true := by rw [hp3]; rfl
   have HB := Kh (stepB_om (t := t) (im := im) HST.out hp3)
   clear hp1 hp2 hp3
   obtain ⟨ew, hew⟩ : ∃ ew, ew = st.word.toList.isEmpty := ⟨_, rfl⟩
   have qw : st.word.toList.isEmpty = ew := hew.symm
   rw [← hew] at HB
   clear hew
   cases ew with
   | false =>
    have HD : Hid (derB t im ss = false) := Kh (tH hk (by rw [HB.out]; simp))
    go_wp2
    go_quiet (fail)
    go_wp2
    go_ret
    exact ⟨yA HD.out.symm, zF HGB.out (zL wb _ none) (by simp)⟩
   | true =>
    by_cases ha : ¬ (0 ≤ st.a ∧ st.a < k)
    ·have qa : decide (0 ≤ st.a ∧ st.a < (k : Int)) = false := decide_eq_false ha
     have HD : Hid (derB t im ss = false) := Kh (tH hk (by rw [HB.out]; simp [befB, qa]))
     have HBA : ∀ W : World, Hid (Calls Tryd.prog 74 #[.int .i64 st.a, .int .i64 k] W fun e w' => e = .returned (.bool false) ∧ W = w') := fun W => Kh (by rw [← qa]; exact sB W st.a k)
     go_wp2
     go_quiet ((go_at_call 74; exact xM (HBA _).out))
     go_wp2
     go_ret
     exact ⟨yA HD.out.symm, zF HGB.out (zL wb _ none) (by simp)⟩
    replace ha : 0 ≤ st.a ∧ st.a < k := Decidable.not_not.1 ha
    have qa : decide (0 ≤ st.a ∧ st.a < (k : Int)) = true := decide_eq_true ha
    have HBA : ∀ W : World, Hid (Calls Tryd.prog 74 #[.int .i64 st.a, .int .i64 k] W fun e w' => e = .returned (.bool true) ∧ W = w') := fun W => Kh (by rw [← qa]; exact sB W st.a k)
    by_cases hb : st.b ≠ 0
    ·have qb : (st.b == 0) = false := by rw [beq_eq_false_iff_ne]; exact hb
     have HD : Hid (derB t im ss = false) := Kh (tH hk (by rw [HB.out]; simp [hb]))
     clear qa ha
     go_wp2
     go_quiet ((go_at_call 74; exact xM (HBA _).out))
     go_wp2
     go_ret
     exact ⟨yA HD.out.symm, zF HGB.out (zL wb _ none) (by simp)⟩
    replace hb : st.b = 0 := by omega
    have qb : (st.b == 0) = true := by rw [hb]; rfl
    obtain ⟨na, hna⟩ : ∃ na : Nat, (na : Int) = st.a := ⟨st.a.toNat, by omega⟩
    have hak : na < ss.length := by omega
    have hak' : (na : Int) < ss.length := by omega
    have hsa := step_set HGD.out hst.out na (by omega)
    have HFA : Hid (befB st.a k = true ∧ st.b = 0) := Kh ⟨qa, hb⟩
    have hso := HSO.out.kept HGB.out (by simp)
    have ca := hso.set na hak
    have hgblt := hso.lt
    have hba : st.a.toNat = na := by omega
    rw [hba] at HB
    rw [← hna] at b1 HBA
    obtain ⟨za, hza⟩ : ∃ za : Nat, (za : Int) = (ss.getD na default).set := ⟨(ss.getD na default).set.toNat, by omega⟩
    rw [← hza] at ca hsa HB
    rw [Int.toNat_natCast] at HB
    have hom : ∀ W : World, wb.grownBy W none → Calls Tryd.prog 56 #[.pointer (some ⟨p, 0, none⟩), .int .i64 (za : Int)] W fun e w' => e = .returned (.int .i64 (yQ t.length (entN t) za : Nat)) ∧ wH w1.heap.size w2.heap.size w' p go t.length (entN t) ∧ wb.grownBy w' (some go) := fun W hW =>
     (omega_any w1.heap.size w2.heap.size W p go t.length (entN t) za (HSB.out.kept hW (by simp)) HTB.out hle (by omega) ((HT.out.kept HGB.out (by simp)).kept hW (by simp))).mono fun _ _ ⟨h1, h2, h3⟩ => ⟨h1, h2, zG (xQ hW) h3⟩
    have hbg : gb < w.heap.size := by omega
    have HCB : Hid (∀ W, wb.grownBy W (some go) → W.cell? ⟨o, 1, none⟩ = some (.int .i64 (na : Int)) ∧ W.cell? ⟨o, 2, none⟩ = some (.int .i64 st.b) ∧ W.cell? ⟨o, 3, none⟩ = some (.string st.word) ∧ W.cell? ⟨o, 4, none⟩ = some (.int .i64 st.set) ∧ W.cell? ⟨gb, go_ + na * 5 + 4, none⟩ = some (.int .i64 (za : Int))) := Kh (fun W hW => by
     have key : ∀ (b i : Nat) (u : Value), b ≠ go → wb.cell? ⟨b, i, none⟩ = some u → W.cell? ⟨b, i, none⟩ = some u := fun b i u hne hc => cell_still hc hW (fun j e e2 => hne ((Option.some.inj e).trans e2).symm)
     exact ⟨key _ _ _ (by omega) b1, key _ _ _ (by omega) b2, key _ _ _ (by omega) b3, key _ _ _ (by omega) b4, key _ _ _ (by omega) ca⟩)
    have GA : wb.grownBy wb.drew none := yB _ _
    obtain ⟨X, hX⟩ : ∃ X, X = yQ t.length (entN t) za := ⟨_, rfl⟩
    rw [← hX] at hom HB
    have HOM := Kh hom
    clear hX hom hso hsa hba hza qa ha hb hna hgblt
    by_cases hv : st.set = (X : Int)
    ·have qv : (st.set == (X : Int)) = true := by rw [hv]; simp
     have HBT : Hid (stepB t im ss k = true) := Kh (by rw [HB.out, HFA.out.1, HFA.out.2, decide_eq_true hv]; rfl)
     clear hv
     go_wp2
     go_region_held3 (fun W => W.cell? ⟨o, 1, none⟩ = some (.int .i64 (na : Int)) ∧ W.cell? ⟨o, 2, none⟩ = some (.int .i64 st.b) ∧ W.cell? ⟨o, 3, none⟩ = some (.string st.word) ∧ W.cell? ⟨o, 4, none⟩ = some (.int .i64 st.set) ∧ W.cell? ⟨gb, go_ + na * 5 + 4, none⟩ = some (.int .i64 (za : Int)))
      (first | go_keep | exact HCB.out _ hG7 | fail)
      (first | (go_at_call 74; refine (HBA _).out.mono ?_; rintro e w' ⟨rfl, rfl⟩) | (go_at_call 56; (with_reducible refine (HOM.out _ GA).mono ?_); rintro e w7 ⟨rfl, hS7, hG7⟩) | fail)
     have hFAR : ∀ j, some go = some j → w.heap.size ≤ j := fun j e => by have e : go = j := Option.some.inj e; omega
     have HG8 := Kh (zF HGB.out hG7 hFAR)
     have hz7 := hG7.size
     have HS7 := Kh hS7
     clear hS7 hG7 hFAR
     go_wp2
     go_roundg (ss.length - (k + 1))
     case measure => have := HGH.out; omega
     case rel => exact ⟨k + 1, by have := HGH.out; omega, by go_num, Kh (stepsTo_snoc hst.out HBT.out), HS7.out, HG8.out, by omega⟩
    ·have qv : (st.set == (X : Int)) = false := by rw [beq_eq_false_iff_ne]; exact hv
     have HD : Hid (derB t im ss = false) := Kh (tH hk (by rw [HB.out]; simp [hv]))
     clear hv
     go_wp2
     go_region_held3 (fun W => W.cell? ⟨o, 1, none⟩ = some (.int .i64 (na : Int)) ∧ W.cell? ⟨o, 2, none⟩ = some (.int .i64 st.b) ∧ W.cell? ⟨o, 3, none⟩ = some (.string st.word) ∧ W.cell? ⟨o, 4, none⟩ = some (.int .i64 st.set) ∧ W.cell? ⟨gb, go_ + na * 5 + 4, none⟩ = some (.int .i64 (za : Int)))
      (first | go_keep | exact HCB.out _ hG7 | fail)
      (first | (go_at_call 74; refine (HBA _).out.mono ?_; rintro e w' ⟨rfl, rfl⟩) | (go_at_call 56; (with_reducible refine (HOM.out _ GA).mono ?_); rintro e w7 ⟨rfl, hS7, hG7⟩) | fail)
     have hFAR : ∀ j, some go = some j → w.heap.size ≤ j := fun j e => by have e : go = j := Option.some.inj e; omega
     have HG8 := Kh (zF HGB.out hG7 hFAR)
     clear hS7 hG7 hFAR
     go_wp2
     go_ret
     exact ⟨yA HD.out.symm, HG8.out⟩
  ·have HD := Kh (tH hk (stepB_op (t := t) (im := im) HST.out hp1 hp2 hp3))
   have q1 : (st.op == 1) = false := by rw [beq_eq_false_iff_ne]; exact hp1
   have q2 : (st.op == 2) = false := by rw [beq_eq_false_iff_ne]; exact hp2
   have q3 : (st.op == 3) = false := by rw [beq_eq_false_iff_ne]; exact hp3
   go_wp2
   go_ret
   exact ⟨yA HD.out.symm, HGB.out⟩
theorem id_left {t : List (List Int)} {im : List Int} (hg : Good t im) {y : Nat} (hy : y < t.length) : entN t (oneN t) y = y ∧ entN t y (oneN t) = y := by
 obtain ⟨e, h1, h2, h3⟩ := hg.ident
 have : oneN t = e := by rw [oneN, h1]; rfl
 rw [this]
 have := List.all_eq_true.1 h3 y (List.mem_range.2 hy)
 simp only [idAt, Bool.and_eq_true, beq_iff_eq] at this
 exact this
theorem walkV_head {t : List (List Int)} {im : List Int} (hg : Good t im) (c : UInt8) (hc : uW im.length c = true) : walkV t im (oneN t) [c] = (im.getD (c.toNat - 97) 0).toNat := by
 simp only [uW, decide_eq_true_eq] at hc
 have h1 := tT.1 hg.inb (c.toNat - 97) (by omega)
 exact (id_left hg (by omega)).1
theorem u8_sub {c : Nat} (h : 97 ≤ c) (h2 : c < 256) : IntKind.u8.wrap ((c : Int) - 97) = ((c - 97 : Nat) : Int) := by unfold IntKind.wrap; simp [IntKind.signed, IntKind.bits]; omega
set_option maxRecDepth 100000 in
set_option maxHeartbeats 800000 in
theorem value14_any (B : Nat) (w : World) (v iv : Value) (t : List (List Int)) (im : List Int) (s : ByteArray) (h : Mat B w v t) (hi : Row B w iv (ints im)) (hg : Good t im) (hs : yI s im.length = true) :
  Calls Tryd.prog 32 #[v, iv, .string s] w fun e w' => e = .returned (.int .i64 ((walkV t im (oneN t) s.data.toList : Nat) : Int)) ∧ ∃ m, w' = w.drewN m := by
 have hsh := (uE hg.valid).1
 have hz : s.size ≤ 2048 := by simp only [yI, Bool.and_eq_true, decide_eq_true_eq] at hs; omega
 have HID := Kh (identity14_any B w v t h hsh)
 rw [(tS hg).2] at HID
 obtain ⟨b, off, cap, RB, RO, RC, rfl, hc1, hc2, hq⟩ := h.sq hsh
 have HIN := Kh (in14_any B w (some ⟨b, off, none⟩) t.length cap iv im (by have := hg.le; omega) hi)
 rw [hg.inb] at HIN
 obtain ⟨ib, io, ic, rfl, _, hi1, hi2, hra⟩ := hi.some_ (by rw [zP]; exact hg.im0)
 rw [zP] at hi1 HIN ⊢
 have h0 := hg.im0
 have h6 := hg.im6
 have hmx : cap ≤ 9223372036854775807 := by unfold maxLen at hc2; omega
 have hmi : ic ≤ 9223372036854775807 := by unfold maxLen at hi2; omega
 have HQ := Kh hq; have HRA := Kh hra; have HG := Kh hg; have HS := Kh hs; have HSH := Kh hsh
 have hn12 := hg.le
 have HV : ∀ W : World, Hid (Calls Tryd.prog 70 #[.string s, .int .i64 im.length] W fun e w' => e = .returned (.bool true) ∧ W = w') := fun W => Kh (by rw [← hs]; exact valid01_any s im.length W (by unfold maxLen; omega))
 clear h hi hq hra hg hs hsh hi2 hc2
 obtain ⟨eb, heb⟩ : ∃ eb, eb = s.toList.isEmpty := ⟨_, rfl⟩
 have hes : eb = decide (s.size = 0) := by
  rw [heb, ByteArray.toList_eq, Bool.eq_iff_iff, List.isEmpty_iff, decide_eq_true_eq]
  constructor
  ·intro e; have := congrArg List.length e; simpa using this
  ·intro e; exact List.eq_nil_of_length_eq_zero (by simpa using e)
 have heb2 := heb.symm
 clear heb
 by_cases h0s : s.size = 0
 ·have HE : Hid (walkV t im (oneN t) s.data.toList = oneN t) := Kh (by
   have : s.data.toList = [] := List.eq_nil_of_length_eq_zero (by simpa using h0s)
   rw [this]; rfl)
  rw [decide_eq_true h0s] at hes
  subst hes
  go_enter Tryd.func32, Tryd.ntmps32
  go_wp2_with fail
  refine HIN.out.mono ?_
  rintro e w' ⟨rfl, rfl⟩
  go_wp2_with fail
  refine (HV _).out.mono ?_
  rintro e w' ⟨rfl, rfl⟩
  go_wp2_with fail
  refine HID.out.mono ?_
  rintro e w' ⟨rfl, rfl⟩
  go_wp2
  go_ret
  exact ⟨yD (by rw [HE.out]), 0, rfl⟩
 ·rw [decide_eq_false h0s] at hes
  subst hes
  have hk0 : 0 < s.size := by omega
  have hb0 := byte_ok HS.out 0 hk0
  obtain ⟨c0, hc0⟩ : ∃ c, c = s[0].toNat := ⟨_, rfl⟩
  have h10 := tT.1 HG.out.inb (c0 - 97) (by omega)
  obtain ⟨x0, hx0⟩ : ∃ y : Nat, (y : Int) = im.getD (c0 - 97) 0 := ⟨(im.getD (c0 - 97) 0).toNat, by omega⟩
  have ci0 := HRA.out.int (c0 - 97) (by omega)
  rw [← hx0] at ci0 h10
  have hx0l : x0 < t.length := by omega
  have hcw0 : IntKind.u8.wrap ((s[0].toNat : Int) - 97) = ((c0 - 97 : Nat) : Int) := by
   have := UInt8.toNat_lt s[0]
   rw [hc0]; exact u8_sub (by omega) (by omega)
  have HX0 : Hid (x0 = walkV t im (oneN t) (s.data.toList.take 1)) := Kh (by
   have e := byteV_at s 0 hk0
   rw [List.take_zero, List.nil_append] at e
   rw [show (1 : Nat) = 0 + 1 from rfl, e, walkV_head HG.out _ (by simp only [uW, decide_eq_true_eq]; omega), ← hc0, ← hx0]; rfl)
  obtain ⟨y0, hy0⟩ : ∃ y0, y0 = c0 - 97 := ⟨_, rfl⟩
  have hy6 : y0 < im.length := by omega
  have hy6' : (y0 : Int) < im.length := by omega
  rw [← hy0] at hcw0 ci0
  clear hb0 h10 hx0 hc0 hy0
  go_enter Tryd.func32, Tryd.ntmps32
  go_wp2_with fail
  refine HIN.out.mono ?_
  rintro e w' ⟨rfl, rfl⟩
  go_wp2_with fail
  refine (HV _).out.mono ?_
  rintro e w' ⟨rfl, rfl⟩
  go_wp2
  go_loopg [7, 8] (s.size - 1) (fun gh v7 i wr => ∃ (k m x : Nat), gh + k = s.size ∧ i = .int .i64 (k : Int) ∧ v7 = .int .i64 (x : Int) ∧ x < t.length ∧ Hid (x = walkV t im (oneN t) (s.data.toList.take k)) ∧ wr = w.drewN m)
  case atStart => exact ⟨1, 0, x0, by omega, rfl, rfl, hx0l, HX0, rfl⟩
  case round =>
   clear hx0l HX0 ci0 hy6 hy6'
   obtain ⟨k, m, x, hgh, rfl, rfl, hxl, hxe, rfl⟩ := hrel
   have HGH := Kh hgh; clear hgh
   by_cases hk : k < s.size
   ·have hk' : (k : Int) < s.size := by omega
    have hb := byte_ok HS.out k hk
    obtain ⟨c, hc⟩ : ∃ c, c = s[k].toNat := ⟨_, rfl⟩
    have h1 := tT.1 HG.out.inb (c - 97) (by omega)
    obtain ⟨y, hy⟩ : ∃ y : Nat, (y : Int) = im.getD (c - 97) 0 := ⟨(im.getD (c - 97) 0).toNat, by omega⟩
    have ci := HRA.out.int (c - 97) (by omega)
    rw [← hy] at ci h1
    have hyl : y < t.length := by omega
    have c0 := HQ.out.hd x hxl
    have c1 := HQ.out.el x y hxl hyl
    have hrc := HQ.out.cap x hxl
    have hrcm : RC x ≤ 9223372036854775807 := by have := hrc.2; unfold maxLen at this; omega
    obtain ⟨z, hz0⟩ : ∃ z, z = entN t x y := ⟨_, rfl⟩
    have hzl : z < t.length := by rw [hz0]; exact uH HSH.out hxl hyl
    rw [← hz0] at c1
    have HZ : Hid (z = walkV t im (oneN t) (s.data.toList.take (k + 1))) := Kh (by
     rw [byteV_at s k hk, walkV_snoc, ← hxe.out, ← hc, ← hy]; exact hz0)
    have hcw : IntKind.u8.wrap ((s[k].toNat : Int) - 97) = ((c - 97 : Nat) : Int) := by
     have := UInt8.toNat_lt s[k]
     rw [hc]; exact u8_sub (by omega) (by omega)
    obtain ⟨y0, hy0⟩ : ∃ y0, y0 = c - 97 := ⟨_, rfl⟩
    have hy6 : y0 < im.length := by omega
    have hy6' : (y0 : Int) < im.length := by omega
    rw [← hy0] at hcw ci
    have hxl' : (x : Int) < t.length := by omega
    have hyl' : (y : Int) < t.length := by omega
    clear hz0 hy hb h1 hy0 hc
    go_wp2
    go_quiet (fail)
    go_wp2
    go_roundg (s.size - (k + 1))
    case measure => have := HGH.out; omega
    case rel => exact ⟨k + 1, _, z, by omega, by go_num, rfl, hzl, HZ, rfl⟩
   ·have hkn : s.data.toList.take k = s.data.toList := List.take_of_length_le (by simp; omega)
    rw [hkn] at hxe
    go_wp2
    go_ret
    exact ⟨yD (by rw [← hxe.out]), m, rfl⟩
end Go.Proofs.YtdjhoadoiknaoaaDoor
