/- Part 41 of the proof: DerBegin. -/
import Derived.Test.YtdjhoadoiknaoaaDoorZw40
set_option linter.unusedVariables false
set_option linter.unusedSimpArgs false
namespace Go.Proofs.YtdjhoadoiknaoaaDoor
open Go.RowKit
theorem letter_word {t : List (List Int)} {im : List Int} (hg : Good t im) {j : Nat} (hj : j < im.length) : wordValid (strOfNums [97 + (j : Int)]) im.length = true ∧ walkV t im (oneN t) (strOfNums [97 + (j : Int)]).data.toList = (im.getD j 0).toNat := by
  have h0 := hg.im0
  have h6 := hg.im6
  have hd : (strOfNums [97 + (j : Int)]).data.toList = [UInt8.ofNat (97 + j)] := by
    rw [strOfNums_data]
    simp only [List.map_cons, List.map_nil, List.cons.injEq, and_true]
    congr 1
  have hb : (UInt8.ofNat (97 + j)).toNat = 97 + j := by
    simp; omega
  refine ⟨?_, ?_⟩
  · unfold wordValid
    rw [hd, strOfNums_size]
    simp only [List.all_cons, List.all_nil, Bool.and_true, Bool.and_eq_true, decide_eq_true_eq, okByte, hb, List.length_cons, List.length_nil]
    omega
  · rw [hd]
    show entN t (oneN t) (im.getD ((UInt8.ofNat (97 + j)).toNat - 97) 0).toNat = _
    rw [hb, Nat.add_sub_cancel_left]
    have hin := inB_iff.1 hg.inb j hj
    obtain ⟨e, he, hel, hid⟩ := hg.ident
    have e1 : oneN t = e := by unfold oneN; rw [he]; rfl
    rw [e1]
    have := List.all_eq_true.1 hid (im.getD j 0).toNat (List.mem_range.2 (by omega))
    simp [idAt] at this
    exact this.1
theorem word_nil {t : List (List Int)} {im : List Int} (hg : Good t im) : wordValid ⟨#[]⟩ im.length = true ∧ walkV t im (oneN t) (⟨#[]⟩ : ByteArray).data.toList = oneN t := by
  have h0 := hg.im0
  have h6 := hg.im6
  refine ⟨?_, rfl⟩
  unfold wordValid
  simp [ByteArray.size]
  omega
def DBeginOk (F C : Nat) (w : World) (p go dp g : Nat) (t : List (List Int)) (im : List Int) (ix : List Nat) (e : Ending) (w' : World) : Prop :=
  e = .returned (.tuple #[]) ∧ ∃ ss' ix', DState F C w w' p go dp g t im ix ss' ix' ∧ ∀ j, j < (genL t im).length → ix'.getD ((genL t im).getD j 0) 0 ≠ 0
theorem genL_get {t : List (List Int)} {im : List Int} {j : Nat} (hj : j < im.length) : (genL t im).getD (j + 1) 0 = 2 ^ (im.getD j 0).toNat := by
  unfold genL
  rw [List.getD_cons_succ, getD_map' (x := 0) hj]
set_option maxRecDepth 100000 in
set_option maxHeartbeats 1000000 in
theorem dbegin_any (F C B : Nat) (w : World) (p go dp g : Nat) (v iv : Value) (t : List (List Int)) (im : List Int) (ss : List StepV) (ix : List Nat) (hst : DState F C w w p go dp g t im ix ss ix) (hgd : Good t im) (hB : B ≤ w.heap.size) (hm : Mat B w v t) (hi : Row B w iv (ints im)) (hgo : go < w.heap.size) (hFC : F ≤ C) (htF : 1 < F) :
    Calls Tryd.prog 75 #[.pointer (some ⟨dp, 0, none⟩), v, iv] w (DBeginOk F C w p go dp g t im ix) := by
  have hn := hgd.le
  have h6 := hgd.im6
  have HGN := Lib.hid (generators_any B w v iv t im hB hm hi hgd)
  have HGD := Lib.hid hgd; have HST := Lib.hid hst
  obtain ⟨N, hN⟩ : ∃ N, N = 2 ^ t.length := ⟨_, rfl⟩
  have HN := Lib.hid hN
  have hN4 : N ≤ 4096 := by have := pow_le hn; omega
  obtain ⟨ma, mc, rfl⟩ := hm.shape
  obtain ⟨ia, ic, rfl⟩ := hi.shape
  rw [ints_length] at HGN ⊢
  have hdl : dp < w.heap.size := by obtain ⟨sa, sc, hb, _⟩ := hst.der.box; exact lt_of_block hb
  have hgl := hst.der.arr.lt
  clear hgd hm hi hst hN
  go_enter Tryd.func75, Tryd.ntmps75
  go_wp2_with fail
  refine HGN.out.mono ?_
  rintro e w1 ⟨sa0, sc0, rfl, hown, hg1⟩
  obtain ⟨l, hl⟩ : ∃ l, l = genL t im := ⟨_, rfl⟩
  have hlen : l.length = im.length + 1 := by rw [hl, genL_length]
  have hll : l.length ≤ 7 := by omega
  have hl1 : 1 ≤ l.length := by omega
  have HLT : Hid (∀ b ∈ l, b < 2 ^ t.length) := Lib.hid (by rw [hl]; exact genL_lt HGD.out)
  rw [← hl] at hown ⊢
  obtain ⟨kb, rfl, hk1, hk2, harr⟩ := owns_some hown hl1
  have hkl := (hown.lt kb rfl).1
  have HFR : Hid (FamRow w1 dp g go kb l) := Lib.hid ⟨harr, by omega, by omega, by omega⟩
  have HD1 := Lib.hid (HST.out.quiet hg1)
  have HD0 : Hid (DState F C w1 w1 p go dp g t im ix ss ix) := Lib.hid ⟨HD1.out.sets, HD1.out.der, HD1.out.ok, IxLe.refl _, GrownBut.refl _ _, HD1.out.tab, HD1.out.sz⟩
  have HG1 := Lib.hid hg1; have HL := Lib.hid hl; have HLEN := Lib.hid hlen
  clear hown harr hg1 hl hlen hk1 hk2 HGN HD1
  go_wp2
  go_loopg [13] l.length (fun gh i wr => ∃ (k : Nat) (ss : List StepV) (ix' : List Nat), gh + k = l.length ∧ i = .int .i64 k ∧ Hid (DState F C w1 wr p go dp g t im ix ss ix') ∧ Hid (∀ j, j < k → ix'.getD (l.getD j 0) 0 ≠ 0))
  case atStart => exact ⟨0, ss, ix, rfl, rfl, HD0, Lib.hid (fun i hi => absurd hi (by omega))⟩
  case round =>
    clear HD0
    obtain ⟨k, ss, ix', hgh, rfl, HS, HP⟩ := hrel
    have HGH := Lib.hid hgh
    clear hgh
    by_cases hk : ¬ k < l.length
    · have hk' : ¬ (k : Int) < l.length := by omega
      have HE : Hid (k = l.length) := Lib.hid (by have := HGH.out; omega)
      go_wp2
      go_end0
      refine ⟨rfl, ss, ix', ⟨HS.out.sets, HS.out.der, HS.out.ok, HS.out.le, derF_trans (derF_of HG1.out (by simp)) HS.out.but, HS.out.tab, HS.out.sz⟩, ?_⟩
      rw [← HL.out, ← HE.out]; exact HP.out
    replace hk : k < l.length := by omega
    have hk' : (k : Int) < l.length := by omega
    have hfr := HFR.out.but HS.out.but
    have ck := hfr.arr.nat k hk
    obtain ⟨a, ha⟩ : ∃ a, a = l.getD k 0 := ⟨_, rfl⟩
    have haN : a < N := by rw [ha, HN.out]; exact HLT.out _ (getD_memN hk)
    rw [← ha] at ck
    have hle := HS.out.ok.i.le
    rw [← HN.out] at hle
    have HAK := Lib.hid ha
    clear hfr ha
    rcases Nat.eq_zero_or_pos k with hk0 | hk0
    · have hk0' : ¬ (0 : Int) < k := by omega
      have HK0 := Lib.hid hk0
      clear hk0
      obtain ⟨wb, hwb⟩ : ∃ W, W = wr.alloc (.cells #[.int .i64 1, .int .i64 0, .int .i64 0, .string ⟨#[]⟩, .int .i64 (a : Int)] 60) := ⟨_, rfl⟩
      have hgb : wr.grownBy wb none := by rw [hwb]; exact World.grownBy_alloc wr _ none
      have hbb := heap_alloc_new wr (.cells #[.int .i64 1, .int .i64 0, .int .i64 0, .string ⟨#[]⟩, .int .i64 (a : Int)] 60)
      rw [← hwb] at hbb
      obtain ⟨o, ho⟩ : ∃ o, o = wr.heap.size := ⟨_, rfl⟩
      rw [← ho] at hbb
      have HWB := Lib.hid hwb; have HO := Lib.hid ho
      have HSB := Lib.hid (HS.out.quiet hgb)
      obtain ⟨b0, b1, b2, b3, b4⟩ := box5_cells hbb
      clear hwb hgb hbb ho
      go_upto_region 4 with fail
      rw [← HWB.out, ← HO.out]
      go_wp2_with fail
      refine (dadd_any C wb dp p g t.length ss ix' ⟨1, 0, 0, ⟨#[]⟩, (a : Int)⟩ a HSB.out.der (by omega) (by rw [← HN.out]; exact haN) rfl hn HSB.out.sz).mono ?_
      intro e w5 h2
      obtain rfl := h2.1
      have hwn := word_nil HGD.out
      have h3 := HSB.out.ok.word HGD.out hwn.1 (x := a) (by rw [hwn.2, HAK.out, HL.out, HK0.out]; rfl)
      have h4 := addS_le (st := ⟨1, 0, 0, ⟨#[]⟩, (a : Int)⟩) HSB.out.ok.i (x := a) (by rw [← HN.out]; exact haN)
      have HD5 := Lib.hid (HSB.out.add h2 h3 (by rw [← HN.out]; exact haN) hFC htF)
      have HP5 : Hid (∀ j, j < k + 1 → (addS ss ix' ⟨1, 0, 0, ⟨#[]⟩, (a : Int)⟩ a).2.getD (l.getD j 0) 0 ≠ 0) := Lib.hid (fun j hj => by
        rcases Nat.lt_succ_iff_lt_or_eq.1 hj with hj | rfl
        · exact h4.1.ne (HP.out j hj)
        · rw [← HAK.out]; exact h4.2)
      clear h2 h3 h4 hwn b0 b1 b2 b3 b4 ck
      go_wp2
      go_roundg (l.length - (k + 1))
      case measure => have := HGH.out; omega
      case rel => exact ⟨k + 1, _, _, by have := HGH.out; omega, by go_num, HD5, HP5⟩
    · obtain ⟨j, hj⟩ : ∃ j, k = j + 1 := ⟨k - 1, by omega⟩
      have hk0' : (0 : Int) < k := by omega
      have hj7 : j ≤ 6 := by omega
      have HJ := Lib.hid hj
      have hu8 : IntKind.u8.wrap ((k : Int) - 1) = (k : Int) - 1 := IntWalk.u8_in _ (by omega)
      have hby : IntKind.u8.wrap (97 + ((k : Int) - 1)) = 97 + ((k : Int) - 1) := IntWalk.u8_in _ (by omega)
      obtain ⟨X, hX⟩ : ∃ X, X = strOfNums [97 + ((k : Int) - 1)] := ⟨_, rfl⟩
      have hcv : ∀ (W : World) (g : Nat), W.cell? ⟨g, 0, none⟩ = some (.int .u8 (97 + ((k : Int) - 1))) → (convert 89 9 (.slice (some ⟨g, 0, none⟩) 1 1)).run Tryd.prog W = .ok (.string X) W := fun W g h => by rw [hX]; exact run_byte1 89 5 Tryd.underlying89 Tryd.underlying5 9 Tryd.underlying9 h
      have HX : Hid (X = strOfNums [97 + (j : Int)]) := Lib.hid (by rw [hX, show (k : Int) - 1 = (j : Int) by omega])
      obtain ⟨wb, hwb⟩ : ∃ W, W = wr.alloc (.cells #[.int .i64 1, .int .i64 0, .int .i64 0, .string ⟨#[]⟩, .int .i64 (a : Int)] 60) := ⟨_, rfl⟩
      have hgb : wr.grownBy wb none := by rw [hwb]; exact World.grownBy_alloc wr _ none
      have hbb := heap_alloc_new wr (.cells #[.int .i64 1, .int .i64 0, .int .i64 0, .string ⟨#[]⟩, .int .i64 (a : Int)] 60)
      rw [← hwb] at hbb
      obtain ⟨o, ho⟩ : ∃ o, o = wr.heap.size := ⟨_, rfl⟩
      rw [← ho] at hbb
      obtain ⟨wc, hwc⟩ : ∃ W, W = wb.alloc (.cells #[.int .u8 (97 + ((k : Int) - 1))] 5) := ⟨_, rfl⟩
      have hgc : wb.grownBy wc none := by rw [hwc]; exact World.grownBy_alloc wb _ none
      have hbc := block_kept hbb hgc (by simp)
      have hgs := grownBy_setCell wc ⟨o, 3, none⟩ (.string X)
      have hbs := heap_setCell_same wc o 3 _ _ (.string X) hbc
      obtain ⟨wd, hwd⟩ : ∃ W, W = wc.setCell ⟨o, 3, none⟩ (.string X) := ⟨_, rfl⟩
      rw [← hwd] at hgs hbs
      have hbs' : wd.heap[o]? = some (.cells #[.int .i64 1, .int .i64 0, .int .i64 0, .string X, .int .i64 (a : Int)] 60 (0, 0)) := by rw [hbs]; simp
      have HWB := Lib.hid hwb; have HO := Lib.hid ho; have HWC := Lib.hid hwc; have HWD := Lib.hid hwd
      have HSC := HS.out.quiet (grown_far hgb hgc (by simp))
      have hok : C ≤ o := by have := HS.out.sz; omega
      have HSD : Hid (DState F C w1 wd p go dp g t im ix ss ix') := Lib.hid (by
        obtain ⟨sa, sc, hb, how⟩ := HSC.der.box
        have hod : dp ≠ o := fun e => by rw [e, hbc] at hb; simp at hb
        have hog : g ≠ o := fun e => (HSC.der.arr.type_ne hbc (by decide)) e
        have hoo : o < wc.heap.size := lt_of_block hbc
        have hor : wr.heap.size ≤ o := Nat.le_of_eq ho.symm
        obtain ⟨sa2, sc2, hb2, how2⟩ := HS.out.der.box
        refine ⟨HSC.sets.kept hgs (fun q e => by have e : o = q := Option.some.inj e; omega), ?_, HSC.ok, HSC.le, HSC.but.step hgs (fun q e => .inr (by have e : o = q := Option.some.inj e; have := HS.out.but.size; omega)), HSC.tab.kept hgs (fun e => by have e : o = 1 := Option.some.inj e; omega), Nat.le_trans HSC.sz hgs.size⟩
        have hbw := block_kept (block_kept hb2 hgb (by simp)) hgc (by simp)
        have how3 := ownsRow_keptN (ownsRow_keptN how2 hgb) hgc
        refine ⟨⟨sa2, sc2, block_kept hbw hgs (fun e => hod (Option.some.inj e).symm), how3.kept hgs ?_⟩, HSC.der.arr.kept hgs (fun e => hog (Option.some.inj e).symm), HSC.der.len, HSC.der.lo⟩
        rcases hv : (Value.slice sa2 ss.length sc2).ownBlock with _ | q
        · exact .inl rfl
        · exact .inr (fun e => by have e : q = o := Option.some.inj e; have := (how2.lt q hv).2; omega))
      obtain ⟨b0, b1, b2, b3, b4⟩ := box5_cells hbb
      have c3 : (wb.alloc (.cells #[.int .u8 (97 + ((k : Int) - 1))] 5)).cell? ⟨o, 3, none⟩ = some (.string ⟨#[]⟩) := by rw [← hwc]; exact (box5_cells hbc).2.2.2.1
      obtain ⟨d0, d1, d2, d3, d4⟩ := box5_cells hbs'
      have f3 : (wb.alloc (.cells #[.int .u8 (97 + ((k : Int) - 1))] 5)).frozen? ⟨o, 3, none⟩ = false := by rw [← hwc]; exact frozen_block hbc 3
      clear hwb hgb hbb ho hwc hgc hbc hgs hbs hbs' hwd HSC hX hj
      go_upto_region 5 with fail
      rw [← HWB.out, ← HO.out]
      go_upto_region 6 with fail
      rw [← HWC.out, ← HWD.out]
      clear b0 b1 b2 b3 b4 c3 f3 hcv hu8 hby ck
      go_wp2_with fail
      refine (dadd_any C wd dp p g t.length ss ix' ⟨1, 0, 0, X, (a : Int)⟩ a HSD.out.der (by omega) (by rw [← HN.out]; exact haN) rfl hn HSD.out.sz).mono ?_
      intro e w5 h2
      obtain rfl := h2.1
      have hwn := letter_word HGD.out (j := j) (by have := HLEN.out; have := HJ.out; omega)
      rw [← HX.out] at hwn
      have h3 := HSD.out.ok.word HGD.out hwn.1 (x := a) (by rw [hwn.2, HAK.out, HL.out, HJ.out, genL_get (by have := HLEN.out; have := HJ.out; omega)])
      have h4 := addS_le (st := ⟨1, 0, 0, X, (a : Int)⟩) HSD.out.ok.i (x := a) (by rw [← HN.out]; exact haN)
      have HD5 := Lib.hid (HSD.out.add h2 h3 (by rw [← HN.out]; exact haN) hFC htF)
      have HP5 : Hid (∀ j, j < k + 1 → (addS ss ix' ⟨1, 0, 0, X, (a : Int)⟩ a).2.getD (l.getD j 0) 0 ≠ 0) := Lib.hid (fun j hj => by
        rcases Nat.lt_succ_iff_lt_or_eq.1 hj with hj | rfl
        · exact h4.1.ne (HP.out j hj)
        · rw [← HAK.out]; exact h4.2)
      clear h2 h3 h4 hwn d0 d1 d2 d3 d4
      go_wp2
      go_roundg (l.length - (k + 1))
      case measure => have := HGH.out; omega
      case rel => exact ⟨k + 1, _, _, by have := HGH.out; omega, by go_num, HD5, HP5⟩
end Go.Proofs.YtdjhoadoiknaoaaDoor
