/- Part 43 of the proof: Derive. -/
import Derived.Test.YtdjhoadoiknaoaaDoorZw42
set_option linter.unusedVariables false
set_option linter.unusedSimpArgs false
namespace Go.Proofs.YtdjhoadoiknaoaaDoor
open Go.RowKit
theorem find_cases (ss : List StepV) (s : Int) : (∃ i : Nat, i < ss.length ∧ findStep ss s = i ∧ hits s (ss.getD i default) = true) ∨ (findStep ss s = -1 ∧ ∀ i, i < ss.length → hits s (ss.getD i default) = false) := by
  unfold findStep
  cases h : ss.findIdx? (hits s) with
  | some i =>
    obtain ⟨hi, h1, _⟩ := List.findIdx?_eq_some_iff_getElem.1 h
    exact .inl ⟨i, hi, rfl, by simpa [List.getD, List.getElem?_eq_getElem hi] using h1⟩
  | none =>
    refine .inr ⟨rfl, fun i hi => ?_⟩
    have := List.findIdx?_eq_none_iff.1 h _ (List.getElem_mem hi)
    simpa [List.getD, List.getElem?_eq_getElem hi] using this
theorem step_take {t : List (List Int)} {im : List Int} {ss : List StepV} {k i : Nat} (hi : i < k) (h : stepB t im ss i = true) : stepB t im (ss.take k) i = true := by
  have key : ∀ j, j < k → (ss.take k).getD j default = ss.getD j default := fun j hj => by
    rw [List.getD_eq_getElem?_getD, List.getElem?_take_of_lt hj, ← List.getD_eq_getElem?_getD]
  simp only [stepB] at h ⊢
  rw [key i hi]
  split at h
  · rename_i h1; rw [if_pos h1]; exact h
  rename_i h1
  rw [if_neg h1]
  split at h
  · rename_i h2
    rw [if_pos h2]
    simp only [Bool.and_eq_true] at h
    have ha := befB_iff.1 h.1.1.2
    have hb := befB_iff.1 h.1.2
    rw [key _ (by omega), key _ (by omega)]
    simp only [Bool.and_eq_true]; exact h
  rename_i h2
  rw [if_neg h2]
  split at h
  · rename_i h3
    rw [if_pos h3]
    simp only [Bool.and_eq_true] at h
    have ha := befB_iff.1 h.1.1.2
    rw [key _ (by omega)]
    simp only [Bool.and_eq_true]; exact h
  · cases h
theorem fbox_cells {w : World} {p e : Nat} {x0 x1 : Value} (h : w.heap[p]? = some (.cells #[x0, x1] e (0, 0))) : w.cell? ⟨p, 0, none⟩ = some x0 ∧ w.cell? ⟨p, 1, none⟩ = some x1 := by
  have c0 := cell_block h 0 (by simp)
  have c1 := cell_block h 1 (by simp)
  exact ⟨by simpa using c0, by simpa using c1⟩
theorem take_getD {ss : List StepV} {k j : Nat} (hj : j < k) : (ss.take k).getD j default = ss.getD j default := by
  rw [List.getD_eq_getElem?_getD, List.getElem?_take_of_lt hj, ← List.getD_eq_getElem?_getD]
theorem take_len {ss : List StepV} {i : Nat} (hi : i < ss.length) : (ss.take (i + 1)).length = i + 1 := by
  rw [List.length_take]; omega
theorem take_lt {ss : List StepV} {k j : Nat} (hj : j < (ss.take k).length) : j < k ∧ j < ss.length := by
  rw [List.length_take] at hj; omega
theorem StepsAt.take {w : World} {g : Nat} {ss : List StepV} (h : StepsAt w g ss) (k : Nat) : StepsAt w g (ss.take k) where
  lt := h.lt
  op := fun j hj => by rw [take_getD (take_lt hj).1]; exact h.op j (take_lt hj).2
  a := fun j hj => by rw [take_getD (take_lt hj).1]; exact h.a j (take_lt hj).2
  b := fun j hj => by rw [take_getD (take_lt hj).1]; exact h.b j (take_lt hj).2
  word := fun j hj => by rw [take_getD (take_lt hj).1]; exact h.word j (take_lt hj).2
  set := fun j hj => by rw [take_getD (take_lt hj).1]; exact h.set j (take_lt hj).2
theorem take_steps {t : List (List Int)} {im : List Int} {ss : List StepV} (h : stepsTo t im ss ss.length) (k : Nat) : stepsTo t im (ss.take k) (ss.take k).length := fun j hj => step_take (take_lt hj).1 (h j (take_lt hj).2)
theorem take_words {ss : List StepV} (h : ∀ i, i < ss.length → (ss.getD i default).word.size ≤ maxLen) (k : Nat) : ∀ i, i < (ss.take k).length → ((ss.take k).getD i default).word.size ≤ maxLen := fun j hj => by rw [take_getD (take_lt hj).1]; exact h j (take_lt hj).2
theorem DerAt.steps {C dp p g n : Nat} {w : World} {ss : List StepV} {ix : List Nat} (h : DerAt C w dp p g n ss ix) (h0 : 0 < ss.length) : ∃ q sc, w.heap[dp]? = some (.cells #[.pointer (some ⟨p, 0, none⟩), .slice (some ⟨q, 0, none⟩) ss.length sc, .slice (some ⟨g, 0, none⟩) (2 ^ n) (2 ^ n)] 95 (0, 0)) ∧ StepsAt w q ss ∧ ss.length ≤ sc ∧ sc ≤ maxLen := by
  obtain ⟨sa, sc, hb, ho⟩ := h.box
  rcases id ho.2 with ⟨_, e⟩ | ⟨gg, cap, cur, e, hc, hg, h1, h2, _⟩
  · omega
  · simp only [Value.slice.injEq] at e
    obtain ⟨rfl, _, rfl⟩ := e
    exact ⟨gg, sc, hb, StepsAt.of_owns ho, h1, h2⟩
theorem DState.typed {F C p go dp g q e : Nat} {w0 w w' : World} {t : List (List Int)} {im : List Int} {ix0 ix : List Nat} {ss : List StepV} {c : Array Value} {m : Nat × Nat} (h : DState F C w0 w p go dp g t im ix0 ss ix) (hq : w.heap[q]? = some (.cells c e m)) (h1 : 60 ≠ e) (h2 : 3 ≠ e) (h3 : 95 ≠ e) (hC : C ≤ q) (h0 : w0.heap.size ≤ q) (hg : w.grownBy w' (some q)) (hFC : F ≤ C) (htF : 1 < F) : DState F C w0 w' p go dp g t im ix0 ss ix := by
  obtain ⟨sa, sc, hb, how⟩ := h.der.box
  have hdq : dp ≠ q := fun e2 => by
    subst e2
    rw [hb] at hq
    simp only [Option.some.injEq, Obj.cells.injEq] at hq
    exact h3 hq.2.1
  have hgq : g ≠ q := h.der.arr.type_ne hq h2
  exact ⟨h.sets.kept hg (fun k e => by have e : q = k := Option.some.inj e; omega), ⟨⟨sa, sc, block_kept hb hg (fun e => hdq (Option.some.inj e).symm), how.kept hg (.inr (owns_ne how hq h1))⟩, h.der.arr.kept hg (fun e => hgq (Option.some.inj e).symm), h.der.len, h.der.lo⟩, h.ok, h.le, h.but.step hg (fun k e => by have e : q = k := Option.some.inj e; exact .inr (by omega)), h.tab.kept hg (fun e => by have e : q = 1 := Option.some.inj e; omega), Nat.le_trans h.sz hg.size⟩
theorem DState.more {F C p go dp g : Nat} {w0 w1 w : World} {t : List (List Int)} {im : List Int} {ix0 ix1 ix : List Nat} {ss1 ss : List StepV} (h : DState F C w0 w1 p go dp g t im ix0 ss1 ix1) (k : DState F C w1 w p go dp g t im ix1 ss ix) : DState F C w0 w p go dp g t im ix0 ss ix :=
  ⟨k.sets, k.der, k.ok, h.le.trans k.le, derF_trans h.but k.but, k.tab, k.sz⟩
def DeriveOk (w : World) (t : List (List Int)) (im : List Int) (s : Int) (e : Ending) (w' : World) : Prop :=
  w.grownBy w' none ∧ ((derE t im s ≠ 0 ∧ e = .returned (.tuple #[.slice none 0 0, .int .i64 (derE t im s)])) ∨
    (derE t im s = 0 ∧ ∃ (sa : Option Addr) (sc : Nat) (l : List StepV) (S : Nat), e = .returned (.tuple #[.slice sa l.length sc, .int .i64 0]) ∧ w'.ownsRow w.heap.size 60 5 (.slice sa l.length sc) l.length (stepVals l) ∧ stepsTo t im l l.length ∧ 0 < l.length ∧ l.length ≤ 4096 ∧ (∀ i, i < l.length → (l.getD i default).word.size ≤ maxLen) ∧ (l.getD (l.length - 1) default).set = (S : Int) ∧ S < 2 ^ t.length ∧ s.toNat &&& S = s.toNat))
theorem hit_in {t : List (List Int)} {im : List Int} {ss : List StepV} {ix : List Nat} {s : Int} {i : Nat} (hg : Good t im) (h : DerS t im ss ix) (hs : setB t.length s = true) (hi : i < ss.length) (hh : hits s (ss.getD i default) = true) : withinB (intL (closeL t im)) s = true ∧ ∃ S : Nat, (ss.getD i default).set = (S : Int) ∧ S < 2 ^ t.length ∧ s.toNat &&& S = s.toNat := by
  obtain ⟨S, h1, h2, h3⟩ := h.d.uc i hi
  have hp : 2 ^ t.length ≤ 2 ^ 12 := Nat.pow_le_pow_right (by omega) hg.le
  simp only [setB, decide_eq_true_eq] at hs
  obtain ⟨x, rfl⟩ : ∃ x : Nat, s = (x : Int) := ⟨s.toNat, by omega⟩
  have hx : x < 2 ^ t.length := by omega
  simp only [hits, h1, beq_iff_eq] at hh
  rw [i64_and_nat S x (by omega) (by omega)] at hh
  have hh : S &&& x = x := by omega
  have hx2 : x &&& S = x := by rw [Nat.and_comm]; exact hh
  obtain ⟨b, hb, hbs⟩ := under_iff.1 h3
  exact ⟨within_uc hg hx (under_iff.2 ⟨b, hb, sub_trans hx2 hbs⟩), S, h1, h2, by rw [Int.toNat_natCast]; exact hx2⟩
theorem hit_no {t : List (List Int)} {im : List Int} {ss : List StepV} {ix : List Nat} {s : Int} (hg : Good t im) (h : DerS t im ss ix) (hl : ∀ a ∈ closeL t im, ix.getD a 0 ≠ 0) (hn : ∀ i, i < ss.length → hits s (ss.getD i default) = false) : withinB (intL (closeL t im)) s = false := by
  unfold withinB
  rw [List.any_eq_false]
  intro b hb
  obtain ⟨a, ha, rfl⟩ := List.mem_map.1 hb
  obtain ⟨h1, h2⟩ := h.at_set ((close_all hg).2.2 a ha) (hl a ha)
  have := hn _ h1
  unfold hits at this
  rw [h2] at this
  rw [this]; simp
set_option maxRecDepth 100000 in
set_option maxHeartbeats 2000000 in
theorem derive_any (B : Nat) (w : World) (v iv : Value) (t : List (List Int)) (im : List Int) (s : Int) (hB : B ≤ w.heap.size) (h : Mat B w v t) (hi : Row B w iv (ints im)) (hT : TabOk w) :
    Calls Tryd.prog 36 #[v, iv, .int .i64 s] w (DeriveOk w t im s) := by
  have HCH := Lib.hid (check_any B w v iv t im hB h hi)
  have H := Lib.hid h; have HI := Lib.hid hi; have HT := Lib.hid hT
  obtain ⟨ta, tc, rfl⟩ := h.shape
  obtain ⟨ia, ic, rfl⟩ := hi.shape
  rw [ints_length] at HCH HI ⊢
  clear h hi hT
  go_enter Tryd.func36, Tryd.ntmps36
  go_wp2_with fail
  refine HCH.out.mono ?_
  rintro e w1 ⟨rfl, hg1⟩
  have HG1 := Lib.hid hg1
  clear HCH hg1
  by_cases hz : checkE t im ≠ 0
  · have HD := Lib.hid (derE_check (s := s) hz)
    obtain ⟨E, hE⟩ : ∃ E, E = checkE t im := ⟨_, rfl⟩
    rw [← hE] at hz HD ⊢
    have e1 : (E != 0) = true := by rw [bne_iff_ne]; exact hz
    have HE := Lib.hid hz
    clear hE hz
    go_wp2
    refine bodyPost_ret (v := .tuple #[.slice none 0 0, .int .i64 E]) (by simp [results, Tryd.results36, go_sem]) rfl ?_
    exact ⟨HG1.out, .inl ⟨by rw [HD.out]; exact HE.out, by rw [HD.out]⟩⟩
  replace hz : checkE t im = 0 := by omega
  rw [hz]
  have hgd := checkE_good.1 hz
  have hle := hgd.le
  have hva := hgd.valid
  have HZ := Lib.hid hz; have HGD := Lib.hid hgd; have HVA := Lib.hid hva; have HTB := Lib.hid (tb_of hva)
  clear hz hgd hva
  by_cases h0 : s = 0
  · have HE := Lib.hid (derE_arg (s := s) HZ.out (.inl h0))
    have HS0 := Lib.hid h0
    have e1 : (s == 0) = true := by rw [h0]; rfl
    clear h0
    go_wp2
    refine bodyPost_ret (v := .tuple #[.slice none 0 0, .int .i64 1]) (by simp [results, Tryd.results36, go_sem]) rfl ?_
    exact ⟨HG1.out, .inl ⟨by rw [HE.out]; omega, by rw [HE.out]⟩⟩
  have e1 : (s == 0) = false := by rw [beq_eq_false_iff_ne]; exact h0
  have HS0 := Lib.hid h0
  clear h0
  go_wp2_with fail
  refine (validSet_any' _ ta t.length tc s hle).mono ?_
  rintro e w2 ⟨rfl, rfl⟩
  by_cases hs : setB t.length s = false
  · have HE := Lib.hid (derE_arg HZ.out (.inr hs))
    rw [hs]
    clear hs
    go_wp2
    refine bodyPost_ret (v := .tuple #[.slice none 0 0, .int .i64 1]) (by simp [results, Tryd.results36, go_sem]) rfl ?_
    exact ⟨HG1.out, .inl ⟨by rw [HE.out]; omega, by rw [HE.out]⟩⟩
  replace hs : setB t.length s = true := by simpa using hs
  rw [hs]
  have HSB := Lib.hid hs
  have HEI := Lib.hid (derE_in (s := s) HZ.out (fun h => h.elim HS0.out (fun h => by rw [HSB.out] at h; cases h)))
  clear hs
  have HN := Lib.hid (newSets_any B w1 _ t (by have := HG1.out.size; omega) (H.out.kept HG1.out (by simp)) HVA.out hle (HT.out.kept HG1.out (by simp)))
  go_wp2_with fail
  refine HN.out.mono ?_
  rintro e w2 ⟨p, go, rfl, hs2, hg2⟩
  have HS2 := Lib.hid hs2; have HG2 := Lib.hid (grown_far HG1.out hg2 (by simp))
  have hgo := hs2.go_lt'
  have hwF := HG1.out.size
  have hFC := hg2.size
  have htw := HT.out.1
  have htF : 1 < w1.heap.size := by omega
  obtain ⟨F, hF⟩ : ∃ F, F = w1.heap.size := ⟨_, rfl⟩
  obtain ⟨C, hC⟩ : ∃ C, C = w2.heap.size := ⟨_, rfl⟩
  rw [← hF, ← hC] at HS2 hgo hFC
  rw [← hF] at htF hwF
  have hCe : C ≤ w2.heap.size := by omega
  have hCe' : w2.heap.size ≤ C := by omega
  have HCC := Lib.hid hC
  clear hF hC hs2 hg2 HN
  have hsh := shl_eq (m := t.length) (by omega)
  obtain ⟨N, hN⟩ : ∃ N, N = 2 ^ t.length := ⟨_, rfl⟩
  have hN4 : N ≤ 4096 := by have := pow_le hle; omega
  rw [← hN] at hsh
  have HNN := Lib.hid hN
  clear hN
  go_wp2_with (at_make; refine make1 rfl _ _ _ rfl elem_int rfl _ _ _ _ N rfl rfl hsh hsh ?b1 ?b2 ?_; (case b1 => omega); (case b2 => (unfold maxLen; omega)); intro w3 ha3 hg3 hz3; rw [← nats_replicate] at ha3)
  have HA3 := Lib.hid ha3; have HG3 := Lib.hid hg3
  obtain ⟨g, hg⟩ : ∃ g, g = w2.heap.size := ⟨_, rfl⟩
  rw [← hg] at HA3 ⊢
  have hgC : C ≤ g := by omega
  have hgz : g < w3.heap.size := by omega
  clear ha3 hg3 hsh hg
  obtain ⟨w4, hw4⟩ : ∃ W, W = w3.alloc (.cells #[.pointer (some ⟨p, 0, none⟩), .slice none 0 0, .slice (some ⟨g, 0, none⟩) N N] 95) := ⟨_, rfl⟩
  have hg4 := World.grownBy_alloc w3 (.cells #[.pointer (some ⟨p, 0, none⟩), .slice none 0 0, .slice (some ⟨g, 0, none⟩) N N] 95) none
  have hb4 := heap_alloc_new w3 (.cells #[.pointer (some ⟨p, 0, none⟩), .slice none 0 0, .slice (some ⟨g, 0, none⟩) N N] 95)
  rw [← hw4] at hg4 hb4
  obtain ⟨dp, hdp⟩ : ∃ dp, dp = w3.heap.size := ⟨_, rfl⟩
  rw [← hdp] at hb4
  have HW4 := Lib.hid hw4; have HDP := Lib.hid hdp
  have hdz := lt_of_block hb4
  have hgdp : g < dp := by omega
  have HG24 := Lib.hid (grown_far HG3.out hg4 (by simp))
  have HD4 : Hid (DState F C w4 w4 p go dp g t im (List.replicate (2 ^ t.length) 0) [] (List.replicate (2 ^ t.length) 0)) := Lib.hid (by
    refine ⟨HS2.out.kept HG24.out (by simp), ⟨⟨none, 0, by rw [← HNN.out]; exact hb4, World.ownsRow_nil _ _ _ _⟩, by rw [← HNN.out]; exact HA3.out.kept hg4 (by simp), by simp, by omega, hgC⟩, derS_nil t im, IxLe.refl _, GrownBut.refl _ _, (HT.out.kept (grown_far HG2.out HG24.out (by simp)) (by simp)), by omega⟩)
  have HGW4 := Lib.hid (grown_far HG2.out HG24.out (by simp))
  have hzw4 := HGW4.out.size
  clear hw4 hg4 hb4 hdp HA3 HG3
  go_upto_region 8 with fail
  rw [← HW4.out, ← HDP.out]
  go_wp2_with fail
  refine (dbegin_any F C B w4 p go dp g _ _ t im [] _ HD4.out HGD.out (by omega) (H.out.kept HGW4.out (by simp)) (HI.out.kept HGW4.out (by simp)) (by omega) hFC htF).mono ?_
  rintro e w5 ⟨rfl, ss5, ix5, hd5, hp5⟩
  have HD5 := Lib.hid hd5; have HP5 := Lib.hid hp5
  have hz45 := hd5.but.size
  have hwB5 : w.grownBy w5 none := hd5.but.grown HGW4.out (fun k hk => .inr (by rcases hk with e | e | e | ⟨e, _⟩ <;> omega))
  have HGW5 := Lib.hid hwB5
  clear hd5 hp5 hwB5 HD4
  go_wp2_with fail
  refine (generators_any B w5 _ _ t im (by omega) (H.out.kept HGW5.out (by simp)) (HI.out.kept HGW5.out (by simp)) HGD.out).mono ?_
  rintro e w6 ⟨sa6, sc6, rfl, hown6, hg6⟩
  have HD6 := Lib.hid (HD5.out.quiet hg6)
  have HR6 := Lib.hid (Row.of_owns hown6)
  have HGW6 := Lib.hid (grown_far HGW5.out hg6 (by simp))
  have hz56 := hg6.size
  clear hown6 hg6
  go_wp2_with fail
  refine (maximal_any F C w6 p go t.length (entN t) _ w6.heap.size (genL t im) HD6.out.sets hle HR6.out (genL_lt HGD.out) (Nat.le_refl _)).mono ?_
  rintro e w7 ⟨sa7, sc7, rfl, hown7, hg7⟩
  have HST : Hid (maxOf t.length (genL t im) = startL t im) := Lib.hid rfl
  rw [HST.out] at hown7 ⊢
  have hpos := start_pos HGD.out
  obtain ⟨k0, rfl, hk1, hk2, harr⟩ := owns_some hown7 hpos
  have hkl := hown7.lt k0 rfl
  obtain ⟨l0, hl0⟩ : ∃ l0, l0 = startL t im := ⟨_, rfl⟩
  have HIN : Hid (∀ a ∈ l0, ix5.getD a 0 ≠ 0) := Lib.hid (fun a ha => by
    rw [hl0] at ha
    obtain ⟨j, hj, rfl⟩ := List.getElem_of_mem (maxOf_sub (genL_lt HGD.out) ha)
    have := HP5.out j hj
    rwa [getD_eq hj] at this)
  rw [← hl0] at hpos hk1 harr ⊢
  have HF0 : Hid (FamOk t.length (l0, false)) := Lib.hid (by rw [hl0]; exact start_ok HGD.out)
  have HL0 := Lib.hid hl0
  have HD7 := HD6.out.quiet hg7
  have hz67 := hg7.size
  obtain ⟨w8, hw8⟩ : ∃ W, W = w7.alloc (.cells #[.slice (some ⟨k0, 0, none⟩) l0.length sc7, .bool false] 49) := ⟨_, rfl⟩
  have hg8 := World.grownBy_alloc w7 (.cells #[.slice (some ⟨k0, 0, none⟩) l0.length sc7, .bool false] 49) none
  have hb8 := heap_alloc_new w7 (.cells #[.slice (some ⟨k0, 0, none⟩) l0.length sc7, .bool false] 49)
  rw [← hw8] at hg8 hb8
  obtain ⟨fb, hfb⟩ : ∃ fb, fb = w7.heap.size := ⟨_, rfl⟩
  rw [← hfb] at hb8
  have HW8 := Lib.hid hw8; have HFB := Lib.hid hfb; have HB8 := Lib.hid hb8
  have HD8 := Lib.hid (HD7.quiet hg8)
  have HFR : Hid (FamRow w8 dp g go k0 l0) := Lib.hid ⟨harr.kept hg8 (by simp), by omega, by omega, by omega⟩
  have hCf : C ≤ fb := by omega
  have hCk : C ≤ k0 := by omega
  have hkf : k0 ≠ fb := by omega
  have h4f : w4.heap.size ≤ fb := by omega
  have HGO : Hid (Going t.length (entN t) l0 l0 false) := Lib.hid ⟨HF0.out, 0, rfl⟩
  clear hw8 hg8 hb8 hfb HD7 hown7 hg7 harr hl0 HP5 HD5 HD6 HR6
  go_upto_region 10 with fail
  rw [← HW8.out, ← HFB.out]
  go_loopg [] (togo t.length l0 false) (fun gh wr => ∃ (k sc : Nat) (l : List Nat) (d : Bool) (ss : List StepV) (ix : List Nat), gh = togo t.length l d ∧ Hid (Going t.length (entN t) l0 l d) ∧ 0 < l.length ∧ Hid (DState F C w4 wr p go dp g t im (List.replicate (2 ^ t.length) 0) ss ix) ∧ Hid (FamRow wr dp g go k l) ∧ l.length ≤ sc ∧ sc ≤ maxLen ∧ k ≠ fb ∧ C ≤ k ∧ Hid (wr.heap[fb]? = some (.cells #[.slice (some ⟨k, 0, none⟩) l.length sc, .bool d] 49 (0, 0))) ∧ Hid (∀ a ∈ l, ix.getD a 0 ≠ 0))
  case atStart => exact ⟨k0, sc7, l0, false, ss5, ix5, rfl, HGO, hpos, HD8, HFR, hk1, hk2, hkf, hCk, HB8, HIN⟩
  case round =>
    clear HGO HD8 HFR hk1 hk2 hkf hCk HB8 HIN hpos
    obtain ⟨k, sc, l, d, ss, ix, hgh, HGO, hpos, HD, HFR, hk1, hk2, hkf, hCk, HB, HIN⟩ := hrel
    have HGH := Lib.hid hgh
    clear hgh
    have hzr := HD.out.but.size
    have hwr : w.grownBy wr none := HD.out.but.grown HGW4.out (fun q hq => .inr (by rcases hq with e | e | e | ⟨e, _⟩ <;> omega))
    have HGR := Lib.hid hwr
    have hss := HD.out.ok.i.le
    rw [← HNN.out] at hss
    have hs0 : 0 < ss.length := by
      have hm : l.getD 0 0 ∈ l := getD_memN hpos
      have := (HD.out.ok.at_set (HGO.out.1.1 _ hm) (HIN.out _ hm)).1
      omega
    obtain ⟨q, qc, hbx, hst, hq1, hq2⟩ := HD.out.der.steps hs0
    have HBX := Lib.hid hbx; have HSTP := Lib.hid hst
    clear hwr hbx hst
    go_wp2_with fail
    refine (find_any wr dp q (2 ^ t.length) qc _ _ _ ss s HBX.out HSTP.out (by omega)).mono ?_
    rintro e wf ⟨rfl, hgf⟩
    have HDF := Lib.hid (HD.out.quiet hgf); have HGF := Lib.hid (grown_far HGR.out hgf (by simp)); have HSF := Lib.hid (HSTP.out.kept hgf (by simp)); have HBF := Lib.hid (block_kept HB.out hgf (by simp)); have HBXF := Lib.hid (block_kept HBX.out hgf (by simp))
    have HFF : Hid (FamRow wf dp g go k l) := Lib.hid ⟨HFR.out.arr.kept hgf (by simp), HFR.out.nd, HFR.out.ng, HFR.out.no⟩
    have hzf := hgf.size
    clear hgf
    rcases find_cases ss s with ⟨i, hi, hfi, hh⟩ | ⟨hfn, hno⟩
    · rw [hfi]
      obtain ⟨hin, S, hS1, hS2, hS3⟩ := hit_in HGD.out HDF.out.ok HSB.out hi hh
      have HIN2 := Lib.hid hin; have HS1 := Lib.hid hS1; have HS2' := Lib.hid hS2; have HS3 := Lib.hid hS3
      clear hfi hin hS1 hS2 hS3 hh
      have hi0 : (0 : Int) ≤ i := by omega
      obtain ⟨d0, d1, d2⟩ := derBox_cells HBXF.out
      have hqc : i + 1 ≤ qc := by omega
      have hqm : qc ≤ 9223372036854775807 := by unfold maxLen at hq2; omega
      have HTK : Hid ((ss.take (i + 1)).length = i + 1) := Lib.hid (take_len hi)
      have HKEY : Hid ((ss.take (i + 1)).getD i default = ss.getD i default) := Lib.hid (take_getD (Nat.lt_succ_self i))
      have HNE := Lib.hid (needed_any wf q qc (i + 1) i t im (ss.take (i + 1)) HTK.out rfl (by omega) (HSF.out.take _) (take_steps HDF.out.ok.d.ok _) (take_words HDF.out.ok.d.wz _))
      have hi4 : (i : Int) ≤ 4096 := by omega
      go_wp2_with fail
      refine HNE.out.mono ?_
      rintro e wn ⟨hgn, sn, cn, ln, rfl, hown, hso, hl1, hl2, hl3, hl4⟩
      have HON := Lib.hid hown; have HGN := Lib.hid (grown_far HGF.out hgn (by simp)); have HSO := Lib.hid hso; have HL3 := Lib.hid hl3; have HL4 := Lib.hid hl4
      have hzn := HGF.out.size
      clear hown hgn hso hl3 hl4
      go_wp2
      refine bodyPost_ret (v := .tuple #[.slice sn ln.length cn, .int .i64 0]) (by simp [results, Tryd.results36, go_sem]) rfl ?_
      refine ⟨HGN.out, .inr ⟨by rw [HEI.out, if_pos HIN2.out], sn, cn, ln, S, rfl, ownsRow_base HON.out hzn, HSO.out, hl1, by rw [HTK.out] at hl2; omega, HL4.out, ?_, HS2'.out, HS3.out⟩⟩
      rw [HL3.out, HTK.out, Nat.add_sub_cancel, HKEY.out]; exact HS1.out
    · rw [hfn]
      have HNO := Lib.hid hno
      obtain ⟨f0, f1⟩ := fbox_cells HBF.out
      have z0 := frozen_block HBF.out 0
      have z1 := frozen_block HBF.out 1
      clear hno hfn
      cases d with
      | true =>
        have HCL : Hid (l = closeL t im) := Lib.hid (by unfold closeL; rw [← HL0.out]; exact HGO.out.stop HTB.out HF0.out)
        have hno := hit_no HGD.out HDF.out.ok (fun a ha => HIN.out a (by rw [HCL.out]; exact ha)) HNO.out
        have HE : Hid (derE t im s = 9) := Lib.hid (by rw [HEI.out, if_neg (by rw [hno]; simp)])
        clear hno
        go_wp2
        refine bodyPost_ret (v := .tuple #[.slice none 0 0, .int .i64 9]) (by simp [results, Tryd.results36, go_sem]) rfl ?_
        exact ⟨HGF.out, .inl ⟨by rw [HE.out]; omega, by rw [HE.out]⟩⟩
      | false =>
        have hll := HGO.out.le
        rw [← HNN.out] at hll
        have HD0 : Hid (DState F C wf wf p go dp g t im ix ss ix) := Lib.hid ⟨HDF.out.sets, HDF.out.der, HDF.out.ok, IxLe.refl _, GrownBut.refl _ _, HDF.out.tab, HDF.out.sz⟩
        go_wp2_with fail
        refine (dround_any F C wf p go dp g k sc t im ss ix l HD0.out HGD.out HFF.out (fun a ha => ⟨HGO.out.1.1 a ha, HIN.out a ha⟩) (by omega) hFC htF).mono ?_
        rintro e wg ⟨rfl, ss2, ix2, hd2, hp2⟩
        have HDG := Lib.hid (HDF.out.more hd2); have HPR := Lib.hid hp2; have HLE := Lib.hid hd2.le
        have hfbk : ¬ DerF C dp g go wf fb := fun hf => by
          rcases hf with e | e | e | ⟨_, c, m, e⟩
          · omega
          · omega
          · omega
          · rw [HBF.out] at e
            simp only [Option.some.injEq, Obj.cells.injEq] at e
            exact absurd e.2.1 (by decide)
        have HBG := Lib.hid (hd2.but.heap HBF.out hfbk)
        have HFG := Lib.hid (HFF.out.but hd2.but)
        have hzg := hd2.but.size
        clear hd2 hp2 f0 f1 z0 z1 HD0 hfbk
        obtain ⟨f0, f1⟩ := fbox_cells HBG.out
        have HRO : Hid (RowO F C wg.heap.size wg (.slice (some ⟨k, 0, none⟩) l.length sc) (nats l)) := Lib.hid (.inr ⟨k, 0, sc, by rw [nats_length], .inr hCk, HFG.out.arr.lt, by rw [nats_length]; exact hk1, hk2, HFG.out.arr.row⟩)
        have htl : 1 < F := htF
        go_wp2_with fail
        refine (round_any F C wg.heap.size wg p go t.length (entN t) _ false l HDG.out.sets HTB.out hle HRO.out hpos HGO.out.1.1 (by omega) (Nat.le_refl _) HDG.out.sz htF HDG.out.tab).mono ?_
        rintro e wh ⟨sa3, sc3, rfl, hown3, hs3, hg3⟩
        have hpos3 := round_ne HTB.out HGO.out.1.1 hpos
        obtain ⟨k3, rfl, hc1, hc2, harr3⟩ := owns_some hown3 hpos3
        have hk3 := hown3.lt k3 rfl
        have HM : Hid (togo t.length (roundSets t.length (entN t) l) (decide (roundSets t.length (entN t) l = l)) < togo t.length l false) := Lib.hid (HGO.out.less HTB.out)
        have HGN := Lib.hid (HGO.out.step HTB.out)
        obtain ⟨R, hR⟩ : ∃ R, R = roundSets t.length (entN t) l := ⟨_, rfl⟩
        obtain ⟨D, hD⟩ : ∃ D, D = decide (roundSets t.length (entN t) l = l) := ⟨_, rfl⟩
        have HINR : Hid (∀ a ∈ R, ix2.getD a 0 ≠ 0) := Lib.hid (fun a ha => by
          rw [hR] at ha
          rcases mem_roundList.1 (maxOf_sub (roundList_lt HTB.out HGO.out.1.1) ha) with h1 | ⟨x, hx, ⟨y, hy, rfl⟩ | rfl⟩
          · exact HLE.out.ne (HIN.out a h1)
          · obtain ⟨i, hi, rfl⟩ := List.getElem_of_mem hx
            obtain ⟨j, hj, rfl⟩ := List.getElem_of_mem hy
            have := (HPR.out i hi).1 j hj
            rwa [getD_eq hi, getD_eq hj] at this
          · obtain ⟨i, hi, rfl⟩ := List.getElem_of_mem hx
            have := (HPR.out i hi).2
            rwa [getD_eq hi] at this)
        rw [← hD, ← hR] at HM HGN
        rw [← hD]
        rw [← hR] at hown3 hpos3 hc1 harr3 ⊢
        have HDH := Lib.hid (HDG.out.goes hs3 hg3 htF)
        have hr3 := block_kept HBG.out hg3 (fun e => by have e : go = fb := Option.some.inj e; omega)
        have HBH := Lib.hid hr3
        obtain ⟨y0, y1⟩ := fbox_cells hr3
        have u0 := frozen_block hr3 0
        have u1 := frozen_block hr3 1
        have hsR := fam_set hr3 (.slice (some ⟨k3, 0, none⟩) R.length sc3) (.bool D)
        have hgR : wh.grownBy ((wh.setCell ⟨fb, 0, none⟩ (.slice (some ⟨k3, 0, none⟩) R.length sc3)).setCell ⟨fb, 1, none⟩ (.bool D)) (some fb) := grownBy_trans' (grownBy_setCell wh ⟨fb, 0, none⟩ _) (grownBy_setCell (wh.setCell ⟨fb, 0, none⟩ (.slice (some ⟨k3, 0, none⟩) R.length sc3)) ⟨fb, 1, none⟩ _)
        have hz3 := hg3.size
        have hzg4 := HDG.out.but.size
        have hk3f : k3 ≠ fb := by have := lt_of_block HBG.out; omega
        have HDS := Lib.hid (HDH.out.typed hr3 (by decide) (by decide) (by decide) hCf h4f hgR hFC htF)
        have hdpl : dp < wg.heap.size := by omega
        have HFS : Hid (FamRow ((wh.setCell ⟨fb, 0, none⟩ (.slice (some ⟨k3, 0, none⟩) R.length sc3)).setCell ⟨fb, 1, none⟩ (.bool D)) dp g go k3 R) := Lib.hid ⟨harr3.kept hgR (fun e => hk3f (Option.some.inj e).symm), by omega, by omega, by omega⟩
        have HBS := Lib.hid hsR
        have hCk3 : C ≤ k3 := by have := HDG.out.sz; omega
        clear hown3 hs3 hg3 hr3 hR hD hsR hgR harr3 f0 f1
        go_wp2
        go_roundg (togo t.length R D)
        case measure => rw [HGH.out]; exact HM.out
        case rel => exact ⟨k3, sc3, R, D, ss2, ix2, rfl, HGN, hpos3, HDS, HFS, hc1, hc2, hk3f, hCk3, HBS, HINR⟩
end Go.Proofs.YtdjhoadoiknaoaaDoor
