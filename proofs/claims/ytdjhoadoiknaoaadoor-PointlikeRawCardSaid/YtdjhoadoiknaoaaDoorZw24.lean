/- Part 24 of the proof: Begin, Going. -/
import Derived.Test.YtdjhoadoiknaoaaDoorZw23
set_option linter.unusedVariables false
set_option linter.unusedSimpArgs false
namespace Go.Proofs.YtdjhoadoiknaoaaDoor
open Go.RowKit
def startL (t : List (List Int)) (im : List Int) : List Nat := maxOf t.length (genL t im)
def BeginOk (w : World) (t : List (List Int)) (im : List Int) (e : Ending) (w' : World) : Prop :=
  w.grownBy w' none ∧ ((checkE t im ≠ 0 ∧ e = .returned (.tuple #[.agg #[.slice none 0 0, .bool false], .int .i64 (checkE t im)])) ∨
    (checkE t im = 0 ∧ ∃ (sa : Option Addr) (sc : Nat), e = .returned (.tuple #[.agg #[.slice sa (startL t im).length sc, .bool false], .int .i64 0]) ∧ w'.ownsRow w.heap.size 3 1 (.slice sa (startL t im).length sc) (startL t im).length (nats (startL t im))))
set_option maxHeartbeats 400000 in
theorem begin_any (B : Nat) (w : World) (v iv : Value) (t : List (List Int)) (im : List Int) (hB : B ≤ w.heap.size) (h : Mat B w v t) (hi : Row B w iv (ints im)) (hT : TabOk w) :
    Calls Tryd.prog 24 #[v, iv] w (BeginOk w t im) := by
  have H := Lib.hid h; have HI := Lib.hid hi; have HT := Lib.hid hT
  clear h hi hT
  go_enter Tryd.func24, Tryd.ntmps24
  go_upto_region 1 with fail
  obtain ⟨wA, hWA⟩ : ∃ wA, wA = w.alloc (.cells #[.slice none 0 0, .bool false] 49) := ⟨_, rfl⟩
  have hrb : wA.heap[w.heap.size]? = some (.cells #[.slice none 0 0, .bool false] 49 (0, 0)) := by rw [hWA]; exact heap_alloc_new w _
  have hgA : w.grownBy wA none := by rw [hWA]; exact World.grownBy_alloc w _ none
  have hzA : wA.heap.size = w.heap.size + 1 := by rw [hWA, alloc_size]
  rw [← hWA]
  have HGA := Lib.hid hgA; have HRA := Lib.hid hrb
  have hBA : B ≤ wA.heap.size := by omega
  have HCH := Lib.hid (check_any B wA v iv t im hBA (H.out.kept hgA (by simp)) (HI.out.kept hgA (by simp)))
  clear hWA hrb hgA
  go_wp2_with fail
  refine HCH.out.mono ?_
  rintro e w1 ⟨rfl, hg1⟩
  have hr1 := block_kept HRA.out hg1 (by simp)
  have HG1 := Lib.hid hg1; have HR1 := Lib.hid hr1
  have hz1 := hg1.size
  clear HCH hr1 hg1
  by_cases hz : checkE t im = 0
  · rw [hz]
    have HZ := Lib.hid hz
    have hgd := checkE_good.1 hz
    have HGD := Lib.hid hgd
    have hle := hgd.le
    have hva := hgd.valid
    have HVA := Lib.hid hva
    have HN := Lib.hid (newSets_any B w1 v t (by omega) ((H.out.kept HGA.out (by simp)).kept HG1.out (by simp)) hva hle ((HT.out.kept HGA.out (by simp)).kept HG1.out (by simp)))
    clear hz hgd hva
    go_wp2_with fail
    refine HN.out.mono ?_
    rintro e w2 ⟨p, go, rfl, hs2, hg2⟩
    have HS2 := Lib.hid hs2; have HG2 := Lib.hid hg2
    have hz2 := hg2.size
    have HG := Lib.hid (generators_any B w2 v iv t im (by omega) (((H.out.kept HGA.out (by simp)).kept HG1.out (by simp)).kept hg2 (by simp)) (((HI.out.kept HGA.out (by simp)).kept HG1.out (by simp)).kept hg2 (by simp)) HGD.out)
    clear hs2 hg2 HN
    go_wp2_with fail
    refine HG.out.mono ?_
    rintro e w3 ⟨sa, sc, rfl, hown, hg3⟩
    have HG3 := Lib.hid hg3
    have hz3 := hg3.size
    have HM := Lib.hid (maximal_any w1.heap.size w2.heap.size w3 p go t.length (entN t) _ w3.heap.size (genL t im) (HS2.out.kept hg3 (by simp)) hle (Row.of_owns hown) (genL_lt HGD.out) (Nat.le_refl _))
    clear hown hg3 HG
    go_wp2_with fail
    refine HM.out.mono ?_
    rintro e w4 ⟨sa4, sc4, rfl, hown4, hg4⟩
    have hz4 := hg4.size
    have hgr : w1.grownBy w4 none := grownBy_trans' (grownBy_trans' HG2.out HG3.out) hg4
    have hr4 := block_kept HR1.out hgr (by simp)
    have cr0 := cell_block hr4 0 (by simp)
    have cr1 := cell_block hr4 1 (by simp)
    have fr0 := frozen_block hr4 0
    have fr1 := frozen_block hr4 1
    simp only [List.getElem_toArray, List.getElem_cons_zero, List.getElem_cons_succ] at cr0 cr1
    have HO4 := Lib.hid hown4
    have HGR := Lib.hid (grownBy_trans' (grownBy_trans' HGA.out HG1.out) hgr)
    clear hown4 hr4 hgr hg4 HM
    change Hid (w4.ownsRow w3.heap.size 3 1 (.slice sa4 (startL t im).length sc4) (startL t im).length (nats (startL t im))) at HO4
    go_wp2
    have hg5 : w4.grownBy ((w4.setCell ⟨w.heap.size, 0, none⟩ (.slice sa4 (startL t im).length sc4)).setCell ⟨w.heap.size, 1, none⟩ (.bool false)) (some w.heap.size) :=
      grownBy_trans' (grownBy_setCell w4 ⟨w.heap.size, 0, none⟩ _) (grownBy_setCell (w4.setCell ⟨w.heap.size, 0, none⟩ (.slice sa4 (startL t im).length sc4)) ⟨w.heap.size, 1, none⟩ _)
    refine bodyPost_ret (v := .tuple #[.agg #[.slice sa4 (startL t im).length sc4, .bool false], .int .i64 0]) (by simp [results, Tryd.results24, go_sem, cr0, cr1]; rfl) rfl ?_
    exact ⟨grown_far HGR.out hg5 (fun q e => by have : w.heap.size = q := Option.some.inj e; omega), .inr ⟨HZ.out, sa4, sc4, rfl, ownsRow_base (ownsRow_kept HO4.out hg5 (fun q e => by have : w.heap.size = q := Option.some.inj e; omega)) (by omega)⟩⟩
  · obtain ⟨E, hE⟩ : ∃ E, E = checkE t im := ⟨_, rfl⟩
    rw [← hE] at hz ⊢
    have HE := Lib.hid hE
    have cr0 := cell_block HR1.out 0 (by simp)
    have cr1 := cell_block HR1.out 1 (by simp)
    have fr0 := frozen_block HR1.out 0
    have fr1 := frozen_block HR1.out 1
    simp only [List.getElem_toArray, List.getElem_cons_zero, List.getElem_cons_succ] at cr0 cr1
    have e1 : (E != 0) = true := by rw [bne_iff_ne]; exact hz
    clear hE
    go_wp2
    have hg5 : w1.grownBy ((w1.setCell ⟨w.heap.size, 0, none⟩ (.slice none 0 0)).setCell ⟨w.heap.size, 1, none⟩ (.bool false)) (some w.heap.size) :=
      grownBy_trans' (grownBy_setCell w1 ⟨w.heap.size, 0, none⟩ _) (grownBy_setCell (w1.setCell ⟨w.heap.size, 0, none⟩ (.slice none 0 0)) ⟨w.heap.size, 1, none⟩ _)
    refine bodyPost_ret (v := .tuple #[.agg #[.slice none 0 0, .bool false], .int .i64 E]) (by simp [results, Tryd.results24, go_sem, cr0, cr1]) rfl ?_
    exact ⟨grown_far (grownBy_trans' HGA.out HG1.out) hg5 (fun q e => by have : w.heap.size = q := Option.some.inj e; omega), .inl ⟨by rw [← HE.out]; exact hz, by rw [← HE.out]⟩⟩
set_option maxHeartbeats 400000 in
theorem rbegin_any (B : Nat) (w : World) (v iv : Value) (t : List (List Int)) (im : List Int) (hB : B ≤ w.heap.size) (h : Mat B w v t) (hi : Row B w iv (ints im)) :
    Calls Tryd.prog 25 #[v, iv] w (BeginOk w t im) := by
  have H := Lib.hid h; have HI := Lib.hid hi
  clear h hi
  go_enter Tryd.func25, Tryd.ntmps25
  go_upto_region 1 with fail
  obtain ⟨wA, hWA⟩ : ∃ wA, wA = w.alloc (.cells #[.slice none 0 0, .bool false] 49) := ⟨_, rfl⟩
  have hrb : wA.heap[w.heap.size]? = some (.cells #[.slice none 0 0, .bool false] 49 (0, 0)) := by rw [hWA]; exact heap_alloc_new w _
  have hgA : w.grownBy wA none := by rw [hWA]; exact World.grownBy_alloc w _ none
  have hzA : wA.heap.size = w.heap.size + 1 := by rw [hWA, alloc_size]
  rw [← hWA]
  have HGA := Lib.hid hgA; have HRA := Lib.hid hrb
  have HCH := Lib.hid (may_any B wA v iv t im (H.out.kept hgA (by simp)) (HI.out.kept hgA (by simp)))
  clear hWA hrb hgA
  go_wp2_with fail
  refine HCH.out.mono ?_
  rintro e w1 ⟨rfl, hd1⟩
  have hg1 : wA.grownBy w1 none := by obtain ⟨m, rfl⟩ := hd1; exact grownBy_drewN _ _ _
  have hr1 := block_kept HRA.out hg1 (by simp)
  have HG1 := Lib.hid hg1; have HR1 := Lib.hid hr1
  have hz1 := hg1.size
  clear HCH hr1 hg1 hd1
  by_cases hz : checkE t im = 0
  · rw [hz]
    have HZ := Lib.hid hz
    have hgd := checkE_good.1 hz
    have HGD := Lib.hid hgd
    have hle := hgd.le
    have HG := Lib.hid (begin40_any B w1 v iv t im (by omega) ((H.out.kept HGA.out (by simp)).kept HG1.out (by simp)) ((HI.out.kept HGA.out (by simp)).kept HG1.out (by simp)) hgd)
    clear hz hgd
    go_wp2_with fail
    refine HG.out.mono ?_
    rintro e w3 ⟨sa, sc, rfl, hown, hg3⟩
    have HG3 := Lib.hid hg3
    have hz3 := hg3.size
    have HM := Lib.hid (maxref_any w3.heap.size w3 _ (genL t im) t.length hle (Nat.le_refl _) (Row.of_owns hown) (genL_lt HGD.out))
    clear hown hg3 HG
    go_wp2_with fail
    refine HM.out.mono ?_
    rintro e w4 ⟨sa4, sc4, rfl, hown4, hg4⟩
    have hz4 := hg4.size
    have hgr : w1.grownBy w4 none := grownBy_trans' HG3.out hg4
    have hr4 := block_kept HR1.out hgr (by simp)
    have cr0 := cell_block hr4 0 (by simp)
    have cr1 := cell_block hr4 1 (by simp)
    have fr0 := frozen_block hr4 0
    have fr1 := frozen_block hr4 1
    simp only [List.getElem_toArray, List.getElem_cons_zero, List.getElem_cons_succ] at cr0 cr1
    have HO4 := Lib.hid hown4
    have HGR := Lib.hid (grownBy_trans' (grownBy_trans' HGA.out HG1.out) hgr)
    clear hown4 hr4 hgr hg4 HM
    change Hid (w4.ownsRow w3.heap.size 3 1 (.slice sa4 (startL t im).length sc4) (startL t im).length (nats (startL t im))) at HO4
    go_wp2
    have hg5 : w4.grownBy ((w4.setCell ⟨w.heap.size, 0, none⟩ (.slice sa4 (startL t im).length sc4)).setCell ⟨w.heap.size, 1, none⟩ (.bool false)) (some w.heap.size) :=
      grownBy_trans' (grownBy_setCell w4 ⟨w.heap.size, 0, none⟩ _) (grownBy_setCell (w4.setCell ⟨w.heap.size, 0, none⟩ (.slice sa4 (startL t im).length sc4)) ⟨w.heap.size, 1, none⟩ _)
    refine bodyPost_ret (v := .tuple #[.agg #[.slice sa4 (startL t im).length sc4, .bool false], .int .i64 0]) (by simp [results, Tryd.results25, go_sem, cr0, cr1]; rfl) rfl ?_
    exact ⟨grown_far HGR.out hg5 (fun q e => by have : w.heap.size = q := Option.some.inj e; omega), .inr ⟨HZ.out, sa4, sc4, rfl, ownsRow_base (ownsRow_kept HO4.out hg5 (fun q e => by have : w.heap.size = q := Option.some.inj e; omega)) (by omega)⟩⟩
  · obtain ⟨E, hE⟩ : ∃ E, E = checkE t im := ⟨_, rfl⟩
    rw [← hE] at hz ⊢
    have HE := Lib.hid hE
    have cr0 := cell_block HR1.out 0 (by simp)
    have cr1 := cell_block HR1.out 1 (by simp)
    have fr0 := frozen_block HR1.out 0
    have fr1 := frozen_block HR1.out 1
    simp only [List.getElem_toArray, List.getElem_cons_zero, List.getElem_cons_succ] at cr0 cr1
    have e1 : (E != 0) = true := by rw [bne_iff_ne]; exact hz
    clear hE
    go_wp2
    have hg5 : w1.grownBy ((w1.setCell ⟨w.heap.size, 0, none⟩ (.slice none 0 0)).setCell ⟨w.heap.size, 1, none⟩ (.bool false)) (some w.heap.size) :=
      grownBy_trans' (grownBy_setCell w1 ⟨w.heap.size, 0, none⟩ _) (grownBy_setCell (w1.setCell ⟨w.heap.size, 0, none⟩ (.slice none 0 0)) ⟨w.heap.size, 1, none⟩ _)
    refine bodyPost_ret (v := .tuple #[.agg #[.slice none 0 0, .bool false], .int .i64 E]) (by simp [results, Tryd.results25, go_sem, cr0, cr1]) rfl ?_
    exact ⟨grown_far (grownBy_trans' HGA.out HG1.out) hg5 (fun q e => by have : w.heap.size = q := Option.some.inj e; omega), .inl ⟨by rw [← HE.out]; exact hz, by rw [← HE.out]⟩⟩
end Go.Proofs.YtdjhoadoiknaoaaDoor
namespace Go.Proofs.YtdjhoadoiknaoaaDoor
open Go.RowKit
noncomputable def closeL (t : List (List Int)) (im : List Int) : List Nat := closeFrom t.length (entN t) (startL t im)
def ClosureOk (w : World) (t : List (List Int)) (im : List Int) (e : Ending) (w' : World) : Prop :=
  w.grownBy w' none ∧ ((checkE t im ≠ 0 ∧ e = .returned (.tuple #[.slice none 0 0, .int .i64 (checkE t im)])) ∨
    (checkE t im = 0 ∧ ∃ v, e = .returned (.tuple #[v, .int .i64 0]) ∧ Row w'.heap.size w' v (nats (closeL t im))))
theorem start_ok {t : List (List Int)} {im : List Int} (h : Good t im) : FamOk t.length (startL t im, false) := ⟨fun _ hb => maxOf_lt hb, maxOf_max (genL_lt h)⟩
theorem start_pos {t : List (List Int)} {im : List Int} (h : Good t im) : 0 < (startL t im).length := by
  obtain ⟨b, hb, _⟩ := exists_max (genL_lt h) _ (2 ^ (identI t).toNat) (Nat.le_refl _) (by simp [genL])
  exact List.length_pos_of_mem hb
def Going (n : Nat) (tb : Nat → Nat → Nat) (l0 l : List Nat) (d : Bool) : Prop := FamOk n (l, d) ∧ ∃ k, roundsGo n tb k (l0, false) = (l, d)
theorem Going.step {n : Nat} {tb : Nat → Nat → Nat} {l0 l : List Nat} (ht : Tb n tb) (h : Going n tb l0 l false) : Going n tb l0 (roundSets n tb l) (decide (roundSets n tb l = l)) := by
  obtain ⟨hf, k, hk⟩ := h
  refine ⟨famOk_round ht hf, k + 1, ?_⟩
  rw [roundsGo_add, hk, roundsGo_step]; rfl
theorem Going.stop {n : Nat} {tb : Nat → Nat → Nat} {l0 l : List Nat} (ht : Tb n tb) (h0 : FamOk n (l0, false)) (h : Going n tb l0 l true) : l = closeFrom n tb l0 := by
  obtain ⟨_, k, hk⟩ := h
  have := roundsGo_stop ht h0 (k := k) (by rw [hk])
  rw [hk] at this
  exact this
def togo (n : Nat) (l : List Nat) (d : Bool) : Nat := if d then 0 else gap n l + 1
theorem Going.less {n : Nat} {tb : Nat → Nat → Nat} {l0 l : List Nat} (ht : Tb n tb) (h : Going n tb l0 l false) : togo n (roundSets n tb l) (decide (roundSets n tb l = l)) < togo n l false := by
  unfold togo
  by_cases e : roundSets n tb l = l
  · simp [e]
  · have := gap_round ht h.1.1 h.1.2 e
    simp [e, this]
theorem Going.le {n : Nat} {tb : Nat → Nat → Nat} {l0 l : List Nat} {d : Bool} (h : Going n tb l0 l d) : l.length ≤ 2 ^ n := by
  have := maxOf_le n l
  rw [h.1.2] at this
  exact this
structure Held (F C bx : Nat) (w : World) (k sc : Nat) (l : List Nat) : Prop where
  row : RowAt w k 0 (nats l)
  le : l.length ≤ sc
  mx : sc ≤ maxLen
  out : k < F ∨ C ≤ k
  nb : k ≠ bx
theorem Held.rowO {F C bx k sc : Nat} {w : World} {l : List Nat} (h : Held F C bx w k sc l) : RowO F C w.heap.size w (.slice (some ⟨k, 0, none⟩) l.length sc) (nats l) :=
  .inr ⟨k, 0, sc, by rw [nats_length], h.out, h.row.1, by rw [nats_length]; exact h.le, h.mx, h.row⟩
theorem Held.kept {F C bx k sc : Nat} {w w' : World} {l : List Nat} {row : Option Nat} (h : Held F C bx w k sc l) (hg : w.grownBy w' row) (hr : row ≠ some k) : Held F C bx w' k sc l :=
  ⟨h.row.kept hg hr, h.le, h.mx, h.out, h.nb⟩
theorem Held.of_owns {F C bx base k sc : Nat} {w : World} {l : List Nat} (h : w.ownsRow base 3 1 (.slice (some ⟨k, 0, none⟩) l.length sc) l.length (nats l)) (h0 : 0 < l.length) (ho : k < F ∨ C ≤ k) (hn : k ≠ bx) : Held F C bx w k sc l := by
  obtain ⟨kb, e, h1, h2, h3⟩ := owns_some h h0
  simp only [Option.some.injEq, Addr.mk.injEq, and_true] at e
  subst e
  exact ⟨h3.row, h1, h2, ho, hn⟩
end Go.Proofs.YtdjhoadoiknaoaaDoor
