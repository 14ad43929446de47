/- Part 15 of the proof: Begin, Going, FamB, Sames, MapIn. -/
import Derived.Test.YtdjhoadoiknaoaaDoorZr14
import Derived.Maps.Own
import Derived.Maps.Views
set_option linter.unusedVariables false
set_option linter.unusedSimpArgs false
namespace Go.Proofs.YtdjhoadoiknaoaaDoor
open Go.RowKit
def vQ (t : List (List Int)) (im : List Int) : List Nat := maxOf t.length (genL t im)
def BeginOk (w : World) (t : List (List Int)) (im : List Int) (e : Ending) (w' : World) : Prop :=
 w.grownBy w' none ∧ ((yT t im ≠ 0 ∧ e = .returned (.tuple #[.agg #[.slice none 0 0, .bool false], .int .i64 (yT t im)])) ∨
  (yT t im = 0 ∧ ∃ (sa : Option Addr) (sc : Nat), e = .returned (.tuple #[.agg #[.slice sa (vQ t im).length sc, .bool false], .int .i64 0]) ∧ w'.ownsRow w.heap.size 3 1 (.slice sa (vQ t im).length sc) (vQ t im).length (nats (vQ t im))))
set_option maxHeartbeats 400000 in
theorem begin_any (B : Nat) (w : World) (v iv : Value) (t : List (List Int)) (im : List Int) (hB : B ≤ w.heap.size) (h : Mat B w v t) (hi : Row B w iv (ints im)) (hT : TabOk w) :
  Calls Tryd.prog 24 #[v, iv] w (BeginOk w t im) := by
 have H := Kh h; have HI := Kh hi; have HT := Kh hT
 clear h hi hT
 go_enter Tryd.func24, Tryd.ntmps24
 go_upto_region 1 with fail
 obtain ⟨wA, hWA⟩ : ∃ wA, wA = w.alloc (.cells #[.slice none 0 0, .bool false] 49) := ⟨_, rfl⟩
 have hrb : wA.heap[w.heap.size]? = some (.cells #[.slice none 0 0, .bool false] 49 (0, 0)) := by rw [hWA]; exact heap_alloc_new w _
 have hgA : w.grownBy wA none := by rw [hWA]; exact World.grownBy_alloc w _ none
 have hzA : wA.heap.size = w.heap.size + 1 := by rw [hWA, zN]
 rw [← hWA]
 have HGA := Kh hgA; have HRA := Kh hrb
 have hBA : B ≤ wA.heap.size := by omega
 have HCH := Kh (check_any B wA v iv t im hBA (H.out.kept hgA (by simp)) (HI.out.kept hgA (by simp)))
 clear hWA hrb hgA
 go_wp2_with fail
 refine HCH.out.mono ?_
 rintro e w1 ⟨rfl, hg1⟩
 have hr1 := zE HRA.out hg1 (by simp)
 have HG1 := Kh hg1; have HR1 := Kh hr1
 have hz1 := hg1.size
 clear HCH hr1 hg1
 by_cases hz : yT t im = 0
 ·rw [hz]
  have HZ := Kh hz
  have hgd := tL.1 hz
  have HGD := Kh hgd
  have hle := hgd.le
  have hva := hgd.valid
  have HVA := Kh hva
  have HN := Kh (sS B w1 v t (by omega) ((H.out.kept HGA.out (by simp)).kept HG1.out (by simp)) hva hle ((HT.out.kept HGA.out (by simp)).kept HG1.out (by simp)))
  clear hz hgd hva
  go_wp2_with fail
  refine HN.out.mono ?_
  rintro e w2 ⟨p, go, rfl, hs2, hg2⟩
  have HS2 := Kh hs2; have HG2 := Kh hg2
  have hz2 := hg2.size
  have HG := Kh (generators_any B w2 v iv t im (by omega) (((H.out.kept HGA.out (by simp)).kept HG1.out (by simp)).kept hg2 (by simp)) (((HI.out.kept HGA.out (by simp)).kept HG1.out (by simp)).kept hg2 (by simp)) HGD.out)
  clear hs2 hg2 HN
  go_wp2_with fail
  refine HG.out.mono ?_
  rintro e w3 ⟨sa, sc, rfl, hown, hg3⟩
  have HG3 := Kh hg3
  have hz3 := hg3.size
  have HM := Kh (maximal_any w1.heap.size w2.heap.size w3 p go t.length (entN t) _ w3.heap.size (genL t im) (HS2.out.kept hg3 (by simp)) hle (Row.of_owns hown) (genL_lt HGD.out) (Nat.le_refl _))
  clear hown hg3 HG
  go_wp2_with fail
  refine HM.out.mono ?_
  rintro e w4 ⟨sa4, sc4, rfl, hown4, hg4⟩
  have hz4 := hg4.size
  have hgr : w1.grownBy w4 none := zF (zF HG2.out HG3.out) hg4
  have hr4 := zE HR1.out hgr (by simp)
  have cr0 := zI hr4 0 (by simp)
  have cr1 := zI hr4 1 (by simp)
  have fr0 := zD hr4 0
  have fr1 := zD hr4 1
  simp only [List.getElem_toArray, List.getElem_cons_zero, List.getElem_cons_succ] at cr0 cr1
  have HO4 := Kh hown4
  have HGR := Kh (zF (zF HGA.out HG1.out) hgr)
  clear hown4 hr4 hgr hg4 HM
  change Hid (w4.ownsRow w3.heap.size 3 1 (.slice sa4 (vQ t im).length sc4) (vQ t im).length (nats (vQ t im))) at HO4
  go_wp2
  have hg5 : w4.grownBy ((w4.setCell ⟨w.heap.size, 0, none⟩ (.slice sa4 (vQ t im).length sc4)).setCell ⟨w.heap.size, 1, none⟩ (.bool false)) (some w.heap.size) :=
   zF (zH w4 ⟨w.heap.size, 0, none⟩ _) (zH (w4.setCell ⟨w.heap.size, 0, none⟩ (.slice sa4 (vQ t im).length sc4)) ⟨w.heap.size, 1, none⟩ _)
  refine bodyPost_ret (v := .tuple #[.agg #[.slice sa4 (vQ t im).length sc4, .bool false], .int .i64 0]) (by simp [results, Tryd.results24, go_sem, cr0, cr1]; rfl) rfl ?_
  exact ⟨zG HGR.out hg5 (fun q e => by have : w.heap.size = q := Option.some.inj e; omega), .inr ⟨HZ.out, sa4, sc4, rfl, yG (yC HO4.out hg5 (fun q e => by have : w.heap.size = q := Option.some.inj e; omega)) (by omega)⟩⟩
 ·obtain ⟨E, hE⟩ : ∃ E, E = yT t im := ⟨_, rfl⟩
  rw [← hE] at hz ⊢
  have HE := Kh hE
  have cr0 := zI HR1.out 0 (by simp)
  have cr1 := zI HR1.out 1 (by simp)
  have fr0 := zD HR1.out 0
  have fr1 := zD HR1.out 1
  simp only [List.getElem_toArray, List.getElem_cons_zero, List.getElem_cons_succ] at cr0 cr1
  have e1 : (E != 0) = true := by rw [bne_iff_ne]; exact hz
  clear hE
  go_wp2
  have hg5 : w1.grownBy ((w1.setCell ⟨w.heap.size, 0, none⟩ (.slice none 0 0)).setCell ⟨w.heap.size, 1, none⟩ (.bool false)) (some w.heap.size) :=
   zF (zH w1 ⟨w.heap.size, 0, none⟩ _) (zH (w1.setCell ⟨w.heap.size, 0, none⟩ (.slice none 0 0)) ⟨w.heap.size, 1, none⟩ _)
  refine bodyPost_ret (v := .tuple #[.agg #[.slice none 0 0, .bool false], .int .i64 E]) (by simp [results, Tryd.results24, go_sem, cr0, cr1]) rfl ?_
  exact ⟨zG (zF HGA.out HG1.out) hg5 (fun q e => by have : w.heap.size = q := Option.some.inj e; omega), .inl ⟨by rw [← HE.out]; exact hz, by rw [← HE.out]⟩⟩
set_option maxHeartbeats 400000 in
theorem rbegin_any (B : Nat) (w : World) (v iv : Value) (t : List (List Int)) (im : List Int) (hB : B ≤ w.heap.size) (h : Mat B w v t) (hi : Row B w iv (ints im)) :
  Calls Tryd.prog 25 #[v, iv] w (BeginOk w t im) := by
 have H := Kh h; have HI := Kh hi
 clear h hi
 go_enter Tryd.func25, Tryd.ntmps25
 go_upto_region 1 with fail
 obtain ⟨wA, hWA⟩ : ∃ wA, wA = w.alloc (.cells #[.slice none 0 0, .bool false] 49) := ⟨_, rfl⟩
 have hrb : wA.heap[w.heap.size]? = some (.cells #[.slice none 0 0, .bool false] 49 (0, 0)) := by rw [hWA]; exact heap_alloc_new w _
 have hgA : w.grownBy wA none := by rw [hWA]; exact World.grownBy_alloc w _ none
 have hzA : wA.heap.size = w.heap.size + 1 := by rw [hWA, zN]
 rw [← hWA]
 have HGA := Kh hgA; have HRA := Kh hrb
 have HCH := Kh (may_any B wA v iv t im (H.out.kept hgA (by simp)) (HI.out.kept hgA (by simp)))
 clear hWA hrb hgA
 go_wp2_with fail
 refine HCH.out.mono ?_
 rintro e w1 ⟨rfl, hd1⟩
 have hg1 : wA.grownBy w1 none := by obtain ⟨m, rfl⟩ := hd1; exact zP _ _ _
 have hr1 := zE HRA.out hg1 (by simp)
 have HG1 := Kh hg1; have HR1 := Kh hr1
 have hz1 := hg1.size
 clear HCH hr1 hg1 hd1
 by_cases hz : yT t im = 0
 ·rw [hz]
  have HZ := Kh hz
  have hgd := tL.1 hz
  have HGD := Kh hgd
  have hle := hgd.le
  have HG := Kh (begin40_any B w1 v iv t im (by omega) ((H.out.kept HGA.out (by simp)).kept HG1.out (by simp)) ((HI.out.kept HGA.out (by simp)).kept HG1.out (by simp)) hgd)
  clear hz hgd
  go_wp2_with fail
  refine HG.out.mono ?_
  rintro e w3 ⟨sa, sc, rfl, hown, hg3⟩
  have HG3 := Kh hg3
  have hz3 := hg3.size
  have HM := Kh (maxref_any w3.heap.size w3 _ (genL t im) t.length hle (Nat.le_refl _) (Row.of_owns hown) (genL_lt HGD.out))
  clear hown hg3 HG
  go_wp2_with fail
  refine HM.out.mono ?_
  rintro e w4 ⟨sa4, sc4, rfl, hown4, hg4⟩
  have hz4 := hg4.size
  have hgr : w1.grownBy w4 none := zF HG3.out hg4
  have hr4 := zE HR1.out hgr (by simp)
  have cr0 := zI hr4 0 (by simp)
  have cr1 := zI hr4 1 (by simp)
  have fr0 := zD hr4 0
  have fr1 := zD hr4 1
  simp only [List.getElem_toArray, List.getElem_cons_zero, List.getElem_cons_succ] at cr0 cr1
  have HO4 := Kh hown4
  have HGR := Kh (zF (zF HGA.out HG1.out) hgr)
  clear hown4 hr4 hgr hg4 HM
  change Hid (w4.ownsRow w3.heap.size 3 1 (.slice sa4 (vQ t im).length sc4) (vQ t im).length (nats (vQ t im))) at HO4
  go_wp2
  have hg5 : w4.grownBy ((w4.setCell ⟨w.heap.size, 0, none⟩ (.slice sa4 (vQ t im).length sc4)).setCell ⟨w.heap.size, 1, none⟩ (.bool false)) (some w.heap.size) :=
   zF (zH w4 ⟨w.heap.size, 0, none⟩ _) (zH (w4.setCell ⟨w.heap.size, 0, none⟩ (.slice sa4 (vQ t im).length sc4)) ⟨w.heap.size, 1, none⟩ _)
  refine bodyPost_ret (v := .tuple #[.agg #[.slice sa4 (vQ t im).length sc4, .bool false], .int .i64 0]) (by simp [results, Tryd.results25, go_sem, cr0, cr1]; rfl) rfl ?_
  exact ⟨zG HGR.out hg5 (fun q e => by have : w.heap.size = q := Option.some.inj e; omega), .inr ⟨HZ.out, sa4, sc4, rfl, yG (yC HO4.out hg5 (fun q e => by have : w.heap.size = q := Option.some.inj e; omega)) (by omega)⟩⟩
 ·obtain ⟨E, hE⟩ : ∃ E, E = yT t im := ⟨_, rfl⟩
  rw [← hE] at hz ⊢
  have HE := Kh hE
  have cr0 := zI HR1.out 0 (by simp)
  have cr1 := zI HR1.out 1 (by simp)
  have fr0 := zD HR1.out 0
  have fr1 := zD HR1.out 1
  simp only [List.getElem_toArray, List.getElem_cons_zero, List.getElem_cons_succ] at cr0 cr1
  have e1 : (E != 0) = true := by rw [bne_iff_ne]; exact hz
  clear hE
  go_wp2
  have hg5 : w1.grownBy ((w1.setCell ⟨w.heap.size, 0, none⟩ (.slice none 0 0)).setCell ⟨w.heap.size, 1, none⟩ (.bool false)) (some w.heap.size) :=
   zF (zH w1 ⟨w.heap.size, 0, none⟩ _) (zH (w1.setCell ⟨w.heap.size, 0, none⟩ (.slice none 0 0)) ⟨w.heap.size, 1, none⟩ _)
  refine bodyPost_ret (v := .tuple #[.agg #[.slice none 0 0, .bool false], .int .i64 E]) (by simp [results, Tryd.results25, go_sem, cr0, cr1]) rfl ?_
  exact ⟨zG (zF HGA.out HG1.out) hg5 (fun q e => by have : w.heap.size = q := Option.some.inj e; omega), .inl ⟨by rw [← HE.out]; exact hz, by rw [← HE.out]⟩⟩
noncomputable def closeL (t : List (List Int)) (im : List Int) : List Nat := closeFrom t.length (entN t) (vQ t im)
def ClosureOk (w : World) (t : List (List Int)) (im : List Int) (e : Ending) (w' : World) : Prop :=
 w.grownBy w' none ∧ ((yT t im ≠ 0 ∧ e = .returned (.tuple #[.slice none 0 0, .int .i64 (yT t im)])) ∨
  (yT t im = 0 ∧ ∃ v, e = .returned (.tuple #[v, .int .i64 0]) ∧ Row w'.heap.size w' v (nats (closeL t im))))
theorem start_ok {t : List (List Int)} {im : List Int} (h : Good t im) : FamOk t.length (vQ t im, false) := ⟨fun _ hb => maxOf_lt hb, maxOf_max (genL_lt h)⟩
theorem start_pos {t : List (List Int)} {im : List Int} (h : Good t im) : 0 < (vQ t im).length := by
 obtain ⟨b, hb, _⟩ := exists_max (genL_lt h) _ (2 ^ (wY t).toNat) (Nat.le_refl _) (by simp [genL])
 exact List.length_pos_of_mem hb
def Going (n : Nat) (tb : Nat → Nat → Nat) (l0 l : List Nat) (d : Bool) : Prop := FamOk n (l, d) ∧ ∃ k, xH n tb k (l0, false) = (l, d)
theorem Going.step {n : Nat} {tb : Nat → Nat → Nat} {l0 l : List Nat} (ht : Tb n tb) (h : Going n tb l0 l false) : Going n tb l0 (zW n tb l) (decide (zW n tb l = l)) := by
 obtain ⟨hf, k, hk⟩ := h
 refine ⟨famOk_round ht hf, k + 1, ?_⟩
 rw [roundsGo_add, hk, vZ]; rfl
theorem Going.stop {n : Nat} {tb : Nat → Nat → Nat} {l0 l : List Nat} (ht : Tb n tb) (h0 : FamOk n (l0, false)) (h : Going n tb l0 l true) : l = closeFrom n tb l0 := by
 obtain ⟨_, k, hk⟩ := h
 have := roundsGo_stop ht h0 (k := k) (by rw [hk])
 rw [hk] at this
 exact this
def togo (n : Nat) (l : List Nat) (d : Bool) : Nat := if d then 0 else gap n l + 1
theorem Going.less {n : Nat} {tb : Nat → Nat → Nat} {l0 l : List Nat} (ht : Tb n tb) (h : Going n tb l0 l false) : togo n (zW n tb l) (decide (zW n tb l = l)) < togo n l false := by
 unfold togo
 by_cases e : zW n tb l = l
 ·simp [e]
 ·have := gap_round ht h.1.1 h.1.2 e
  simp [e, this]
theorem Going.le {n : Nat} {tb : Nat → Nat → Nat} {l0 l : List Nat} {d : Bool} (h : Going n tb l0 l d) : l.length ≤ 2 ^ n := by
 have := maxOf_le n l
 rw [h.1.2] at this
 exact this
structure Held (F C bx : Nat) (w : World) (k sc : Nat) (l : List Nat) : Prop where
 row : RowAt w k 0 (nats l)
 le : l.length ≤ sc
 mx : sc ≤ maxLen
 out : k < F ∨ C ≤ k
 nb : k ≠ bx
theorem Held.rowO {F C bx k sc : Nat} {w : World} {l : List Nat} (h : Held F C bx w k sc l) : RowO F C w.heap.size w (.slice (some ⟨k, 0, none⟩) l.length sc) (nats l) :=
 .inr ⟨k, 0, sc, by rw [zL], h.out, h.row.1, by rw [zL]; exact h.le, h.mx, h.row⟩
theorem Held.kept {F C bx k sc : Nat} {w w' : World} {l : List Nat} {row : Option Nat} (h : Held F C bx w k sc l) (hg : w.grownBy w' row) (hr : row ≠ some k) : Held F C bx w' k sc l :=
 ⟨h.row.kept hg hr, h.le, h.mx, h.out, h.nb⟩
theorem Held.of_owns {F C bx base k sc : Nat} {w : World} {l : List Nat} (h : w.ownsRow base 3 1 (.slice (some ⟨k, 0, none⟩) l.length sc) l.length (nats l)) (h0 : 0 < l.length) (ho : k < F ∨ C ≤ k) (hn : k ≠ bx) : Held F C bx w k sc l := by
 obtain ⟨kb, e, h1, h2, h3⟩ := yI h h0
 simp only [Option.some.injEq, Addr.mk.injEq, and_true] at e
 subst e
 exact ⟨h3.row, h1, h2, ho, hn⟩
def famAt (n : Nat) (zs : List Int) (i : Nat) : Bool := decide (zs.getD i 0 ≠ 0) && setB n (zs.getD i 0) && decide (i = 0 ∨ zs.getD (i - 1) 0 < zs.getD i 0)
theorem tQ {n : Nat} {zs : List Int} {i : Nat} {z u : Int} (hz : z = zs.getD i 0) (hu : u = zs.getD (i - 1) 0) : famAt n zs i = (decide (z ≠ 0) && setB n z && decide (i = 0 ∨ u < z)) := by subst hz; subst hu; rfl
def famTo (n : Nat) (zs : List Int) (k : Nat) : Bool := (List.range k).all (famAt n zs)
theorem famTo_succ (n : Nat) (zs : List Int) (k : Nat) : famTo n zs (k + 1) = (famTo n zs k && famAt n zs k) := by simp [famTo, List.range_succ]
theorem famTo_at {n : Nat} {zs : List Int} {k i : Nat} (h : famTo n zs k = true) (hi : i < k) : famAt n zs i = true := by
 simp only [famTo, List.all_eq_true] at h
 exact h i (List.mem_range.2 hi)
theorem famTo_no {n : Nat} {zs : List Int} {k i : Nat} (h : famAt n zs i = false) (hi : i < k) : famTo n zs k = false := by
 cases e : famTo n zs k with
 | false => rfl
 | true => rw [famTo_at e hi] at h; exact absurd h (by simp)
def natL (zs : List Int) : List Nat := zs.map Int.toNat
theorem sX (zs : List Int) : (natL zs).length = zs.length := by simp [natL]
theorem natL_getD (zs : List Int) (i : Nat) : (natL zs).getD i 0 = (zs.getD i 0).toNat := by
 simp only [natL, List.getD, List.getElem?_map]
 cases zs[i]? <;> rfl
theorem ints_natL {n : Nat} {zs : List Int} (h : famTo n zs zs.length = true) : ints zs = nats (natL zs) := by
 unfold ints nats natL
 rw [List.map_map]
 refine List.map_congr_left fun z hz => ?_
 obtain ⟨i, hi, rfl⟩ := List.getElem_of_mem hz
 have := famTo_at h hi
 simp only [famAt, setB, List.getD, List.getElem?_eq_getElem hi, Option.getD_some, Bool.and_eq_true, decide_eq_true_eq] at this
 simp only [Function.comp]
 congr 1
 omega
theorem natL_lt {n : Nat} {zs : List Int} (h : famTo n zs zs.length = true) : ∀ b ∈ natL zs, b < 2 ^ n := by
 intro b hb
 obtain ⟨z, hz, rfl⟩ := List.mem_map.1 hb
 obtain ⟨i, hi, rfl⟩ := List.getElem_of_mem hz
 have := famTo_at h hi
 simp only [famAt, setB, List.getD, List.getElem?_eq_getElem hi, Option.getD_some, Bool.and_eq_true, decide_eq_true_eq] at this
 omega
theorem natL_sorted {n : Nat} {zs : List Int} (h : famTo n zs zs.length = true) : (natL zs).Pairwise (· < ·) := by
 have step : ∀ i, i + 1 < zs.length → (natL zs).getD i 0 < (natL zs).getD (i + 1) 0 := by
  intro i hi
  rw [natL_getD, natL_getD]
  have h1 := famTo_at h hi
  have h2 := famTo_at h (i := i) (by omega)
  simp only [famAt, setB, Bool.and_eq_true, decide_eq_true_eq] at h1 h2
  have := h1.2
  simp only [Nat.add_sub_cancel] at this
  omega
 rw [List.pairwise_iff_getElem]
 have key : ∀ d i, i + d + 1 < zs.length → (natL zs).getD i 0 < (natL zs).getD (i + d + 1) 0 := by
  intro d
  induction d with
  | zero => intro i hi; exact step i hi
  | succ d ih => intro i hi; exact Nat.lt_trans (ih i (by omega)) (step (i + d + 1) (by omega))
 intro i j hi hj hij
 have := key (j - i - 1) i (by rw [sX] at hj; omega)
 rw [show i + (j - i - 1) + 1 = j from by omega] at this
 simpa [List.getD, List.getElem?_eq_getElem hi, List.getElem?_eq_getElem hj] using this
def famB (n : Nat) (zs : List Int) : Bool := decide (0 < zs.length) && famTo n zs zs.length && decide ((maxOf n (natL zs)).length = zs.length)
theorem sub_list : ∀ {m l : List Nat}, l.Pairwise (· < ·) → m.Pairwise (· < ·) → (∀ a ∈ l, a ∈ m) → l.Sublist m
 | [], l, _, _, hs => by
  cases l with
  | nil => exact List.Sublist.refl _
  | cons a l => exact absurd (hs a (by simp)) (by simp)
 | b :: m, [], _, _, _ => List.nil_sublist _
 | b :: m, a :: l, hl, hm, hs => by
  have hm' := List.pairwise_cons.1 hm
  have hl' := List.pairwise_cons.1 hl
  by_cases e : a = b
  ·subst e
   refine (sub_list hl'.2 hm'.2 fun x hx => ?_).cons_cons a
   rcases List.mem_cons.1 (hs x (List.mem_cons_of_mem _ hx)) with rfl | h
   ·exact absurd (hl'.1 x hx) (Nat.lt_irrefl _)
   ·exact h
  ·have ha : a ∈ m := by
    rcases List.mem_cons.1 (hs a (by simp)) with h | h
    ·exact absurd h e
    ·exact h
   have hab := hm'.1 a ha
   refine (sub_list hl hm'.2 fun x hx => ?_).cons b
   rcases List.mem_cons.1 (hs x hx) with rfl | h
   ·rcases List.mem_cons.1 hx with rfl | hx
    ·exact absurd rfl e
    ·have := hl'.1 x hx; omega
   ·exact h
theorem sub_eq {l m : List Nat} (hl : l.Pairwise (· < ·)) (hm : m.Pairwise (· < ·)) (hs : ∀ a ∈ l, a ∈ m) (hlen : l.length = m.length) : l = m := (sub_list hl hm hs).eq_of_length hlen
theorem famB_max {n : Nat} {zs : List Int} (h : famB n zs = true) : FamOk n (natL zs, false) ∧ 0 < (natL zs).length ∧ ints zs = nats (natL zs) := by
 simp only [famB, Bool.and_eq_true, decide_eq_true_eq] at h
 obtain ⟨⟨h1, h2⟩, h3⟩ := h
 refine ⟨⟨natL_lt h2, ?_⟩, by rw [sX]; exact h1, ints_natL h2⟩
 exact sub_eq (maxOf_sorted _ _) (natL_sorted h2) (fun a ha => maxOf_sub (natL_lt h2) ha) (by rw [h3, sX])
theorem famB_eq {n : Nat} {zs : List Int} (h0 : 0 < zs.length) (h : famTo n zs zs.length = true) : famB n zs = decide ((maxOf n (natL zs)).length = zs.length) := by
 simp [famB, h0, h]
theorem famB_no {n : Nat} {zs : List Int} (h : famTo n zs zs.length = false) : famB n zs = false := by simp [famB, h]
theorem famB_nil {n : Nat} {zs : List Int} (h : zs.length = 0) : famB n zs = false := by simp [famB, h]
theorem tO {xs : List Int} {k : Nat} (h : k < xs.length) : xs.take (k + 1) = xs.take k ++ [xs.getD k 0] := by
 rw [List.take_add_one]; simp [List.getD, h]
set_option maxHeartbeats 400000 in
theorem same40_any (B C : Nat) (w : World) (va vb : Value) (xs ys : List Int) (ha : Row B w va (ints xs)) (hb : Row C w vb (ints ys)) :
  Calls Tryd.prog 67 #[va, vb] w fun e w' => e = .returned (.bool (decide (xs = ys))) ∧ ∃ m, w' = w.drewN m := by
 have hxl := ha.len_le
 rw [zM] at hxl
 unfold maxLen at hxl
 have hyl := hb.len_le
 rw [zM] at hyl
 unfold maxLen at hyl
 obtain ⟨aa, ac, rfl⟩ := ha.shape
 obtain ⟨ba, bc, rfl⟩ := hb.shape
 rw [zM] at ha hb ⊢
 rw [zM]
 by_cases hl : xs.length = ys.length
 ·by_cases h0 : xs.length = 0
  ·have hx : xs = [] := List.eq_nil_of_length_eq_zero h0
   have hy : ys = [] := List.eq_nil_of_length_eq_zero (by omega)
   subst hx; subst hy
   clear ha hb
   go_enter Tryd.func67, Tryd.ntmps67
   go_wp2
   go_loopg [13] 0 (fun g i wr => i = .int .i64 0 ∧ wr = w)
   case atStart => exact ⟨rfl, rfl⟩
   case round =>
    obtain ⟨rfl, rfl⟩ := hrel
    go_wp2
    go_ret
    exact ⟨yS rfl, 0, rfl⟩
  ·obtain ⟨ab, ao, ac', e, _, _, _, hra⟩ := ha.some_ (by rw [zM]; omega)
   simp only [Value.slice.injEq] at e
   obtain ⟨rfl, -, -⟩ := e
   obtain ⟨bb, bo, bc', e, _, _, _, hrb⟩ := hb.some_ (by rw [zM]; omega)
   simp only [Value.slice.injEq] at e
   obtain ⟨rfl, -, -⟩ := e
   have RA := Kh hra; have RB := Kh hrb; have HL := Kh hl
   clear ha hb hra hrb
   rw [← hl]
   clear hl
   go_enter Tryd.func67, Tryd.ntmps67
   go_wp2
   go_loopg [13] xs.length (fun g i wr => ∃ k : Nat, g + k = xs.length ∧ i = .int .i64 k ∧ xs.take k = ys.take k ∧ ∃ m, wr = w.drewN m)
   case atStart => exact ⟨0, rfl, rfl, rfl, 0, rfl⟩
   case round =>
    obtain ⟨k, hg, rfl, hok, m, rfl⟩ := hrel
    have HG := Kh hg; have OK := Kh hok; clear hg hok
    by_cases hk : k < xs.length
    ·have hk' : (k : Int) < xs.length := by omega
     have ca := RA.out.int k hk
     have cb := RB.out.int k (by have := HL.out; omega)
     obtain ⟨z, hz⟩ : ∃ z, z = xs.getD k 0 := ⟨_, rfl⟩
     obtain ⟨u, hu⟩ : ∃ u, u = ys.getD k 0 := ⟨_, rfl⟩
     rw [← hz] at ca
     rw [← hu] at cb
     have HZ := Kh hz; have HU := Kh hu; clear hz hu
     by_cases hzu : z = u
     ·have HN : Hid (xs.take (k + 1) = ys.take (k + 1)) := Kh (by rw [tO hk, tO (by have := HL.out; omega), OK.out, ← HZ.out, ← HU.out, hzu])
      subst hzu
      go_wp2
      go_quiet (fail)
      go_wp2
      go_roundg (xs.length - (k + 1))
      case measure => have := HG.out; omega
      case rel => exact ⟨k + 1, by omega, by go_num, HN.out, _, rfl⟩
     ·have e1 : (z != u) = true := by rw [bne_iff_ne]; exact hzu
      have HN : Hid (decide (xs = ys) = false) := Kh (by rw [decide_eq_false_iff_not]; rintro rfl; exact hzu (by rw [HZ.out, HU.out]))
      go_wp2
      go_quiet (fail)
      go_wp2
      go_ret
      exact ⟨yS HN.out.symm, _, by rw [World.drewN_drewN]⟩
    ·have HY : Hid (decide (xs = ys) = true) := by
      have hkz : k = xs.length := by have := HG.out; omega
      have := OK.out
      rw [List.take_of_length_le (by omega), List.take_of_length_le (by have := HL.out; omega)] at this
      exact Kh (by rw [decide_eq_true_eq]; exact this)
     go_wp2
     go_ret
     exact ⟨yS HY.out.symm, m, rfl⟩
 ·have e1 : ((xs.length : Int) != (ys.length : Int)) = true := by rw [bne_iff_ne]; omega
  have HN : Hid (decide (xs = ys) = false) := Kh (by rw [decide_eq_false_iff_not]; rintro rfl; exact hl rfl)
  clear ha hb
  go_enter Tryd.func67, Tryd.ntmps67
  go_wp2
  go_ret
  exact ⟨yS HN.out.symm, 0, rfl⟩
set_option maxHeartbeats 400000 in
theorem sF (B C : Nat) (w : World) (va vb : Value) (xs ys : List Int) (ha : Row B w va (ints xs)) (hb : Row C w vb (ints ys)) :
  Calls Tryd.prog 30 #[va, vb] w fun e w' => e = .returned (.bool (decide (xs = ys))) ∧ ∃ m, w' = w.drewN m := by
 have hxl := ha.len_le
 rw [zM] at hxl
 unfold maxLen at hxl
 have hyl := hb.len_le
 rw [zM] at hyl
 unfold maxLen at hyl
 obtain ⟨aa, ac, rfl⟩ := ha.shape
 obtain ⟨ba, bc, rfl⟩ := hb.shape
 rw [zM] at ha hb ⊢
 rw [zM]
 by_cases hl : xs.length = ys.length
 ·by_cases h0 : xs.length = 0
  ·have hx : xs = [] := List.eq_nil_of_length_eq_zero h0
   have hy : ys = [] := List.eq_nil_of_length_eq_zero (by omega)
   subst hx; subst hy
   clear ha hb
   go_enter Tryd.func30, Tryd.ntmps30
   go_wp2
   go_loopg [13] 0 (fun g i wr => i = .int .i64 0 ∧ wr = w)
   case atStart => exact ⟨rfl, rfl⟩
   case round =>
    obtain ⟨rfl, rfl⟩ := hrel
    go_wp2
    go_ret
    exact ⟨yS rfl, 0, rfl⟩
  ·obtain ⟨ab, ao, ac', e, _, _, _, hra⟩ := ha.some_ (by rw [zM]; omega)
   simp only [Value.slice.injEq] at e
   obtain ⟨rfl, -, -⟩ := e
   obtain ⟨bb, bo, bc', e, _, _, _, hrb⟩ := hb.some_ (by rw [zM]; omega)
   simp only [Value.slice.injEq] at e
   obtain ⟨rfl, -, -⟩ := e
   have RA := Kh hra; have RB := Kh hrb; have HL := Kh hl
   clear ha hb hra hrb
   rw [← hl]
   clear hl
   go_enter Tryd.func30, Tryd.ntmps30
   go_wp2
   go_loopg [13] xs.length (fun g i wr => ∃ k : Nat, g + k = xs.length ∧ i = .int .i64 k ∧ xs.take k = ys.take k ∧ ∃ m, wr = w.drewN m)
   case atStart => exact ⟨0, rfl, rfl, rfl, 0, rfl⟩
   case round =>
    obtain ⟨k, hg, rfl, hok, m, rfl⟩ := hrel
    have HG := Kh hg; have OK := Kh hok; clear hg hok
    by_cases hk : k < xs.length
    ·have hk' : (k : Int) < xs.length := by omega
     have ca := RA.out.int k hk
     have cb := RB.out.int k (by have := HL.out; omega)
     obtain ⟨z, hz⟩ : ∃ z, z = xs.getD k 0 := ⟨_, rfl⟩
     obtain ⟨u, hu⟩ : ∃ u, u = ys.getD k 0 := ⟨_, rfl⟩
     rw [← hz] at ca
     rw [← hu] at cb
     have HZ := Kh hz; have HU := Kh hu; clear hz hu
     by_cases hzu : z = u
     ·have HN : Hid (xs.take (k + 1) = ys.take (k + 1)) := Kh (by rw [tO hk, tO (by have := HL.out; omega), OK.out, ← HZ.out, ← HU.out, hzu])
      subst hzu
      go_wp2
      go_quiet (fail)
      go_wp2
      go_roundg (xs.length - (k + 1))
      case measure => have := HG.out; omega
      case rel => exact ⟨k + 1, by omega, by go_num, HN.out, _, rfl⟩
     ·have e1 : (z != u) = true := by rw [bne_iff_ne]; exact hzu
      have HN : Hid (decide (xs = ys) = false) := Kh (by rw [decide_eq_false_iff_not]; rintro rfl; exact hzu (by rw [HZ.out, HU.out]))
      go_wp2
      go_quiet (fail)
      go_wp2
      go_ret
      exact ⟨yS HN.out.symm, _, by rw [World.drewN_drewN]⟩
    ·have HY : Hid (decide (xs = ys) = true) := by
      have hkz : k = xs.length := by have := HG.out; omega
      have := OK.out
      rw [List.take_of_length_le (by omega), List.take_of_length_le (by have := HL.out; omega)] at this
      exact Kh (by rw [decide_eq_true_eq]; exact this)
     go_wp2
     go_ret
     exact ⟨yS HY.out.symm, m, rfl⟩
 ·have e1 : ((xs.length : Int) != (ys.length : Int)) = true := by rw [bne_iff_ne]; omega
  have HN : Hid (decide (xs = ys) = false) := Kh (by rw [decide_eq_false_iff_not]; rintro rfl; exact hl rfl)
  clear ha hb
  go_enter Tryd.func30, Tryd.ntmps30
  go_wp2
  go_ret
  exact ⟨yS HN.out.symm, 0, rfl⟩
end Go.Proofs.YtdjhoadoiknaoaaDoor
namespace Go.Proofs.YtdjhoadoiknaoaaDoor
open Go.RowKit Go.Maps
theorem key_int : Keyed Tryd.prog 3 := int_keyed (q := .i64) (by kernel_rfl)
theorem map_under : Tryd.prog.underlying 118 = some (.map 3 4) := by kernel_rfl
theorem bool_under : Tryd.prog.underlying 4 = some .bool := by kernel_rfl
theorem zero_bool (w : World) : (zeroValue 4).run Tryd.prog w = .ok (.bool false) w := by kernel_rfl
theorem key_wf {x : Nat} (hx : x < 4611686018427387904) : (Lit.int .i64 (x : Int)).wf = true := by
 have h1 : IntKind.i64.min = -9223372036854775808 := rfl
 have h2 : IntKind.i64.max = 9223372036854775807 := rfl
 simp [Lit.wf]; omega
theorem key_of {x : Nat} (hx : x < 4611686018427387904) : keyOf Tryd.prog 3 (.int .i64 (x : Int)) = some (.int .i64 (x : Int)) := keyOf_int_mk (q := .i64) (by kernel_rfl) (key_wf hx)
theorem bool_inv {v : Value} {c : Bool} {ps : List MemPlace} (h : plainElem (H := Unit) Tryd.prog 4 v = some (.lit (.bool c), ps)) : v = .bool c := by
 unfold plainElem at h
 rw [bool_under] at h
 cases v <;> simp at h
 rw [h.1]
def MapIn (w : World) (b n : Nat) (l : List Nat) : Prop :=
 ∃ D : DataW Unit, w.ownsMap Tryd.prog 3 (plainElem Tryd.prog 4) b n D ∧ IsMap D ∧ ∀ x : Nat, x < 4611686018427387904 → D.atKey (.int .i64 (x : Int)) (.lit (.bool false)) = .lit (.bool (decide (x ∈ l)))
theorem MapIn.made (w : World) : MapIn (w.alloc (.map #[] 0)) w.heap.size 0 [] := by
 refine ⟨.map [], World.ownsMap_made _ _ _ _, ⟨_, rfl⟩, fun x _ => ?_⟩
 rw [WideAt.atKey_none _ (by simp)]
 simp
theorem MapIn.kept {w w' : World} {b n : Nat} {l : List Nat} {row : Option Nat} (h : MapIn w b n l) (hg : w.grownBy w' row) (hne : row ≠ some b) : MapIn w' b n l := by
 obtain ⟨D, h1, h2, h3⟩ := h
 exact ⟨D, h1.kept hg (fun e => hne e.symm), h2, h3⟩
theorem MapIn.lt {w : World} {b n : Nat} {l : List Nat} (h : MapIn w b n l) : b < w.heap.size := by
 obtain ⟨D, h1, _⟩ := h
 exact h1.lt
theorem MapIn.lookup {w : World} {b n : Nat} {l : List Nat} (h : MapIn w b n l) {x : Nat} (hx : x < 4611686018427387904) : (Instr.lookup 118 (.map (some b)) (.int .i64 (x : Int)) false).run Tryd.prog w = .ok (.bool (decide (x ∈ l))) w := by
 obtain ⟨D, h1, h2, h3⟩ := h
 obtain ⟨v, ps, hrun, hv⟩ := h1.lookup key_int map_under (zero_bool w) (plainElem_bool bool_under false) (key_of hx)
 rw [h3 x hx] at hv
 rw [hrun, bool_inv hv]
theorem MapIn.update {w : World} {b n : Nat} {l : List Nat} (h : MapIn w b n l) (hn : n < maxLen) {x : Nat} (hx : x < 4611686018427387904) :
  ∃ w', (Instr.mapUpdate 118 (.map (some b)) (.int .i64 (x : Int)) (.bool true)).run Tryd.prog w = .ok () w' ∧ MapIn w' b (n + 1) (x :: l) ∧ w.grownBy w' (some b) := by
 obtain ⟨D, h1, h2, h3⟩ := h
 obtain ⟨w', hrun, hown, hg⟩ := h1.update key_int map_under hn (key_of hx) (plainElem_bool bool_under true)
 refine ⟨w', hrun, ⟨_, hown, ?_, fun y hy => ?_⟩, hg⟩
 ·exact h2.put _ _
 ·by_cases e : y = x
  ·subst e
   rw [atKey_put_same (k := .int .i64 (y : Int)) h2 (by simp [WideAt.IsKeyLit])]
   simp
  ·rw [atKey_put_other (by intro h; injection h with _ h; omega), h3 y hy]
   simp [e]
theorem step_in {w : World} {ops : Array Oper} {rest : List Oper} {o : Oper} {a : Act} {Q : Exit → Act → World → Prop} (hg : o.guard = none) (m x v : Operand) (hop : o.op = Op.mapUpdate 118 m x v)
  (b n : Nat) (l : List Nat) (z : Nat) (hm : a.eval m = .map (some b)) (hx : a.eval x = .int .i64 (z : Int)) (hv : a.eval v = .bool true) (h : MapIn w b n l) (hn : n < maxLen) (hz : z < 4611686018427387904)
  (hK : ∀ w', MapIn w' b (n + 1) (z :: l) → w.grownBy w' (some b) → wpList Tryd.prog ops Q rest (a.put o.dst undef) w') :
  wpList Tryd.prog ops Q (o :: rest) a w := by
 refine wpList_plain hg fun K' hK' => ?_
 obtain ⟨w', hrun, r1, r2⟩ := h.update hn hz
 unfold Oper.wp
 simp [execOp, hop, hm, hx, hv, hrun, Result.andThen]
 exact hK' _ _ (hK w' r1 r2)
end Go.Proofs.YtdjhoadoiknaoaaDoor
