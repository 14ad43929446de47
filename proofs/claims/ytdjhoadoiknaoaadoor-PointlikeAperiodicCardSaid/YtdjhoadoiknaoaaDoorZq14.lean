/- Part 14 of the proof: Begin, Going, Sames, MapIn, Numb. -/
import Derived.Test.YtdjhoadoiknaoaaDoorZq13
import Derived.Maps.Own
import Derived.Maps.Views
set_option linter.unusedVariables false
set_option linter.unusedSimpArgs false
namespace Go.Proofs.YtdjhoadoiknaoaaDoor
open Go.RowKit
def tL (t : List (List Int)) (im : List Int) : List Nat := maxOf t.length (genL t im)
def BeginOk (w : World) (t : List (List Int)) (im : List Int) (e : Ending) (w' : World) : Prop :=
 w.grownBy w' none ∧ ((wI t im ≠ 0 ∧ e = .returned (.tuple #[.agg #[.slice none 0 0, .bool false], .int .i64 (wI t im)])) ∨
  (wI t im = 0 ∧ ∃ (sa : Option Addr) (sc : Nat), e = .returned (.tuple #[.agg #[.slice sa (tL t im).length sc, .bool false], .int .i64 0]) ∧ w'.ownsRow w.heap.size 3 1 (.slice sa (tL t im).length sc) (tL t im).length (nats (tL t im))))
set_option maxHeartbeats 400000 in
theorem begin_any (B : Nat) (w : World) (v iv : Value) (t : List (List Int)) (im : List Int) (hB : B ≤ w.heap.size) (h : Mat B w v t) (hi : Row B w iv (ints im)) (hT : TabOk w) :
  Calls Tryd.prog 24 #[v, iv] w (BeginOk w t im) := by
 have H := Kh h; have HI := Kh hi; have HT := Kh hT
 clear h hi hT
 go_enter Tryd.func24, Tryd.ntmps24
 go_upto_region 1 with fail
 obtain ⟨wA, hWA⟩ : ∃ wA, wA = w.alloc (.cells #[.slice none 0 0, .bool false] 49) := ⟨_, rfl⟩
 have hrb : wA.heap[w.heap.size]? = some (.cells #[.slice none 0 0, .bool false] 49 (0, 0)) := by rw [hWA]; exact heap_alloc_new w _
 have hgA : w.grownBy wA none := by rw [hWA]; exact World.grownBy_alloc w _ none
 have hzA : wA.heap.size = w.heap.size + 1 := by rw [hWA, zM]
 rw [← hWA]
 have HGA := Kh hgA; have HRA := Kh hrb
 have hBA : B ≤ wA.heap.size := by omega
 have HCH := Kh (check_any B wA v iv t im hBA (H.out.kept hgA (by simp)) (HI.out.kept hgA (by simp)))
 clear hWA hrb hgA
 go_wp2_with fail
 refine HCH.out.mono ?_
 rintro e w1 ⟨rfl, hg1⟩
 have hr1 := zE HRA.out hg1 (by simp)
 have HG1 := Kh hg1; have HR1 := Kh hr1
 have hz1 := hg1.size
 clear HCH hr1 hg1
 by_cases hz : wI t im = 0
 ·rw [hz]
  have HZ := Kh hz
  have hgd := checkE_good.1 hz
  have HGD := Kh hgd
  have hle := hgd.le
  have hva := hgd.valid
  have HVA := Kh hva
  have HN := Kh (newSets_any B w1 v t (by omega) ((H.out.kept HGA.out (by simp)).kept HG1.out (by simp)) hva hle ((HT.out.kept HGA.out (by simp)).kept HG1.out (by simp)))
  clear hz hgd hva
  go_wp2_with fail
  refine HN.out.mono ?_
  rintro e w2 ⟨p, go, rfl, hs2, hg2⟩
  have HS2 := Kh hs2; have HG2 := Kh hg2
  have hz2 := hg2.size
  have HG := Kh (generators_any B w2 v iv t im (by omega) (((H.out.kept HGA.out (by simp)).kept HG1.out (by simp)).kept hg2 (by simp)) (((HI.out.kept HGA.out (by simp)).kept HG1.out (by simp)).kept hg2 (by simp)) HGD.out)
  clear hs2 hg2 HN
  go_wp2_with fail
  refine HG.out.mono ?_
  rintro e w3 ⟨sa, sc, rfl, hown, hg3⟩
  have HG3 := Kh hg3
  have hz3 := hg3.size
  have HM := Kh (maximal_any w1.heap.size w2.heap.size w3 p go t.length (entN t) _ w3.heap.size (genL t im) (HS2.out.kept hg3 (by simp)) hle (Row.of_owns hown) (genL_lt HGD.out) (Nat.le_refl _))
  clear hown hg3 HG
  go_wp2_with fail
  refine HM.out.mono ?_
  rintro e w4 ⟨sa4, sc4, rfl, hown4, hg4⟩
  have hz4 := hg4.size
  have hgr : w1.grownBy w4 none := zF (zF HG2.out HG3.out) hg4
  have hr4 := zE HR1.out hgr (by simp)
  have cr0 := zJ hr4 0 (by simp)
  have cr1 := zJ hr4 1 (by simp)
  have fr0 := zD hr4 0
  have fr1 := zD hr4 1
  simp only [List.getElem_toArray, List.getElem_cons_zero, List.getElem_cons_succ] at cr0 cr1
  have HO4 := Kh hown4
  have HGR := Kh (zF (zF HGA.out HG1.out) hgr)
  clear hown4 hr4 hgr hg4 HM
  change Hid (w4.ownsRow w3.heap.size 3 1 (.slice sa4 (tL t im).length sc4) (tL t im).length (nats (tL t im))) at HO4
  go_wp2
  have hg5 : w4.grownBy ((w4.setCell ⟨w.heap.size, 0, none⟩ (.slice sa4 (tL t im).length sc4)).setCell ⟨w.heap.size, 1, none⟩ (.bool false)) (some w.heap.size) :=
   zF (zH w4 ⟨w.heap.size, 0, none⟩ _) (zH (w4.setCell ⟨w.heap.size, 0, none⟩ (.slice sa4 (tL t im).length sc4)) ⟨w.heap.size, 1, none⟩ _)
  refine bodyPost_ret (v := .tuple #[.agg #[.slice sa4 (tL t im).length sc4, .bool false], .int .i64 0]) (by simp [results, Tryd.results24, go_sem, cr0, cr1]; rfl) rfl ?_
  exact ⟨zG HGR.out hg5 (fun q e => by have : w.heap.size = q := Option.some.inj e; omega), .inr ⟨HZ.out, sa4, sc4, rfl, yJ (yB HO4.out hg5 (fun q e => by have : w.heap.size = q := Option.some.inj e; omega)) (by omega)⟩⟩
 ·obtain ⟨E, hE⟩ : ∃ E, E = wI t im := ⟨_, rfl⟩
  rw [← hE] at hz ⊢
  have HE := Kh hE
  have cr0 := zJ HR1.out 0 (by simp)
  have cr1 := zJ HR1.out 1 (by simp)
  have fr0 := zD HR1.out 0
  have fr1 := zD HR1.out 1
  simp only [List.getElem_toArray, List.getElem_cons_zero, List.getElem_cons_succ] at cr0 cr1
  have e1 : (E != 0) = true := by rw [bne_iff_ne]; exact hz
  clear hE
  go_wp2
  have hg5 : w1.grownBy ((w1.setCell ⟨w.heap.size, 0, none⟩ (.slice none 0 0)).setCell ⟨w.heap.size, 1, none⟩ (.bool false)) (some w.heap.size) :=
   zF (zH w1 ⟨w.heap.size, 0, none⟩ _) (zH (w1.setCell ⟨w.heap.size, 0, none⟩ (.slice none 0 0)) ⟨w.heap.size, 1, none⟩ _)
  refine bodyPost_ret (v := .tuple #[.agg #[.slice none 0 0, .bool false], .int .i64 E]) (by simp [results, Tryd.results24, go_sem, cr0, cr1]) rfl ?_
  exact ⟨zG (zF HGA.out HG1.out) hg5 (fun q e => by have : w.heap.size = q := Option.some.inj e; omega), .inl ⟨by rw [← HE.out]; exact hz, by rw [← HE.out]⟩⟩
noncomputable def uD (t : List (List Int)) (im : List Int) : List Nat := vC t.length (entN t) (tL t im)
def ClosureOk (w : World) (t : List (List Int)) (im : List Int) (e : Ending) (w' : World) : Prop :=
 w.grownBy w' none ∧ ((wI t im ≠ 0 ∧ e = .returned (.tuple #[.slice none 0 0, .int .i64 (wI t im)])) ∨
  (wI t im = 0 ∧ ∃ v, e = .returned (.tuple #[v, .int .i64 0]) ∧ Row w'.heap.size w' v (nats (uD t im))))
theorem start_ok {t : List (List Int)} {im : List Int} (h : Good t im) : FamOk t.length (tL t im, false) := ⟨fun _ hb => maxOf_lt hb, maxOf_max (genL_lt h)⟩
theorem start_pos {t : List (List Int)} {im : List Int} (h : Good t im) : 0 < (tL t im).length := by
 obtain ⟨b, hb, _⟩ := exists_max (genL_lt h) _ (2 ^ (vJ t).toNat) (Nat.le_refl _) (by simp [genL])
 exact List.length_pos_of_mem hb
def Going (n : Nat) (tb : Nat → Nat → Nat) (l0 l : List Nat) (d : Bool) : Prop := FamOk n (l, d) ∧ ∃ k, yY n tb k (l0, false) = (l, d)
theorem Going.step {n : Nat} {tb : Nat → Nat → Nat} {l0 l : List Nat} (ht : Tb n tb) (h : Going n tb l0 l false) : Going n tb l0 (zY n tb l) (decide (zY n tb l = l)) := by
 obtain ⟨hf, k, hk⟩ := h
 refine ⟨famOk_round ht hf, k + 1, ?_⟩
 rw [roundsGo_add, hk, vY]; rfl
theorem Going.stop {n : Nat} {tb : Nat → Nat → Nat} {l0 l : List Nat} (ht : Tb n tb) (h0 : FamOk n (l0, false)) (h : Going n tb l0 l true) : l = vC n tb l0 := by
 obtain ⟨_, k, hk⟩ := h
 have := roundsGo_stop ht h0 (k := k) (by rw [hk])
 rw [hk] at this
 exact this
def togo (n : Nat) (l : List Nat) (d : Bool) : Nat := if d then 0 else gap n l + 1
theorem Going.less {n : Nat} {tb : Nat → Nat → Nat} {l0 l : List Nat} (ht : Tb n tb) (h : Going n tb l0 l false) : togo n (zY n tb l) (decide (zY n tb l = l)) < togo n l false := by
 unfold togo
 by_cases e : zY n tb l = l
 ·simp [e]
 ·have := gap_round ht h.1.1 h.1.2 e
  simp [e, this]
theorem Going.le {n : Nat} {tb : Nat → Nat → Nat} {l0 l : List Nat} {d : Bool} (h : Going n tb l0 l d) : l.length ≤ 2 ^ n := by
 have := maxOf_le n l
 rw [h.1.2] at this
 exact this
structure Held (F C bx : Nat) (w : World) (k sc : Nat) (l : List Nat) : Prop where
 row : RowAt w k 0 (nats l)
 le : l.length ≤ sc
 mx : sc ≤ maxLen
 out : k < F ∨ C ≤ k
 nb : k ≠ bx
theorem Held.rowO {F C bx k sc : Nat} {w : World} {l : List Nat} (h : Held F C bx w k sc l) : RowO F C w.heap.size w (.slice (some ⟨k, 0, none⟩) l.length sc) (nats l) :=
 .inr ⟨k, 0, sc, by rw [zL], h.out, h.row.1, by rw [zL]; exact h.le, h.mx, h.row⟩
theorem Held.kept {F C bx k sc : Nat} {w w' : World} {l : List Nat} {row : Option Nat} (h : Held F C bx w k sc l) (hg : w.grownBy w' row) (hr : row ≠ some k) : Held F C bx w' k sc l :=
 ⟨h.row.kept hg hr, h.le, h.mx, h.out, h.nb⟩
theorem Held.of_owns {F C bx base k sc : Nat} {w : World} {l : List Nat} (h : w.ownsRow base 3 1 (.slice (some ⟨k, 0, none⟩) l.length sc) l.length (nats l)) (h0 : 0 < l.length) (ho : k < F ∨ C ≤ k) (hn : k ≠ bx) : Held F C bx w k sc l := by
 obtain ⟨kb, e, h1, h2, h3⟩ := yT h h0
 simp only [Option.some.injEq, Addr.mk.injEq, and_true] at e
 subst e
 exact ⟨h3.row, h1, h2, ho, hn⟩
theorem take_succ_getD {xs : List Int} {k : Nat} (h : k < xs.length) : xs.take (k + 1) = xs.take k ++ [xs.getD k 0] := by
 rw [List.take_add_one]; simp [List.getD, h]
set_option maxHeartbeats 400000 in
theorem same03_any (B C : Nat) (w : World) (va vb : Value) (xs ys : List Int) (ha : Row B w va (ints xs)) (hb : Row C w vb (ints ys)) :
  Calls Tryd.prog 30 #[va, vb] w fun e w' => e = .returned (.bool (decide (xs = ys))) ∧ ∃ m, w' = w.drewN m := by
 have hxl := ha.len_le
 rw [zU] at hxl
 unfold maxLen at hxl
 have hyl := hb.len_le
 rw [zU] at hyl
 unfold maxLen at hyl
 obtain ⟨aa, ac, rfl⟩ := ha.shape
 obtain ⟨ba, bc, rfl⟩ := hb.shape
 rw [zU] at ha hb ⊢
 rw [zU]
 by_cases hl : xs.length = ys.length
 ·by_cases h0 : xs.length = 0
  ·have hx : xs = [] := List.eq_nil_of_length_eq_zero h0
   have hy : ys = [] := List.eq_nil_of_length_eq_zero (by omega)
   subst hx; subst hy
   clear ha hb
   go_enter Tryd.func30, Tryd.ntmps30
   go_wp2
   go_loopg [13] 0 (fun g i wr => i = .int .i64 0 ∧ wr = w)
   case atStart => exact ⟨rfl, rfl⟩
   case round =>
    obtain ⟨rfl, rfl⟩ := hrel
    go_wp2
    go_ret
    exact ⟨vH rfl, 0, rfl⟩
  ·obtain ⟨ab, ao, ac', e, _, _, _, hra⟩ := ha.some_ (by rw [zU]; omega)
   simp only [Value.slice.injEq] at e
   obtain ⟨rfl, -, -⟩ := e
   obtain ⟨bb, bo, bc', e, _, _, _, hrb⟩ := hb.some_ (by rw [zU]; omega)
   simp only [Value.slice.injEq] at e
   obtain ⟨rfl, -, -⟩ := e
   have RA := Kh hra; have RB := Kh hrb; have HL := Kh hl
   clear ha hb hra hrb
   rw [← hl]
   clear hl
   go_enter Tryd.func30, Tryd.ntmps30
   go_wp2
   go_loopg [13] xs.length (fun g i wr => ∃ k : Nat, g + k = xs.length ∧ i = .int .i64 k ∧ xs.take k = ys.take k ∧ ∃ m, wr = w.drewN m)
   case atStart => exact ⟨0, rfl, rfl, rfl, 0, rfl⟩
   case round =>
    obtain ⟨k, hg, rfl, hok, m, rfl⟩ := hrel
    have HG := Kh hg; have OK := Kh hok; clear hg hok
    by_cases hk : k < xs.length
    ·have hk' : (k : Int) < xs.length := by omega
     have ca := RA.out.int k hk
     have cb := RB.out.int k (by have := HL.out; omega)
     obtain ⟨z, hz⟩ : ∃ z, z = xs.getD k 0 := ⟨_, rfl⟩
     obtain ⟨u, hu⟩ : ∃ u, u = ys.getD k 0 := ⟨_, rfl⟩
     rw [← hz] at ca
     rw [← hu] at cb
     have HZ := Kh hz; have HU := Kh hu; clear hz hu
     by_cases hzu : z = u
     ·have HN : Hid (xs.take (k + 1) = ys.take (k + 1)) := Kh (by rw [take_succ_getD hk, take_succ_getD (by have := HL.out; omega), OK.out, ← HZ.out, ← HU.out, hzu])
      subst hzu
      go_wp2
      go_quiet (fail)
      go_wp2
      go_roundg (xs.length - (k + 1))
      case measure => have := HG.out; omega
      case rel => exact ⟨k + 1, by omega, by go_num, HN.out, _, rfl⟩
     ·have e1 : (z != u) = true := by rw [bne_iff_ne]; exact hzu
      have HN : Hid (decide (xs = ys) = false) := Kh (by rw [decide_eq_false_iff_not]; rintro rfl; exact hzu (by rw [HZ.out, HU.out]))
      go_wp2
      go_quiet (fail)
      go_wp2
      go_ret
      exact ⟨vH HN.out.symm, _, by rw [World.drewN_drewN]⟩
    ·have HY : Hid (decide (xs = ys) = true) := by
      have hkz : k = xs.length := by have := HG.out; omega
      have := OK.out
      rw [List.take_of_length_le (by omega), List.take_of_length_le (by have := HL.out; omega)] at this
      exact Kh (by rw [decide_eq_true_eq]; exact this)
     go_wp2
     go_ret
     exact ⟨vH HY.out.symm, m, rfl⟩
 ·have e1 : ((xs.length : Int) != (ys.length : Int)) = true := by rw [bne_iff_ne]; omega
  have HN : Hid (decide (xs = ys) = false) := Kh (by rw [decide_eq_false_iff_not]; rintro rfl; exact hl rfl)
  clear ha hb
  go_enter Tryd.func30, Tryd.ntmps30
  go_wp2
  go_ret
  exact ⟨vH HN.out.symm, 0, rfl⟩
end Go.Proofs.YtdjhoadoiknaoaaDoor
namespace Go.Proofs.YtdjhoadoiknaoaaDoor
open Go.RowKit Go.Maps
theorem key_int : Keyed Tryd.prog 3 := int_keyed (q := .i64) (by kernel_rfl)
end Go.Proofs.YtdjhoadoiknaoaaDoor
namespace Go.Proofs.YtdjhoadoiknaoaaDoor
def uF {α : Type} [DecidableEq α] (acc : List α) (x : α) : List α := if x ∈ acc then acc else acc ++ [x]
def yF {α : Type} [DecidableEq α] (l : List α) : List α := l.foldl uF []
section
variable {α : Type} [DecidableEq α]
theorem tQ {acc : List α} {x : α} (h : x ∈ acc) : uF acc x = acc := if_pos h
theorem tR {acc : List α} {x : α} (h : x ∉ acc) : uF acc x = acc ++ [x] := if_neg h
theorem mem_addNew {acc : List α} {x y : α} : y ∈ uF acc x ↔ y ∈ acc ∨ y = x := by
 unfold uF
 split
 ·rename_i h
  exact ⟨.inl, fun h' => by rcases h' with h' | rfl <;> assumption⟩
 ·simp
theorem tZ (l : List α) (x : α) : yF (l ++ [x]) = uF (yF l) x := by simp [yF, List.foldl_append]
theorem mem_foldl_addNew (l : List α) : ∀ (acc : List α) (y : α), y ∈ l.foldl uF acc ↔ y ∈ acc ∨ y ∈ l := by
 induction l with
 | nil => intro acc y; simp
 | cons a l ih => intro acc y; rw [List.foldl_cons, ih, mem_addNew, List.mem_cons]; exact or_assoc
theorem xZ {l : List α} {y : α} : y ∈ yF l ↔ y ∈ l := by rw [yF, mem_foldl_addNew]; simp
theorem addNew_nodup {acc : List α} {x : α} (h : acc.Nodup) : (uF acc x).Nodup := by
 unfold uF
 split
 ·exact h
 ·rename_i hx
  rw [List.nodup_append]
  exact ⟨h, by simp, fun a ha b hb => by rw [List.mem_singleton] at hb; subst hb; rintro rfl; exact hx ha⟩
theorem foldl_addNew_nodup (l : List α) : ∀ {acc : List α}, acc.Nodup → (l.foldl uF acc).Nodup := by
 induction l with
 | nil => intro acc h; exact h
 | cons a l ih => intro acc h; exact ih (addNew_nodup h)
theorem sM (l : List α) : (yF l).Nodup := foldl_addNew_nodup l (by simp)
theorem addNew_prefix (acc : List α) (x : α) : acc <+: uF acc x := by
 unfold uF; split
 ·exact List.prefix_refl _
 ·exact List.prefix_append _ _
theorem foldl_addNew_prefix (l : List α) : ∀ (acc : List α), acc <+: l.foldl uF acc := by
 induction l with
 | nil => intro acc; exact List.prefix_refl _
 | cons a l ih => intro acc; exact (addNew_prefix acc a).trans (ih _)
theorem firsts_take_prefix (l : List α) (k : Nat) : yF (l.take k) <+: yF l := by
 conv => rhs; rw [← List.take_append_drop k l]
 rw [yF, yF, List.foldl_append]
 exact foldl_addNew_prefix _ _
theorem tK (l : List α) : (yF l).length ≤ l.length := by
 have key : ∀ (l acc : List α), (l.foldl uF acc).length ≤ acc.length + l.length := by
  intro l
  induction l with
  | nil => intro acc; simp
  | cons a l ih =>
   intro acc
   rw [List.foldl_cons]
   have h1 := ih (uF acc a)
   have h2 : (uF acc a).length ≤ acc.length + 1 := by unfold uF; split <;> simp
   rw [List.length_cons]; omega
 simpa [yF] using key l []
theorem idxOf_prefix {l m : List α} {x : α} (h : l <+: m) (hx : x ∈ l) : m.idxOf x = l.idxOf x := by
 obtain ⟨r, rfl⟩ := h
 rw [List.idxOf_append, if_pos hx]
theorem idxOf_inj {l : List α} {x y : α} (hx : x ∈ l) (h : l.idxOf x = l.idxOf y) : x = y := by
 have h1 := List.idxOf_lt_length_of_mem hx
 have e1 := List.getElem_idxOf h1
 have e2 := List.getElem_idxOf (show l.idxOf y < l.length by omega)
 rw [← e1, ← e2]; simp only [h]
def numb (l : List α) : List Nat := l.map fun x => (yF l).idxOf x
theorem xH (l : List α) : (numb l).length = l.length := by simp [numb]
theorem numb_get {l : List α} {i : Nat} (h : i < l.length) : (numb l)[i]'(by rw [xH]; exact h) = (yF l).idxOf l[i] := by simp [numb]
theorem numb_lt {l : List α} : ∀ c ∈ numb l, c < (yF l).length := by
 intro c hc
 obtain ⟨x, hx, rfl⟩ := List.mem_map.1 hc
 exact List.idxOf_lt_length_of_mem (xZ.2 hx)
theorem numb_eq_iff {l : List α} {i j : Nat} (hi : i < l.length) (hj : j < l.length) : (numb l).getD i 0 = (numb l).getD j 0 ↔ l[i] = l[j] := by
 simp only [List.getD, List.getElem?_eq_getElem (show i < (numb l).length by rw [xH]; exact hi), List.getElem?_eq_getElem (show j < (numb l).length by rw [xH]; exact hj), Option.getD_some, numb_get hi, numb_get hj]
 exact ⟨fun h => idxOf_inj (xZ.2 (List.getElem_mem hi)) h, fun h => by rw [h]⟩
theorem numb_take {l : List α} {k : Nat} (hk : k < l.length) : (yF (l.take (k + 1))).idxOf l[k] = (yF l).idxOf l[k] := by
 refine (idxOf_prefix (firsts_take_prefix l (k + 1)) (xZ.2 ?_)).symm
 rw [List.take_succ_eq_append_getElem hk]; exact List.mem_append_right _ (List.mem_singleton_self _)
end
def SameKer (p q : List Nat) : Prop := p.length = q.length ∧ ∀ i j, i < p.length → j < p.length → (p.getD i 0 = p.getD j 0 ↔ q.getD i 0 = q.getD j 0)
def Norm (p : List Nat) : Prop := numb p = p
theorem zN {α : Type} {l : List α} {i : Nat} {d : α} (h : i < l.length) : l.getD i d = l[i] := by simp [List.getD, List.getElem?_eq_getElem h]
theorem numb_congr {α β : Type} [DecidableEq α] [DecidableEq β] : ∀ (l : List α) (m : List β) (he : l.length = m.length), (∀ i j (hi : i < l.length) (hj : j < l.length), (l[i] = l[j] ↔ m[i]'(by omega) = m[j]'(by omega))) → numb l = numb m := by
 intro l m he h
 -- positions of first occurrences
 have key : ∀ (k : Nat) (hk : k ≤ l.length), ∃ ps : List (Fin l.length), yF (l.take k) = ps.map (fun i => l[i]) ∧ yF (m.take k) = ps.map (fun i => m[i.1]'(by omega)) := by
  intro k
  induction k with
  | zero => intro _; exact ⟨[], by simp [yF], by simp [yF]⟩
  | succ k ih =>
   intro hk
   obtain ⟨ps, h1, h2⟩ := ih (by omega)
   have hkl : k < l.length := by omega
   rw [List.take_succ_eq_append_getElem hkl, List.take_succ_eq_append_getElem (show k < m.length by omega), tZ, tZ, h1, h2]
   have hmem : (l[k] ∈ ps.map (fun i => l[i])) ↔ (m[k]'(by omega) ∈ ps.map (fun i => m[i.1]'(by omega))) := by
    simp only [List.mem_map]
    constructor
    ·rintro ⟨i, hi, e⟩; exact ⟨i, hi, (h i.1 k i.2 hkl).1 e⟩
    ·rintro ⟨i, hi, e⟩; exact ⟨i, hi, (h i.1 k i.2 hkl).2 e⟩
   by_cases hm : l[k] ∈ ps.map (fun i => l[i])
   ·exact ⟨ps, tQ hm, tQ (hmem.1 hm)⟩
   ·refine ⟨ps ++ [⟨k, hkl⟩], ?_, ?_⟩
    ·rw [tR hm]; simp
    ·rw [tR (fun h' => hm (hmem.2 h'))]; simp
 obtain ⟨ps, h1, h2⟩ := key l.length (Nat.le_refl _)
 rw [List.take_length] at h1
 rw [show m.take l.length = m from List.take_of_length_le (by omega)] at h2
 refine List.ext_getElem (by simp [numb, he]) fun i hi _ => ?_
 rw [xH] at hi
 rw [numb_get hi, numb_get (by omega), h1, h2]
 have aux : ∀ (qs : List (Fin l.length)), (qs.map (fun i => l[i])).idxOf l[i] = (qs.map (fun i => m[i.1]'(by omega))).idxOf (m[i]'(by omega)) := by
  intro qs
  induction qs with
  | nil => simp
  | cons a qs ih =>
   rw [List.map_cons, List.map_cons, List.idxOf_cons, List.idxOf_cons, ih]
   have := h a.1 i a.2 hi
   by_cases e : l[a] = l[i]
   ·have e' := this.1 e
    simp only [beq_iff_eq.2 e, beq_iff_eq.2 e']
   ·have e' : ¬ (m[a.1]'(by omega) = m[i]'(by omega)) := fun h' => e (this.2 h')
    simp only [beq_eq_false_iff_ne.2 e, beq_eq_false_iff_ne.2 e']
 exact aux ps
theorem numb_norm {α : Type} [DecidableEq α] (l : List α) : Norm (numb l) := by
 refine numb_congr _ _ (xH l) fun i j hi hj => ?_
 rw [xH] at hi hj
 have := numb_eq_iff (l := l) hi hj
 rw [zN (by rw [xH]; exact hi), zN (by rw [xH]; exact hj)] at this
 exact this
theorem norm_ext {p q : List Nat} (hp : Norm p) (hq : Norm q) (h : SameKer p q) : p = q := by
 rw [← hp, ← hq]
 refine numb_congr _ _ h.1 fun i j hi hj => ?_
 have := h.2 i j hi hj
 rw [zN hi, zN hj, zN (by rw [← h.1]; exact hi), zN (by rw [← h.1]; exact hj)] at this
 exact this
end Go.Proofs.YtdjhoadoiknaoaaDoor
