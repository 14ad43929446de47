/- Part 12 of the proof: Going, FamB, Sames, MapIn, Numb. -/
import Derived.Test.YtdjhoadoiknaoaaDoorZp11
import Derived.Maps.Own
import Derived.Maps.Views
set_option linter.unusedVariables false
set_option linter.unusedSimpArgs false
namespace Go.Proofs.YtdjhoadoiknaoaaDoor
open Go.RowKit
noncomputable def closeL (t : List (List Int)) (im : List Int) : List Nat := sB t.length (entN t) (tI t im)
def ClosureOk (w : World) (t : List (List Int)) (im : List Int) (e : Ending) (w' : World) : Prop :=
 w.grownBy w' none ∧ ((xD t im ≠ 0 ∧ e = .returned (.tuple #[.slice none 0 0, .int .i64 (xD t im)])) ∨
  (xD t im = 0 ∧ ∃ v, e = .returned (.tuple #[v, .int .i64 0]) ∧ Row w'.heap.size w' v (nats (closeL t im))))
theorem start_ok {t : List (List Int)} {im : List Int} (h : Good t im) : FamOk t.length (tI t im, false) := ⟨fun _ hb => maxOf_lt hb, maxOf_max (genL_lt h)⟩
theorem start_pos {t : List (List Int)} {im : List Int} (h : Good t im) : 0 < (tI t im).length := by
 obtain ⟨b, hb, _⟩ := exists_max (genL_lt h) _ (2 ^ (wR t).toNat) (Nat.le_refl _) (by simp [genL])
 exact List.length_pos_of_mem hb
def Going (n : Nat) (tb : Nat → Nat → Nat) (l0 l : List Nat) (d : Bool) : Prop := FamOk n (l, d) ∧ ∃ k, yN n tb k (l0, false) = (l, d)
theorem Going.step {n : Nat} {tb : Nat → Nat → Nat} {l0 l : List Nat} (ht : Tb n tb) (h : Going n tb l0 l false) : Going n tb l0 (zZ n tb l) (decide (zZ n tb l = l)) := by
 obtain ⟨hf, k, hk⟩ := h
 refine ⟨famOk_round ht hf, k + 1, ?_⟩
 rw [uY, hk, vJ]; rfl
theorem Going.stop {n : Nat} {tb : Nat → Nat → Nat} {l0 l : List Nat} (ht : Tb n tb) (h0 : FamOk n (l0, false)) (h : Going n tb l0 l true) : l = sB n tb l0 := by
 obtain ⟨_, k, hk⟩ := h
 have := roundsGo_stop ht h0 (k := k) (by rw [hk])
 rw [hk] at this
 exact this
def togo (n : Nat) (l : List Nat) (d : Bool) : Nat := if d then 0 else gap n l + 1
theorem Going.less {n : Nat} {tb : Nat → Nat → Nat} {l0 l : List Nat} (ht : Tb n tb) (h : Going n tb l0 l false) : togo n (zZ n tb l) (decide (zZ n tb l = l)) < togo n l false := by
 unfold togo
 by_cases e : zZ n tb l = l
 ·simp [e]
 ·have := gap_round ht h.1.1 h.1.2 e
  simp [e, this]
theorem Going.le {n : Nat} {tb : Nat → Nat → Nat} {l0 l : List Nat} {d : Bool} (h : Going n tb l0 l d) : l.length ≤ 2 ^ n := by
 have := maxOf_le n l
 rw [h.1.2] at this
 exact this
structure Held (F C bx : Nat) (w : World) (k sc : Nat) (l : List Nat) : Prop where
 row : RowAt w k 0 (nats l)
 le : l.length ≤ sc
 mx : sc ≤ maxLen
 out : k < F ∨ C ≤ k
 nb : k ≠ bx
theorem Held.rowO {F C bx k sc : Nat} {w : World} {l : List Nat} (h : Held F C bx w k sc l) : RowO F C w.heap.size w (.slice (some ⟨k, 0, none⟩) l.length sc) (nats l) :=
 .inr ⟨k, 0, sc, by rw [zL], h.out, h.row.1, by rw [zL]; exact h.le, h.mx, h.row⟩
theorem Held.kept {F C bx k sc : Nat} {w w' : World} {l : List Nat} {row : Option Nat} (h : Held F C bx w k sc l) (hg : w.grownBy w' row) (hr : row ≠ some k) : Held F C bx w' k sc l :=
 ⟨h.row.kept hg hr, h.le, h.mx, h.out, h.nb⟩
theorem Held.of_owns {F C bx base k sc : Nat} {w : World} {l : List Nat} (h : w.ownsRow base 3 1 (.slice (some ⟨k, 0, none⟩) l.length sc) l.length (nats l)) (h0 : 0 < l.length) (ho : k < F ∨ C ≤ k) (hn : k ≠ bx) : Held F C bx w k sc l := by
 obtain ⟨kb, e, h1, h2, h3⟩ := yK h h0
 simp only [Option.some.injEq, Addr.mk.injEq, and_true] at e
 subst e
 exact ⟨h3.row, h1, h2, ho, hn⟩
def famAt (n : Nat) (zs : List Int) (i : Nat) : Bool := decide (zs.getD i 0 ≠ 0) && setB n (zs.getD i 0) && decide (i = 0 ∨ zs.getD (i - 1) 0 < zs.getD i 0)
theorem famAt_is {n : Nat} {zs : List Int} {i : Nat} {z u : Int} (hz : z = zs.getD i 0) (hu : u = zs.getD (i - 1) 0) : famAt n zs i = (decide (z ≠ 0) && setB n z && decide (i = 0 ∨ u < z)) := by subst hz; subst hu; rfl
def famTo (n : Nat) (zs : List Int) (k : Nat) : Bool := (List.range k).all (famAt n zs)
theorem famTo_succ (n : Nat) (zs : List Int) (k : Nat) : famTo n zs (k + 1) = (famTo n zs k && famAt n zs k) := by simp [famTo, List.range_succ]
theorem famTo_at {n : Nat} {zs : List Int} {k i : Nat} (h : famTo n zs k = true) (hi : i < k) : famAt n zs i = true := by
 simp only [famTo, List.all_eq_true] at h
 exact h i (List.mem_range.2 hi)
theorem famTo_no {n : Nat} {zs : List Int} {k i : Nat} (h : famAt n zs i = false) (hi : i < k) : famTo n zs k = false := by
 cases e : famTo n zs k with
 | false => rfl
 | true => rw [famTo_at e hi] at h; exact absurd h (by simp)
def natL (zs : List Int) : List Nat := zs.map Int.toNat
theorem natL_length (zs : List Int) : (natL zs).length = zs.length := by simp [natL]
theorem natL_getD (zs : List Int) (i : Nat) : (natL zs).getD i 0 = (zs.getD i 0).toNat := by
 simp only [natL, List.getD, List.getElem?_map]
 cases zs[i]? <;> rfl
theorem ints_natL {n : Nat} {zs : List Int} (h : famTo n zs zs.length = true) : ints zs = nats (natL zs) := by
 unfold ints nats natL
 rw [List.map_map]
 refine List.map_congr_left fun z hz => ?_
 obtain ⟨i, hi, rfl⟩ := List.getElem_of_mem hz
 have := famTo_at h hi
 simp only [famAt, setB, List.getD, List.getElem?_eq_getElem hi, Option.getD_some, Bool.and_eq_true, decide_eq_true_eq] at this
 simp only [Function.comp]
 congr 1
 omega
theorem natL_lt {n : Nat} {zs : List Int} (h : famTo n zs zs.length = true) : ∀ b ∈ natL zs, b < 2 ^ n := by
 intro b hb
 obtain ⟨z, hz, rfl⟩ := List.mem_map.1 hb
 obtain ⟨i, hi, rfl⟩ := List.getElem_of_mem hz
 have := famTo_at h hi
 simp only [famAt, setB, List.getD, List.getElem?_eq_getElem hi, Option.getD_some, Bool.and_eq_true, decide_eq_true_eq] at this
 omega
theorem natL_sorted {n : Nat} {zs : List Int} (h : famTo n zs zs.length = true) : (natL zs).Pairwise (· < ·) := by
 have step : ∀ i, i + 1 < zs.length → (natL zs).getD i 0 < (natL zs).getD (i + 1) 0 := by
  intro i hi
  rw [natL_getD, natL_getD]
  have h1 := famTo_at h hi
  have h2 := famTo_at h (i := i) (by omega)
  simp only [famAt, setB, Bool.and_eq_true, decide_eq_true_eq] at h1 h2
  have := h1.2
  simp only [Nat.add_sub_cancel] at this
  omega
 rw [List.pairwise_iff_getElem]
 have key : ∀ d i, i + d + 1 < zs.length → (natL zs).getD i 0 < (natL zs).getD (i + d + 1) 0 := by
  intro d
  induction d with
  | zero => intro i hi; exact step i hi
  | succ d ih => intro i hi; exact Nat.lt_trans (ih i (by omega)) (step (i + d + 1) (by omega))
 intro i j hi hj hij
 have := key (j - i - 1) i (by rw [natL_length] at hj; omega)
 rw [show i + (j - i - 1) + 1 = j from by omega] at this
 simpa [List.getD, List.getElem?_eq_getElem hi, List.getElem?_eq_getElem hj] using this
def famB (n : Nat) (zs : List Int) : Bool := decide (0 < zs.length) && famTo n zs zs.length && decide ((maxOf n (natL zs)).length = zs.length)
theorem sub_list : ∀ {m l : List Nat}, l.Pairwise (· < ·) → m.Pairwise (· < ·) → (∀ a ∈ l, a ∈ m) → l.Sublist m
 | [], l, _, _, hs => by
  cases l with
  | nil => exact List.Sublist.refl _
  | cons a l => exact absurd (hs a (by simp)) (by simp)
 | b :: m, [], _, _, _ => List.nil_sublist _
 | b :: m, a :: l, hl, hm, hs => by
  have hm' := List.pairwise_cons.1 hm
  have hl' := List.pairwise_cons.1 hl
  by_cases e : a = b
  ·subst e
   refine (sub_list hl'.2 hm'.2 fun x hx => ?_).cons_cons a
   rcases List.mem_cons.1 (hs x (List.mem_cons_of_mem _ hx)) with rfl | h
   ·exact absurd (hl'.1 x hx) (Nat.lt_irrefl _)
   ·exact h
  ·have ha : a ∈ m := by
    rcases List.mem_cons.1 (hs a (by simp)) with h | h
    ·exact absurd h e
    ·exact h
   have hab := hm'.1 a ha
   refine (sub_list hl hm'.2 fun x hx => ?_).cons b
   rcases List.mem_cons.1 (hs x hx) with rfl | h
   ·rcases List.mem_cons.1 hx with rfl | hx
    ·exact absurd rfl e
    ·have := hl'.1 x hx; omega
   ·exact h
theorem sub_eq {l m : List Nat} (hl : l.Pairwise (· < ·)) (hm : m.Pairwise (· < ·)) (hs : ∀ a ∈ l, a ∈ m) (hlen : l.length = m.length) : l = m := (sub_list hl hm hs).eq_of_length hlen
theorem famB_max {n : Nat} {zs : List Int} (h : famB n zs = true) : FamOk n (natL zs, false) ∧ 0 < (natL zs).length ∧ ints zs = nats (natL zs) := by
 simp only [famB, Bool.and_eq_true, decide_eq_true_eq] at h
 obtain ⟨⟨h1, h2⟩, h3⟩ := h
 refine ⟨⟨natL_lt h2, ?_⟩, by rw [natL_length]; exact h1, ints_natL h2⟩
 exact sub_eq (maxOf_sorted _ _) (natL_sorted h2) (fun a ha => maxOf_sub (natL_lt h2) ha) (by rw [h3, natL_length])
theorem famB_eq {n : Nat} {zs : List Int} (h0 : 0 < zs.length) (h : famTo n zs zs.length = true) : famB n zs = decide ((maxOf n (natL zs)).length = zs.length) := by
 simp [famB, h0, h]
theorem famB_no {n : Nat} {zs : List Int} (h : famTo n zs zs.length = false) : famB n zs = false := by simp [famB, h]
theorem famB_nil {n : Nat} {zs : List Int} (h : zs.length = 0) : famB n zs = false := by simp [famB, h]
theorem take_succ_getD {xs : List Int} {k : Nat} (h : k < xs.length) : xs.take (k + 1) = xs.take k ++ [xs.getD k 0] := by
 rw [List.take_add_one]; simp [List.getD, h]
set_option maxHeartbeats 400000 in
theorem rB (B C : Nat) (w : World) (va vb : Value) (xs ys : List Int) (ha : Row B w va (ints xs)) (hb : Row C w vb (ints ys)) :
  Calls Tryd.prog 30 #[va, vb] w fun e w' => e = .returned (.bool (decide (xs = ys))) ∧ ∃ m, w' = w.drewN m := by
 have hxl := ha.len_le
 rw [zP] at hxl
 unfold maxLen at hxl
 have hyl := hb.len_le
 rw [zP] at hyl
 unfold maxLen at hyl
 obtain ⟨aa, ac, rfl⟩ := ha.shape
 obtain ⟨ba, bc, rfl⟩ := hb.shape
 rw [zP] at ha hb ⊢
 rw [zP]
 by_cases hl : xs.length = ys.length
 ·by_cases h0 : xs.length = 0
  ·have hx : xs = [] := List.eq_nil_of_length_eq_zero h0
   have hy : ys = [] := List.eq_nil_of_length_eq_zero (by omega)
   subst hx; subst hy
   clear ha hb
   go_enter Tryd.func30, Tryd.ntmps30
   go_wp2
   go_loopg [13] 0 (fun g i wr => i = .int .i64 0 ∧ wr = w)
   case atStart => exact ⟨rfl, rfl⟩
   case round =>
    obtain ⟨rfl, rfl⟩ := hrel
    go_wp2
    go_ret
    exact ⟨xK rfl, 0, rfl⟩
  ·obtain ⟨ab, ao, ac', e, _, _, _, hra⟩ := ha.some_ (by rw [zP]; omega)
   simp only [Value.slice.injEq] at e
   obtain ⟨rfl, -, -⟩ := e
   obtain ⟨bb, bo, bc', e, _, _, _, hrb⟩ := hb.some_ (by rw [zP]; omega)
   simp only [Value.slice.injEq] at e
   obtain ⟨rfl, -, -⟩ := e
   have RA := Kh hra; have RB := Kh hrb; have HL := Kh hl
   clear ha hb hra hrb
   rw [← hl]
   clear hl
   go_enter Tryd.func30, Tryd.ntmps30
   go_wp2
   go_loopg [13] xs.length (fun g i wr => ∃ k : Nat, g + k = xs.length ∧ i = .int .i64 k ∧ xs.take k = ys.take k ∧ ∃ m, wr = w.drewN m)
   case atStart => exact ⟨0, rfl, rfl, rfl, 0, rfl⟩
   case round =>
    obtain ⟨k, hg, rfl, hok, m, rfl⟩ := hrel
    have HG := Kh hg; have OK := Kh hok; clear hg hok
    by_cases hk : k < xs.length
    ·have hk' : (k : Int) < xs.length := by omega
     have ca := RA.out.int k hk
     have cb := RB.out.int k (by have := HL.out; omega)
     obtain ⟨z, hz⟩ : ∃ z, z = xs.getD k 0 := ⟨_, rfl⟩
     obtain ⟨u, hu⟩ : ∃ u, u = ys.getD k 0 := ⟨_, rfl⟩
     rw [← hz] at ca
     rw [← hu] at cb
     have HZ := Kh hz; have HU := Kh hu; clear hz hu
     by_cases hzu : z = u
     ·have HN : Hid (xs.take (k + 1) = ys.take (k + 1)) := Kh (by rw [take_succ_getD hk, take_succ_getD (by have := HL.out; omega), OK.out, ← HZ.out, ← HU.out, hzu])
      subst hzu
      go_wp2
      go_quiet (fail)
      go_wp2
      go_roundg (xs.length - (k + 1))
      case measure => have := HG.out; omega
      case rel => exact ⟨k + 1, by omega, by go_num, HN.out, _, rfl⟩
     ·have e1 : (z != u) = true := by rw [bne_iff_ne]; exact hzu
      have HN : Hid (decide (xs = ys) = false) := Kh (by rw [decide_eq_false_iff_not]; rintro rfl; exact hzu (by rw [HZ.out, HU.out]))
      go_wp2
      go_quiet (fail)
      go_wp2
      go_ret
      exact ⟨xK HN.out.symm, _, by rw [World.drewN_drewN]⟩
    ·have HY : Hid (decide (xs = ys) = true) := by
      have hkz : k = xs.length := by have := HG.out; omega
      have := OK.out
      rw [List.take_of_length_le (by omega), List.take_of_length_le (by have := HL.out; omega)] at this
      exact Kh (by rw [decide_eq_true_eq]; exact this)
     go_wp2
     go_ret
     exact ⟨xK HY.out.symm, m, rfl⟩
 ·have e1 : ((xs.length : Int) != (ys.length : Int)) = true := by rw [bne_iff_ne]; omega
  have HN : Hid (decide (xs = ys) = false) := Kh (by rw [decide_eq_false_iff_not]; rintro rfl; exact hl rfl)
  clear ha hb
  go_enter Tryd.func30, Tryd.ntmps30
  go_wp2
  go_ret
  exact ⟨xK HN.out.symm, 0, rfl⟩
end Go.Proofs.YtdjhoadoiknaoaaDoor
namespace Go.Proofs.YtdjhoadoiknaoaaDoor
open Go.RowKit Go.Maps
theorem key_int : Keyed Tryd.prog 3 := int_keyed (q := .i64) (by kernel_rfl)
end Go.Proofs.YtdjhoadoiknaoaaDoor
namespace Go.Proofs.YtdjhoadoiknaoaaDoor
def vS {α : Type} [DecidableEq α] (acc : List α) (x : α) : List α := if x ∈ acc then acc else acc ++ [x]
def yG {α : Type} [DecidableEq α] (l : List α) : List α := l.foldl vS []
section
variable {α : Type} [DecidableEq α]
theorem tN {acc : List α} {x : α} (h : x ∈ acc) : vS acc x = acc := if_pos h
theorem tO {acc : List α} {x : α} (h : x ∉ acc) : vS acc x = acc ++ [x] := if_neg h
theorem mem_addNew {acc : List α} {x y : α} : y ∈ vS acc x ↔ y ∈ acc ∨ y = x := by
 unfold vS
 split
 ·rename_i h
  exact ⟨.inl, fun h' => by rcases h' with h' | rfl <;> assumption⟩
 ·simp
theorem tW (l : List α) (x : α) : yG (l ++ [x]) = vS (yG l) x := by simp [yG, List.foldl_append]
theorem mem_foldl_addNew (l : List α) : ∀ (acc : List α) (y : α), y ∈ l.foldl vS acc ↔ y ∈ acc ∨ y ∈ l := by
 induction l with
 | nil => intro acc y; simp
 | cons a l ih => intro acc y; rw [List.foldl_cons, ih, mem_addNew, List.mem_cons]; exact or_assoc
theorem xS {l : List α} {y : α} : y ∈ yG l ↔ y ∈ l := by rw [yG, mem_foldl_addNew]; simp
theorem addNew_nodup {acc : List α} {x : α} (h : acc.Nodup) : (vS acc x).Nodup := by
 unfold vS
 split
 ·exact h
 ·rename_i hx
  rw [List.nodup_append]
  exact ⟨h, by simp, fun a ha b hb => by rw [List.mem_singleton] at hb; subst hb; rintro rfl; exact hx ha⟩
theorem foldl_addNew_nodup (l : List α) : ∀ {acc : List α}, acc.Nodup → (l.foldl vS acc).Nodup := by
 induction l with
 | nil => intro acc h; exact h
 | cons a l ih => intro acc h; exact ih (addNew_nodup h)
theorem sN (l : List α) : (yG l).Nodup := foldl_addNew_nodup l (by simp)
theorem addNew_prefix (acc : List α) (x : α) : acc <+: vS acc x := by
 unfold vS; split
 ·exact List.prefix_refl _
 ·exact List.prefix_append _ _
theorem foldl_addNew_prefix (l : List α) : ∀ (acc : List α), acc <+: l.foldl vS acc := by
 induction l with
 | nil => intro acc; exact List.prefix_refl _
 | cons a l ih => intro acc; exact (addNew_prefix acc a).trans (ih _)
theorem firsts_take_prefix (l : List α) (k : Nat) : yG (l.take k) <+: yG l := by
 conv => rhs; rw [← List.take_append_drop k l]
 rw [yG, yG, List.foldl_append]
 exact foldl_addNew_prefix _ _
theorem tH (l : List α) : (yG l).length ≤ l.length := by
 have key : ∀ (l acc : List α), (l.foldl vS acc).length ≤ acc.length + l.length := by
  intro l
  induction l with
  | nil => intro acc; simp
  | cons a l ih =>
   intro acc
   rw [List.foldl_cons]
   have h1 := ih (vS acc a)
   have h2 : (vS acc a).length ≤ acc.length + 1 := by unfold vS; split <;> simp
   rw [List.length_cons]; omega
 simpa [yG] using key l []
theorem idxOf_prefix {l m : List α} {x : α} (h : l <+: m) (hx : x ∈ l) : m.idxOf x = l.idxOf x := by
 obtain ⟨r, rfl⟩ := h
 rw [List.idxOf_append, if_pos hx]
theorem idxOf_inj {l : List α} {x y : α} (hx : x ∈ l) (h : l.idxOf x = l.idxOf y) : x = y := by
 have h1 := List.idxOf_lt_length_of_mem hx
 have e1 := List.getElem_idxOf h1
 have e2 := List.getElem_idxOf (show l.idxOf y < l.length by omega)
 rw [← e1, ← e2]; simp only [h]
def numb (l : List α) : List Nat := l.map fun x => (yG l).idxOf x
theorem yW (l : List α) : (numb l).length = l.length := by simp [numb]
theorem numb_get {l : List α} {i : Nat} (h : i < l.length) : (numb l)[i]'(by rw [yW]; exact h) = (yG l).idxOf l[i] := by simp [numb]
theorem numb_lt {l : List α} : ∀ c ∈ numb l, c < (yG l).length := by
 intro c hc
 obtain ⟨x, hx, rfl⟩ := List.mem_map.1 hc
 exact List.idxOf_lt_length_of_mem (xS.2 hx)
theorem numb_eq_iff {l : List α} {i j : Nat} (hi : i < l.length) (hj : j < l.length) : (numb l).getD i 0 = (numb l).getD j 0 ↔ l[i] = l[j] := by
 simp only [List.getD, List.getElem?_eq_getElem (show i < (numb l).length by rw [yW]; exact hi), List.getElem?_eq_getElem (show j < (numb l).length by rw [yW]; exact hj), Option.getD_some, numb_get hi, numb_get hj]
 exact ⟨fun h => idxOf_inj (xS.2 (List.getElem_mem hi)) h, fun h => by rw [h]⟩
theorem numb_take {l : List α} {k : Nat} (hk : k < l.length) : (yG (l.take (k + 1))).idxOf l[k] = (yG l).idxOf l[k] := by
 refine (idxOf_prefix (firsts_take_prefix l (k + 1)) (xS.2 ?_)).symm
 rw [List.take_succ_eq_append_getElem hk]; exact List.mem_append_right _ (List.mem_singleton_self _)
end
def SameKer (p q : List Nat) : Prop := p.length = q.length ∧ ∀ i j, i < p.length → j < p.length → (p.getD i 0 = p.getD j 0 ↔ q.getD i 0 = q.getD j 0)
def Norm (p : List Nat) : Prop := numb p = p
theorem zT {α : Type} {l : List α} {i : Nat} {d : α} (h : i < l.length) : l.getD i d = l[i] := by simp [List.getD, List.getElem?_eq_getElem h]
theorem numb_congr {α β : Type} [DecidableEq α] [DecidableEq β] : ∀ (l : List α) (m : List β) (he : l.length = m.length), (∀ i j (hi : i < l.length) (hj : j < l.length), (l[i] = l[j] ↔ m[i]'(by omega) = m[j]'(by omega))) → numb l = numb m := by
 intro l m he h
 -- positions of first occurrences
 have key : ∀ (k : Nat) (hk : k ≤ l.length), ∃ ps : List (Fin l.length), yG (l.take k) = ps.map (fun i => l[i]) ∧ yG (m.take k) = ps.map (fun i => m[i.1]'(by omega)) := by
  intro k
  induction k with
  | zero => intro _; exact ⟨[], by simp [yG], by simp [yG]⟩
  | succ k ih =>
   intro hk
   obtain ⟨ps, h1, h2⟩ := ih (by omega)
   have hkl : k < l.length := by omega
   rw [List.take_succ_eq_append_getElem hkl, List.take_succ_eq_append_getElem (show k < m.length by omega), tW, tW, h1, h2]
   have hmem : (l[k] ∈ ps.map (fun i => l[i])) ↔ (m[k]'(by omega) ∈ ps.map (fun i => m[i.1]'(by omega))) := by
    simp only [List.mem_map]
    constructor
    ·rintro ⟨i, hi, e⟩; exact ⟨i, hi, (h i.1 k i.2 hkl).1 e⟩
    ·rintro ⟨i, hi, e⟩; exact ⟨i, hi, (h i.1 k i.2 hkl).2 e⟩
   by_cases hm : l[k] ∈ ps.map (fun i => l[i])
   ·exact ⟨ps, tN hm, tN (hmem.1 hm)⟩
   ·refine ⟨ps ++ [⟨k, hkl⟩], ?_, ?_⟩
    ·rw [tO hm]; simp
    ·rw [tO (fun h' => hm (hmem.2 h'))]; simp
 obtain ⟨ps, h1, h2⟩ := key l.length (Nat.le_refl _)
 rw [List.take_length] at h1
 rw [show m.take l.length = m from List.take_of_length_le (by omega)] at h2
 refine List.ext_getElem (by simp [numb, he]) fun i hi _ => ?_
 rw [yW] at hi
 rw [numb_get hi, numb_get (by omega), h1, h2]
 have aux : ∀ (qs : List (Fin l.length)), (qs.map (fun i => l[i])).idxOf l[i] = (qs.map (fun i => m[i.1]'(by omega))).idxOf (m[i]'(by omega)) := by
  intro qs
  induction qs with
  | nil => simp
  | cons a qs ih =>
   rw [List.map_cons, List.map_cons, List.idxOf_cons, List.idxOf_cons, ih]
   have := h a.1 i a.2 hi
   by_cases e : l[a] = l[i]
   ·have e' := this.1 e
    simp only [beq_iff_eq.2 e, beq_iff_eq.2 e']
   ·have e' : ¬ (m[a.1]'(by omega) = m[i]'(by omega)) := fun h' => e (this.2 h')
    simp only [beq_eq_false_iff_ne.2 e, beq_eq_false_iff_ne.2 e']
 exact aux ps
theorem numb_norm {α : Type} [DecidableEq α] (l : List α) : Norm (numb l) := by
 refine numb_congr _ _ (yW l) fun i j hi hj => ?_
 rw [yW] at hi hj
 have := numb_eq_iff (l := l) hi hj
 rw [zT (by rw [yW]; exact hi), zT (by rw [yW]; exact hj)] at this
 exact this
theorem norm_ext {p q : List Nat} (hp : Norm p) (hq : Norm q) (h : SameKer p q) : p = q := by
 rw [← hp, ← hq]
 refine numb_congr _ _ h.1 fun i j hi hj => ?_
 have := h.2 i j hi hj
 rw [zT hi, zT hj, zT (by rw [← h.1]; exact hi), zT (by rw [← h.1]; exact hj)] at this
 exact this
end Go.Proofs.YtdjhoadoiknaoaaDoor
