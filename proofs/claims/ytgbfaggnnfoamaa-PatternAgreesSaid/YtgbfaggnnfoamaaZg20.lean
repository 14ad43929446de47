/- Part 20 of the proof: BB. -/
import Derived.Test.YtgbfaggnnfoamaaZg19
import Derived.Laws.IdiomCopy
set_option linter.unusedVariables false
set_option linter.unusedSimpArgs false
namespace Go.Proofs.Ytgbfaggnnfoamaa
open Go.RowKit
def rowv (k g : Nat) : Value := .slice (some ⟨g, 0, none⟩) k k
structure BB (W0 W : World) (bb k : Nat) (t : List (List Nat)) (gs : List Nat) (sn : Option Addr) (cn : Nat) : Prop where
 box : W.heap[bb]? = some (.cells #[.int .i64 (k : Int), .slice sn t.length cn] 74 (0, 0))
 own : W.ownsRow bb 30 1 (.slice sn t.length cn) t.length (gs.map (rowv k))
 len : gs.length = t.length
 row : ∀ i, i < t.length → Arr W (gs.getD i 0) 3 (nats (t.getD i [])) ∧ (t.getD i []).length = k
 nd : gs.Nodup
 lo : W0.heap.size ≤ bb
 glo : ∀ g ∈ gs, W0.heap.size ≤ g
 grown : W0.grownBy W none
section
variable {W0 W W' : World} {bb k : Nat} {t : List (List Nat)} {gs : List Nat} {sn : Option Addr} {cn : Nat}
theorem BB.start {bb k : Nat} (hb : W.heap[bb]? = some (.cells #[.int .i64 (k : Int), .slice none 0 0] 74 (0, 0))) (h0 : W0.heap.size ≤ bb) (hg : W0.grownBy W none) : BB W0 W bb k [] [] none 0 :=
 ⟨hb, World.ownsRow_nil _ _ _ _, rfl, fun i hi => by simp at hi, by simp, h0, by simp, hg⟩
theorem BB.cells (h : BB W0 W bb k t gs sn cn) : W.cell? ⟨bb, 0, none⟩ = some (.int .i64 (k : Int)) ∧ W.cell? ⟨bb, 1, none⟩ = some (.slice sn t.length cn) ∧ W.frozen? ⟨bb, 1, none⟩ = false := by
 have c0 := zO h.box 0 (by simp)
 have c1 := zO h.box 1 (by simp)
 exact ⟨by simpa using c0, by simpa using c1, zE h.box 1⟩
theorem BB.grow (h : BB W0 W bb k t gs sn cn) (hg : W.grownBy W' none) : BB W0 W' bb k t gs sn cn where
 box := zA h.box hg (by simp)
 own := yA h.own hg
 len := h.len
 row := fun i hi => ⟨(h.row i hi).1.kept hg (by simp), (h.row i hi).2⟩
 nd := h.nd
 lo := h.lo
 glo := h.glo
 grown := zB h.grown hg (by simp)
theorem BB.hd (h : BB W0 W bb k t gs sn cn) (h0 : 0 < t.length) : ∃ q cap, sn = some ⟨q, 0, none⟩ ∧ cn = cap ∧ t.length ≤ cap ∧ cap ≤ maxLen ∧ ∀ i, i < t.length → W.cell? ⟨q, i, none⟩ = some (rowv k (gs.getD i 0)) := by
 rcases id h.own.2 with ⟨e, _⟩ | ⟨q, cap, cur, e, _, _, hnc, hcm, _⟩
 ·simp only [Value.slice.injEq] at e; omega
 ·simp only [Value.slice.injEq] at e
  obtain ⟨rfl, _, rfl⟩ := e
  refine ⟨q, cn, rfl, rfl, hnc, hcm, fun i hi => ?_⟩
  have hi2 : i < gs.length := by rw [h.len]; exact hi
  rw [h.own.cellAt i (by omega), List.getElem?_map, List.getElem?_eq_getElem hi2, zG hi2]; rfl
theorem nE {gs : List Nat} {i : Nat} (h : i < gs.length) : gs.getD i 0 ∈ gs := by rw [zG h]; exact List.getElem_mem h
theorem nodup_getD {gs : List Nat} (hn : gs.Nodup) {i j : Nat} (hi : i < gs.length) (hj : j < gs.length) (e : gs.getD i 0 = gs.getD j 0) : i = j := by
 rw [zG hi, zG hj] at e
 rw [← hn.idxOf_getElem i hi, e, hn.idxOf_getElem j hj]
theorem set_getD_same {α : Type} {l : List α} {i : Nat} {x y : α} (h : i < l.length) : (l.set i x).getD i y = x := by
 rw [zG (by simpa using h)]; simp
theorem set_getD_ne {α : Type} {l : List α} {i j : Nat} {x y : α} (h : i ≠ j) : (l.set i x).getD j y = l.getD j y := by
 simp only [List.getD_eq_getElem?_getD]
 rw [List.getElem?_set_ne h]
theorem BB.set (h : BB W0 W bb k t gs sn cn) {i : Nat} (hi : i < t.length) {r : List Nat} (hr : r.length = k) (hg : W.grownBy W' (some (gs.getD i 0))) (ha : Arr W' (gs.getD i 0) 3 (nats r)) : BB W0 W' bb k (t.set i r) gs sn cn := by
 obtain ⟨cur, rest, hc, _⟩ := (h.row i hi).1
 have hne : gs.getD i 0 ≠ bb := fun e => by
  rw [e, h.box] at hc
  simp only [Option.some.injEq, Obj.cells.injEq] at hc
  exact absurd hc.2.1 (by decide)
 have hil : i < gs.length := by rw [h.len]; exact hi
 refine ⟨?_, ?_, by rw [List.length_set]; exact h.len, fun j hj => ?_, h.nd, h.lo, h.glo, zB h.grown hg (fun q e => by have := Option.some.inj e; subst this; exact h.glo _ (nE hil))⟩
 ·rw [List.length_set]; exact zA h.box hg (fun e => hne (Option.some.inj e))
 ·rw [List.length_set]; exact h.own.kept hg (.inr (zK h.own hc (by decide)))
 ·rw [List.length_set] at hj
  by_cases e : i = j
  ·subst e
   rw [set_getD_same hi]
   exact ⟨ha, hr⟩
  ·rw [set_getD_ne e]
   exact ⟨(h.row j hj).1.kept hg (fun e2 => e (nodup_getD h.nd hil (by rw [h.len]; exact hj) (Option.some.inj e2))), (h.row j hj).2⟩
theorem BB.put (h : BB W0 W bb k t gs sn cn) {i j : Nat} (hi : i < t.length) (hj : j < k) (c : Nat) : BB W0 (W.setCell ⟨gs.getD i 0, j, none⟩ (.int .i64 (c : Int))) bb k (t.set i ((t.getD i []).set j c)) gs sn cn := by
 have hr := h.row i hi
 exact h.set hi (by rw [List.length_set]; exact hr.2) (zC W ⟨gs.getD i 0, j, none⟩ _) (hr.1.nat_set j (by rw [hr.2]; exact hj) c)
theorem BB.off (h : BB W0 W bb k t gs sn cn) {g : Nat} {c : Array Value} {m : Nat × Nat} (hg : W.grownBy W' (some g)) (hc : W.heap[g]? = some (.cells c 3 m)) (hn : g ∉ gs) (h0 : W0.heap.size ≤ g) : BB W0 W' bb k t gs sn cn where
 box := zA h.box hg (fun e => by
  have := Option.some.inj e
  subst this
  rw [h.box] at hc
  simp only [Option.some.injEq, Obj.cells.injEq] at hc
  exact absurd hc.2.1 (by decide))
 own := h.own.kept hg (.inr (zK h.own hc (by decide)))
 len := h.len
 row := fun i hi => ⟨(h.row i hi).1.kept hg (fun e => hn (by rw [Option.some.inj e]; exact nE (by rw [h.len]; exact hi))), (h.row i hi).2⟩
 nd := h.nd
 lo := h.lo
 glo := h.glo
 grown := zB h.grown hg (fun q e => by have := Option.some.inj e; omega)
theorem BB.lt (h : BB W0 W bb k t gs sn cn) : ∀ g ∈ gs, g < W.heap.size := fun g hg => by
 obtain ⟨i, hi, rfl⟩ := List.getElem_of_mem hg
 have := (h.row i (by rw [← h.len]; exact hi)).1.lt
 rwa [zG hi] at this
theorem BB.push (h : BB W0 W bb k t gs sn cn) {g : Nat} {r : List Nat} {sn' : Option Addr} {cn' : Nat} (hr : r.length = k) (ha : Arr W g 3 (nats r)) (hgn : ∀ x ∈ gs, x ≠ g) (hg0 : W0.heap.size ≤ g) (ho : W'.ownsRow bb 30 1 (.slice sn' (t.length + 1) cn') (t.length + 1) (gs.map (rowv k) ++ [rowv k g])) (hg : W.grownBy W' (Value.slice sn t.length cn).ownBlock) {W2 : World} (hW2 : W2 = W'.setCell ⟨bb, 1, none⟩ (.slice sn' (t.length + 1) cn')) :
  BB W0 W2 bb k (t ++ [r]) (gs ++ [g]) sn' cn' := by
 have hb := zA h.box hg (zK h.own h.box (by decide))
 have hs2 := heap_setCell_same W' bb 1 _ _ (.slice sn' (t.length + 1) cn') hb
 have g2 := zC W' ⟨bb, 1, none⟩ (.slice sn' (t.length + 1) cn')
 rw [← hW2] at hs2 g2
 have hint : ∀ {q : Nat} {xs : List Value}, Arr W q 3 xs → Arr W2 q 3 xs := fun {q xs} hq => by
  obtain ⟨cu, rs, hc, _⟩ := id hq
  exact (hq.kept hg (zK h.own hc (by decide))).kept g2 (fun e => by
   have e : bb = q := Option.some.inj e
   subst e
   rw [h.box] at hc
   simp only [Option.some.injEq, Obj.cells.injEq] at hc
   exact absurd hc.2.1 (by decide))
 have e1 : (t ++ [r]).length = t.length + 1 := by simp
 refine ⟨?_, ?_, by simp [h.len], fun i hi => ?_, ?_, h.lo, ?_, zB (zB h.grown hg (fun j e => Nat.le_trans h.lo (h.own.lt j e).1)) g2 (fun j e => by have e : bb = j := Option.some.inj e; have := h.lo; omega)⟩
 ·rw [hs2, e1]; simp
 ·rw [e1, List.map_append]; exact ho.kept g2 (.inr (zK ho hb (by decide)))
 ·rw [e1] at hi
  by_cases hi' : i < t.length
  ·rw [zQ (by rw [h.len]; exact hi'), zQ hi']
   exact ⟨hint (h.row i hi').1, (h.row i hi').2⟩
  ·have : i = t.length + 0 := by omega
   rw [this, yM]
   rw [show (gs ++ [g]).getD (t.length + 0) 0 = g by rw [← h.len, yM]; rfl]
   exact ⟨hint ha, hr⟩
 ·rw [List.nodup_append]
  exact ⟨h.nd, by simp, fun x hx y hy e => by simp at hy; subst hy; exact hgn x hx e⟩
 ·intro x hx
  rcases List.mem_append.1 hx with hx | hx
  ·exact h.glo x hx
  ·simp at hx; subst hx; exact hg0
end
theorem uT {α : Type} {l : List α} {x y : α} {n : Nat} (h : n = l.length) : (l ++ [x]).getD n y = x := by
 subst h
 rw [zG (by simp)]; simp
theorem nZ {α : Type} {l : List α} {x y : α} {n : Nat} (h : n = l.length) : (l ++ [x]).set n y = l ++ [y] := by
 subst h
 rw [List.set_append_right _ _ (Nat.le_refl _), Nat.sub_self]; rfl
section
variable {W0 W W' : World} {bb k : Nat} {t : List (List Nat)} {gs : List Nat} {sn : Option Addr} {cn : Nat} {r : List Nat} {g : Nat}
theorem BB.lastlen (h : BB W0 W bb k (t ++ [r]) (gs ++ [g]) sn cn) : gs.length = t.length := by have := h.len; simp at this; exact this
theorem BB.last (h : BB W0 W bb k (t ++ [r]) (gs ++ [g]) sn cn) : Arr W g 3 (nats r) ∧ r.length = k := by
 have := h.row t.length (by simp)
 rwa [uT rfl, uT h.lastlen.symm] at this
theorem BB.putLast (h : BB W0 W bb k (t ++ [r]) (gs ++ [g]) sn cn) {j : Nat} (hj : j < k) (c : Nat) : BB W0 (W.setCell ⟨g, j, none⟩ (.int .i64 (c : Int))) bb k (t ++ [r.set j c]) (gs ++ [g]) sn cn := by
 have := h.put (i := t.length) (by simp) hj c
 rwa [uT rfl, uT h.lastlen.symm, nZ rfl] at this
end
def zD (s : ByteArray) : List Nat := s.data.toList.map fun c => c.toNat - 97
theorem zT (s : ByteArray) : (zD s).length = s.size := by simp [zD]
theorem uG {s : ByteArray} {i : Nat} (h : i < s.size) : (zD s).getD i 0 = s[i].toNat - 97 := by
 rw [zG (by rw [zT]; exact h)]
 simp [zD]; rfl
theorem pE {k : Nat} {c : UInt8} : wQ (k : Int) c = true ↔ 97 ≤ c.toNat ∧ c.toNat - 97 < k := by
 unfold wQ
 rw [decide_eq_true_eq]; omega
theorem wH {s : ByteArray} {k : Nat} (h : zM s (k : Int) = true) : xC k (zD s) ∧ (∀ i (hi : i < s.size), 97 ≤ s[i].toNat ∧ s[i].toNat - 97 < k) ∧ s.size ≤ 2048 := by
 simp only [zM, Bool.and_eq_true, decide_eq_true_eq, List.all_eq_true] at h
 refine ⟨fun a ha => ?_, fun i hi => ?_, h.1.2.2⟩
 ·obtain ⟨c, hc, rfl⟩ := List.mem_map.1 ha
  exact (pE.1 (h.2 c hc)).2
 ·have hm : s[i] ∈ s.data.toList := by
   have : s[i] = s.data.toList[i]'(by simpa using hi) := by simp; rfl
   rw [this]; exact List.getElem_mem _
  exact pE.1 (h.2 _ hm)
end Go.Proofs.Ytgbfaggnnfoamaa
