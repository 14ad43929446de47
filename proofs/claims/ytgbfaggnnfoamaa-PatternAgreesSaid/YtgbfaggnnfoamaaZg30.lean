/- Part 30 of the proof: BX. -/
import Derived.Test.YtgbfaggnnfoamaaZg29
set_option linter.unusedVariables false
set_option linter.unusedSimpArgs false
namespace Go.Proofs.Ytgbfaggnnfoamaa
open Go.RowKit
structure BX (W0 W : World) (o : Nat) (X : Nat → Prop) (k : Nat) (fs : List Bool) (t : List (List Int)) (hs : List Value) (sf : Option Addr) (cf : Nat) (sn : Option Addr) (cn : Nat) : Prop where
 lt : ∀ j, X j → j < W.heap.size
 box : W.heap[o]? = some (.cells #[.int .i64 (k : Int), .int .i64 0, .slice sf fs.length cf, .slice sn t.length cn] 49 (0, 0))
 ownF : W.ownsRow o 4 1 (.slice sf fs.length cf) fs.length (bls fs)
 ownN : W.ownsRow o 30 1 (.slice sn t.length cn) t.length hs
 rows : vL X 3 ints W hs t
 lo : W0.heap.size ≤ o
 grown : W0.grownBy W none
section
variable {W0 W W' : World} {o k : Nat} {X : Nat → Prop} {fs : List Bool} {t : List (List Int)} {hs : List Value} {sf : Option Addr} {cf : Nat} {sn : Option Addr} {cn : Nat}
theorem BX.start {w : World} {o k : Nat} (hb : w.heap[o]? = some (.cells #[.int .i64 (k : Int), .int .i64 0, .slice none 0 0, .slice none 0 0] 49 (0, 0))) (h0 : W0.heap.size ≤ o) (hg : W0.grownBy w none) : BX W0 w o (fun _ => False) k [] [] [] none 0 none 0 :=
 ⟨fun _ h => h.elim, hb, World.ownsRow_nil _ _ _ _, World.ownsRow_nil _ _ _ _, vL.nil, h0, hg⟩
theorem BX.grow (h : BX W0 W o X k fs t hs sf cf sn cn) (hg : W.grownBy W' none) : BX W0 W' o X k fs t hs sf cf sn cn where
 lt := fun j hj => Nat.lt_of_lt_of_le (h.lt j hj) hg.size
 box := zA h.box hg (by simp)
 ownF := yA h.ownF hg
 ownN := yA h.ownN hg
 rows := h.rows.keptT hg (by simp)
 lo := h.lo
 grown := zB h.grown hg (by simp)
theorem BX.put (h : BX W0 W o X k fs t hs sf cf sn cn) {g : Nat} {c : Array Value} {m : Nat × Nat} (hg : W.grownBy W' (some g)) (hc : W.heap[g]? = some (.cells c 3 m)) (hX : ¬ X g) (h0 : W0.heap.size ≤ g) : BX W0 W' o X k fs t hs sf cf sn cn where
 lt := fun j hj => Nat.lt_of_lt_of_le (h.lt j hj) hg.size
 box := zA h.box hg (fun e => by
  have := Option.some.inj e
  subst this
  rw [h.box] at hc
  simp only [Option.some.injEq, Obj.cells.injEq] at hc
  exact absurd hc.2.1 (by decide))
 ownF := h.ownF.kept hg (.inr (zK h.ownF hc (by decide)))
 ownN := h.ownN.kept hg (.inr (zK h.ownN hc (by decide)))
 rows := h.rows.kept (fun j hj => hg.block j (h.lt j hj) (fun e => by have := Option.some.inj e; subst this; exact hX hj)) hg.size
 lo := h.lo
 grown := zB h.grown hg (fun j e => by have := Option.some.inj e; omega)
theorem BX.pushN (h : BX W0 W o X k fs t hs sf cf sn cn) {m : Nat} (hm : t.length = m) {rv : Value} {row : List Int} {sn' : Option Addr} {cn' : Nat} {Y : Nat → Prop} (hXY : ∀ j, X j → Y j) (hY : ∀ j, Y j → j < W.heap.size) (ho : W'.ownsRow o 30 1 (.slice sn' (m + 1) cn') (m + 1) (hs ++ [rv])) (hg : W.grownBy W' (Value.slice sn m cn).ownBlock) (hrow : RowX Y 3 W rv (ints row)) {W2 : World} (hW2 : W2 = W'.setCell ⟨o, 3, none⟩ (.slice sn' (m + 1) cn')) :
  BX W0 W2 o Y k fs (t ++ [row]) (hs ++ [rv]) sf cf sn' cn' := by
 subst hm
 have hb := zA h.box hg (zK h.ownN h.box (by decide))
 have hs2 := heap_setCell_same W' o 3 _ _ (.slice sn' (t.length + 1) cn') hb
 have g2 := zC W' ⟨o, 3, none⟩ (.slice sn' (t.length + 1) cn')
 rw [← hW2] at hs2 g2
 have hF1 := h.ownF.kept hg (by
  rcases hv : (Value.slice sf fs.length cf).ownBlock with _ | j
  ·exact .inl rfl
  ·refine .inr fun e => ?_
   obtain ⟨cu, e', mm, hh, hne⟩ := yQ (e' := 30) h.ownF (by decide) j hv
   exact zK h.ownN hh (fun e2 => hne e2.symm) e.symm)
 have hr1 : vL Y 3 ints W (hs ++ [rv]) (t ++ [row]) := (h.rows.mono hXY).snoc hrow
 have hr2 := hr1.keptT hg (fun j e => yQ h.ownN (by decide) j e)
 have hob : xA W' 3 o := ⟨_, _, _, hb, by decide⟩
 have hz := hg.size
 have hz2 := g2.size
 exact ⟨fun j hj => by have := hY j hj; omega, by rw [hs2]; simp, hF1.kept g2 (.inr (zK hF1 hb (by decide))), by
  rw [List.length_append]
  exact ho.kept g2 (.inr (zK ho hb (by decide))), hr2.keptT g2 (fun j e => by have := Option.some.inj e; subst this; exact hob), h.lo, zB (zB h.grown hg (fun j e => Nat.le_trans h.lo (h.ownN.lt j e).1)) g2 (fun j e => by have e : o = j := Option.some.inj e; have := h.lo; omega)⟩
theorem BX.pushF (h : BX W0 W o X k fs t hs sf cf sn cn) {m : Nat} (hm : fs.length = m) {b : Bool} {sf' : Option Addr} {cf' : Nat} (ho : W'.ownsRow o 4 1 (.slice sf' (m + 1) cf') (m + 1) (bls fs ++ [.bool b])) (hg : W.grownBy W' (Value.slice sf m cf).ownBlock) {W2 : World} (hW2 : W2 = W'.setCell ⟨o, 2, none⟩ (.slice sf' (m + 1) cf')) :
  BX W0 W2 o X k (fs ++ [b]) t hs sf' cf' sn cn := by
 subst hm
 have hb := zA h.box hg (zK h.ownF h.box (by decide))
 have hs2 := heap_setCell_same W' o 2 _ _ (.slice sf' (fs.length + 1) cf') hb
 have g2 := zC W' ⟨o, 2, none⟩ (.slice sf' (fs.length + 1) cf')
 rw [← hW2] at hs2 g2
 have hN1 := h.ownN.kept hg (by
  rcases hv : (Value.slice sn t.length cn).ownBlock with _ | j
  ·exact .inl rfl
  ·refine .inr fun e => ?_
   obtain ⟨cu, e', mm, hh, hne⟩ := yQ (e' := 4) h.ownN (by decide) j hv
   exact zK h.ownF hh (fun e2 => hne e2.symm) e.symm)
 have hr2 := h.rows.keptT hg (fun j e => yQ h.ownF (by decide) j e)
 have hob : xA W' 3 o := ⟨_, _, _, hb, by decide⟩
 have hz := hg.size
 have hz2 := g2.size
 have hbl : bls (fs ++ [b]) = bls fs ++ [.bool b] := by simp [bls]
 exact ⟨fun j hj => by have := h.lt j hj; omega, by rw [hs2]; simp, by
  rw [List.length_append, hbl]
  exact ho.kept g2 (.inr (zK ho hb (by decide))), hN1.kept g2 (.inr (zK hN1 hb (by decide))), hr2.keptT g2 (fun j e => by have := Option.some.inj e; subst this; exact hob), h.lo, zB (zB h.grown hg (fun j e => Nat.le_trans h.lo (h.ownF.lt j e).1)) g2 (fun j e => by have e : o = j := Option.some.inj e; have := h.lo; omega)⟩
theorem BX.built (h : BX W0 W o X k fs t hs sf cf sn cn) (hl : fs.length = t.length) : Built o W o k 0 fs t hs sf cf sn cn := ⟨h.box, h.ownF, h.ownN, h.rows.rowsT, hl⟩
end
def xJ (d : DfaV) (p : List Nat) (q : Nat) : List Bool := (wC p q).map fun q => d.final.getD q false
def wD (d : DfaV) (p : List Nat) (q : Nat) : List (List Int) := (wC p q).map fun q => vX p (d.next.getD q [])
theorem quotFs_new {d : DfaV} {p : List Nat} {q : Nat} (h : p.getD q 0 = cls (p.take q)) : xJ d p (q + 1) = xJ d p q ++ [d.final.getD q false] := by
 rw [xJ, xS h, List.map_append]; rfl
theorem quotTs_new {d : DfaV} {p : List Nat} {q : Nat} (h : p.getD q 0 = cls (p.take q)) : wD d p (q + 1) = wD d p q ++ [vX p (d.next.getD q [])] := by
 rw [wD, xS h, List.map_append]; rfl
theorem quotFs_old {d : DfaV} {p : List Nat} {q : Nat} (h : p.getD q 0 ≠ cls (p.take q)) : xJ d p (q + 1) = xJ d p q := by rw [xJ, xR h]; rfl
theorem quotTs_old {d : DfaV} {p : List Nat} {q : Nat} (h : p.getD q 0 ≠ cls (p.take q)) : wD d p (q + 1) = wD d p q := by rw [wD, xR h]; rfl
theorem pB {d : DfaV} {p : List Nat} {q : Nat} (h : Norm p) (hq : q ≤ p.length) : (xJ d p q).length = cls (p.take q) := by rw [xJ, List.length_map, xT h q hq]
theorem pA {d : DfaV} {p : List Nat} {q : Nat} (h : Norm p) (hq : q ≤ p.length) : (wD d p q).length = cls (p.take q) := by rw [wD, List.length_map, xT h q hq]
theorem quot_full {d : DfaV} {p : List Nat} {q : Nat} (hq : q = p.length) (h0 : p.getD (st0 d) 0 = 0) : (⟨d.letters, 0, xJ d p q, wD d p q⟩ : DfaV) = xU d p := by
 rw [hq, xU, h0]; rfl
theorem norm_zero {p : List Nat} (h : Norm p) : p.getD 0 0 = 0 := by
 by_cases h0 : 0 < p.length
 ·have := (rT h h0).1
  rw [List.take_zero] at this
  simpa [cls, zP] using this
 ·rw [List.getD, List.getElem?_eq_none (by omega)]; rfl
end Go.Proofs.Ytgbfaggnnfoamaa
