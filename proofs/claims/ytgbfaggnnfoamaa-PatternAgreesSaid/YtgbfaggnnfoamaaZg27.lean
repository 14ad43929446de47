/- Part 27 of the proof: Expl0. -/
import Derived.Test.YtgbfaggnnfoamaaZg26
set_option linter.unusedVariables false
set_option linter.unusedSimpArgs false
namespace Go.Proofs.Ytgbfaggnnfoamaa
open Go.RowKit Go.Maps
theorem vT.obj {w : World} {b n : Nat} {l : List Int} (h : vT w b n l) : ∃ es clock, w.heap[b]? = some (.map es clock) := by
 obtain ⟨D, ⟨es, clock, hb, _⟩, _⟩ := h
 exact ⟨es, clock, hb⟩
theorem NumSt.off {base : Nat} {W : World} {o : Nat} {sa : Option Addr} {sc : Nat} {mv : Option Nat} {l : List Nat} (h : NumSt base W o sa sc mv l) {k e : Nat} {c : Array Value} {m : Nat × Nat} (hk : W.heap[k]? = some (.cells c e m)) (h1 : e ≠ 3) (h2 : e ≠ 122) : ¬ NF o sa mv k := by
 rintro (rfl | hn | hn)
 ·rw [h.box] at hk
  simp only [Option.some.injEq, Obj.cells.injEq] at hk
  exact h2 hk.2.1.symm
 ·rw [← zI sa l.length sc] at hn
  exact zK h.own hk (fun e => h1 e.symm) hn
 ·rcases h.map with ⟨e, _⟩ | ⟨mb, e, _, _, _, _, hm⟩
  ·rw [e] at hn; cases hn
  ·rw [e] at hn
   have := Option.some.inj hn
   subst this
   obtain ⟨es, cl, hm⟩ := hm.obj
   rw [hm] at hk; simp at hk
theorem NumSt.offOwn {base : Nat} {W : World} {o : Nat} {sa : Option Addr} {sc : Nat} {mv : Option Nat} {l : List Nat} (h : NumSt base W o sa sc mv l) {b e n sz : Nat} {v : Value} {xs : List Value} (hown : W.ownsRow b e sz v n xs) (h1 : e ≠ 3) (h2 : e ≠ 122) : ∀ k, v.ownBlock = some k → ¬ NF o sa mv k := fun k hk => by
 rcases hown.2 with ⟨rfl, _⟩ | ⟨g, cap, cur, rfl, _, hg, _⟩
 ·simp [Value.ownBlock] at hk
 ·have : g = k := by simpa [Value.ownBlock] using hk
  subst this
  exact h.off hg h1 h2
theorem vL.keptT {α : Type} {X : Nat → Prop} {e : TypeId} {f : α → List Value} {w w' : World} {hs : List Value} {ts : List α} {row : Option Nat} (h : vL X e f w hs ts) (hg : w.grownBy w' row) (hr : ∀ k, row = some k → xA w e k) : vL X e f w' hs ts :=
 ⟨h.1, fun i h1 h2 => ⟨((h.2 i h1 h2).1.kept hg (fun k hk => .inr (hr k hk))).mono hg.size, (h.2 i h1 h2).2⟩⟩
theorem rC.but {X F : Nat → Prop} {w w' : World} (hlt : ∀ k, X k → k < w.heap.size) (hg : GrownBut w w' F) (hF : ∀ k, F k → ¬ X k) : rC X w w' := fun k hk => hg.block k (hlt k hk) (fun hf => hF k hf hk)
theorem qG {w w' : World} {base e n sz : Nat} {v : Value} {xs : List Value} {F : Nat → Prop} (h : w.ownsRow base e sz v n xs) (hg : GrownBut w w' F) (hF : ∀ k, v.ownBlock = some k → ¬ F k) : w'.ownsRow base e sz v n xs := by
 refine ⟨h.1, ?_⟩
 rcases id h.2 with h2 | ⟨g, cap, cur, hv, hb, hgc, h3⟩
 ·exact .inl h2
 ·exact .inr ⟨g, cap, cur, hv, hb, hg.heap hgc (hF g (by rw [hv]; rfl)), h3⟩
structure ExSt (B : Nat) (W0 W : World) (oN o2 : Nat) (X Y : Nat → Prop) (k : Nat) (l : List Nat) (fs : List Bool) (t : List (List Int)) (hs : List Value) (sa : Option Addr) (sc : Nat) (mv : Option Nat) (sf : Option Addr) (cf : Nat) (sn : Option Addr) (cn : Nat) : Prop where
 num : NumSt B W oN sa sc mv l
 sep : ∀ j, NF oN sa mv j → ¬ Y j
 XY : ∀ j, X j → Y j
 lt : ∀ j, Y j → j < W.heap.size
 box : W.heap[o2]? = some (.cells #[.int .i64 (k : Int), .int .i64 0, .slice sf fs.length cf, .slice sn t.length cn] 49 (0, 0))
 ownF : W.ownsRow o2 4 1 (.slice sf fs.length cf) fs.length (bls fs)
 ownN : W.ownsRow o2 30 1 (.slice sn t.length cn) t.length hs
 rows : vL X 3 ints W hs t
 lo : W0.heap.size ≤ o2
 loB : W0.heap.size ≤ B ∧ B ≤ W.heap.size
 grown : W0.grownBy W none
section
variable {B : Nat} {W0 W W' : World} {oN o2 k : Nat} {X Y : Nat → Prop} {l : List Nat} {fs : List Bool} {t : List (List Int)} {hs : List Value} {sa : Option Addr} {sc : Nat} {mv : Option Nat} {sf : Option Addr} {cf : Nat} {sn : Option Addr} {cn : Nat}
theorem ExSt.grow (h : ExSt B W0 W oN o2 X Y k l fs t hs sa sc mv sf cf sn cn) (hg : W.grownBy W' none) : ExSt B W0 W' oN o2 X Y k l fs t hs sa sc mv sf cf sn cn where
 num := h.num.kept hg (by simp)
 sep := h.sep
 XY := h.XY
 lt := fun j hj => Nat.lt_of_lt_of_le (h.lt j hj) hg.size
 box := zA h.box hg (by simp)
 ownF := yA h.ownF hg
 ownN := yA h.ownN hg
 rows := h.rows.keptT hg (by simp)
 lo := h.lo
 loB := ⟨h.loB.1, Nat.le_trans h.loB.2 hg.size⟩
 grown := zB h.grown hg (by simp)
theorem ExSt.fresh (h : ExSt B W0 W oN o2 X Y k l fs t hs sa sc mv sf cf sn cn) (hg : W.grownBy W' none) {g : Nat} (h1 : W.heap.size ≤ g) (h2 : g < W'.heap.size) : ExSt B W0 W' oN o2 X (fun j => Y j ∨ j = g) k l fs t hs sa sc mv sf cf sn cn where
 num := h.num.kept hg (by simp)
 sep := fun j hj hy => by
  rcases hy with hy | hy
  ·exact h.sep j hj hy
  ·have := (h.num.ge j hj).2; omega
 XY := fun j hj => .inl (h.XY j hj)
 lt := fun j hj => by
  rcases hj with hj | hj
  ·exact Nat.lt_of_lt_of_le (h.lt j hj) hg.size
  ·omega
 box := zA h.box hg (by simp)
 ownF := yA h.ownF hg
 ownN := yA h.ownN hg
 rows := h.rows.keptT hg (by simp)
 lo := h.lo
 loB := ⟨h.loB.1, Nat.le_trans h.loB.2 hg.size⟩
 grown := zB h.grown hg (by simp)
theorem ExSt.num_step (h : ExSt B W0 W oN o2 X Y k l fs t hs sa sc mv sf cf sn cn) {l' : List Nat} {sa' : Option Addr} {sc' : Nat} {mv' : Option Nat} (hn : NumSt B W' oN sa' sc' mv' l') (hg : GrownBut W W' (NF oN sa mv)) (hm : ∀ k, NF oN sa' mv' k → NF oN sa mv k ∨ W.heap.size ≤ k) : ExSt B W0 W' oN o2 X Y k l' fs t hs sa' sc' mv' sf cf sn cn where
 num := hn
 sep := fun j hj hy => by
  rcases hm j hj with h1 | h1
  ·exact h.sep j h1 hy
  ·have := h.lt j hy; omega
 XY := h.XY
 lt := fun j hj => Nat.lt_of_lt_of_le (h.lt j hj) hg.size
 box := hg.heap h.box (h.num.off h.box (by decide) (by decide))
 ownF := qG h.ownF hg (h.num.offOwn h.ownF (by decide) (by decide))
 ownN := qG h.ownN hg (h.num.offOwn h.ownN (by decide) (by decide))
 rows := h.rows.kept (rC.but (fun k hk => h.lt k (h.XY k hk)) hg (fun k hf hx => h.sep k hf (h.XY k hx))) hg.size
 lo := h.lo
 loB := ⟨h.loB.1, Nat.le_trans h.loB.2 hg.size⟩
 grown := hg.grown h.grown (fun k hk => .inr (Nat.le_trans h.loB.1 (h.num.ge k hk).1))
theorem ExSt.put (h : ExSt B W0 W oN o2 X Y k l fs t hs sa sc mv sf cf sn cn) {g : Nat} {c : Array Value} {m : Nat × Nat} (hg : W.grownBy W' (some g)) (hc : W.heap[g]? = some (.cells c 3 m)) (hY : Y g) (hX : ¬ X g) (h0 : W0.heap.size ≤ g) : ExSt B W0 W' oN o2 X Y k l fs t hs sa sc mv sf cf sn cn where
 num := h.num.kept hg (fun j e hf => by have := Option.some.inj e; subst this; exact h.sep _ hf hY)
 sep := h.sep
 XY := h.XY
 lt := fun j hj => Nat.lt_of_lt_of_le (h.lt j hj) hg.size
 box := zA h.box hg (fun e => by
  have := Option.some.inj e
  subst this
  rw [h.box] at hc
  simp only [Option.some.injEq, Obj.cells.injEq] at hc
  exact absurd hc.2.1 (by decide))
 ownF := h.ownF.kept hg (.inr (zK h.ownF hc (by decide)))
 ownN := h.ownN.kept hg (.inr (zK h.ownN hc (by decide)))
 rows := h.rows.kept (fun j hj => hg.block j (h.lt j (h.XY j hj)) (fun e => by have := Option.some.inj e; subst this; exact hX hj)) hg.size
 lo := h.lo
 loB := ⟨h.loB.1, Nat.le_trans h.loB.2 hg.size⟩
 grown := zB h.grown hg (fun j e => by have := Option.some.inj e; omega)
theorem ExSt.pushN (h : ExSt B W0 W oN o2 X Y k l fs t hs sa sc mv sf cf sn cn) {m : Nat} (hm : t.length = m) {rv : Value} {row : List Int} {sn' : Option Addr} {cn' : Nat} (ho : W'.ownsRow o2 30 1 (.slice sn' (m + 1) cn') (m + 1) (hs ++ [rv])) (hg : W.grownBy W' (Value.slice sn m cn).ownBlock) (hrow : RowX (fun j => X j ∨ Y j) 3 W rv (ints row)) {W2 : World} (hW2 : W2 = W'.setCell ⟨o2, 3, none⟩ (.slice sn' (m + 1) cn')) :
  ExSt B W0 W2 oN o2 Y Y k l fs (t ++ [row]) (hs ++ [rv]) sa sc mv sf cf sn' cn' := by
 subst hm
 have hb := zA h.box hg (zK h.ownN h.box (by decide))
 have hs2 := heap_setCell_same W' o2 3 _ _ (.slice sn' (t.length + 1) cn') hb
 have g2 := zC W' ⟨o2, 3, none⟩ (.slice sn' (t.length + 1) cn')
 rw [← hW2] at hs2 g2
 have hoff := h.num.offOwn h.ownN (by decide) (by decide)
 have hn1 := h.num.kept hg (fun j e => hoff j e)
 have hF1 := h.ownF.kept hg (by
  rcases hv : (Value.slice sf fs.length cf).ownBlock with _ | j
  ·exact .inl rfl
  ·refine .inr fun e => ?_
   obtain ⟨cu, e', mm, hh, hne⟩ := yQ (e' := 30) h.ownF (by decide) j hv
   exact zK h.ownN hh (fun e2 => hne e2.symm) e.symm)
 have hr1 : vL Y 3 ints W (hs ++ [rv]) (t ++ [row]) := (h.rows.mono h.XY).snoc (hrow.mono (fun j hj => hj.elim (h.XY j) id))
 have hr2 := hr1.keptT hg (fun j e => yQ h.ownN (by decide) j e)
 have hob : xA W' 3 o2 := ⟨_, _, _, hb, by decide⟩
 have hz := hg.size
 have hz2 := g2.size
 exact ⟨hn1.kept g2 (fun j e hf => by have := Option.some.inj e; subst this; exact hn1.off hb (by decide) (by decide) hf), h.sep, fun _ hj => hj, fun j hj => by have := h.lt j hj; omega, by rw [hs2]; simp, hF1.kept g2 (.inr (zK hF1 hb (by decide))), by
  rw [List.length_append]
  exact ho.kept g2 (.inr (zK ho hb (by decide))), hr2.keptT g2 (fun j e => by have := Option.some.inj e; subst this; exact hob), h.lo, ⟨h.loB.1, by have := h.loB.2; omega⟩, zB (zB h.grown hg (fun j e => Nat.le_trans h.lo (h.ownN.lt j e).1)) g2 (fun j e => by have e : o2 = j := Option.some.inj e; have := h.lo; omega)⟩
theorem ExSt.pushF (h : ExSt B W0 W oN o2 X Y k l fs t hs sa sc mv sf cf sn cn) {m : Nat} (hm : fs.length = m) {b : Bool} {sf' : Option Addr} {cf' : Nat} (ho : W'.ownsRow o2 4 1 (.slice sf' (m + 1) cf') (m + 1) (bls fs ++ [.bool b])) (hg : W.grownBy W' (Value.slice sf m cf).ownBlock) {W2 : World} (hW2 : W2 = W'.setCell ⟨o2, 2, none⟩ (.slice sf' (m + 1) cf')) :
  ExSt B W0 W2 oN o2 X Y k l (fs ++ [b]) t hs sa sc mv sf' cf' sn cn := by
 subst hm
 have hb := zA h.box hg (zK h.ownF h.box (by decide))
 have hs2 := heap_setCell_same W' o2 2 _ _ (.slice sf' (fs.length + 1) cf') hb
 have g2 := zC W' ⟨o2, 2, none⟩ (.slice sf' (fs.length + 1) cf')
 rw [← hW2] at hs2 g2
 have hoff := h.num.offOwn h.ownF (by decide) (by decide)
 have hn1 := h.num.kept hg (fun j e => hoff j e)
 have hN1 := h.ownN.kept hg (by
  rcases hv : (Value.slice sn t.length cn).ownBlock with _ | j
  ·exact .inl rfl
  ·refine .inr fun e => ?_
   obtain ⟨cu, e', mm, hh, hne⟩ := yQ (e' := 4) h.ownN (by decide) j hv
   exact zK h.ownF hh (fun e2 => hne e2.symm) e.symm)
 have hr2 := h.rows.keptT hg (fun j e => yQ h.ownF (by decide) j e)
 have hob : xA W' 3 o2 := ⟨_, _, _, hb, by decide⟩
 have hz := hg.size
 have hz2 := g2.size
 have hbl : bls (fs ++ [b]) = bls fs ++ [.bool b] := by simp [bls]
 exact ⟨hn1.kept g2 (fun j e hf => by have := Option.some.inj e; subst this; exact hn1.off hb (by decide) (by decide) hf), h.sep, h.XY, fun j hj => by have := h.lt j hj; omega, by rw [hs2]; simp, by
  rw [List.length_append, hbl]
  exact ho.kept g2 (.inr (zK ho hb (by decide))), hN1.kept g2 (.inr (zK hN1 hb (by decide))), hr2.keptT g2 (fun j e => by have := Option.some.inj e; subst this; exact hob), h.lo, ⟨h.loB.1, by have := h.loB.2; omega⟩, zB (zB h.grown hg (fun j e => Nat.le_trans h.lo (h.ownF.lt j e).1)) g2 (fun j e => by have e : o2 = j := Option.some.inj e; have := h.lo; omega)⟩
end
end Go.Proofs.Ytgbfaggnnfoamaa
