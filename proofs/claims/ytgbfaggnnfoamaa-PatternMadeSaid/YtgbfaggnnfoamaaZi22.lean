/- Part 22 of the proof: Expl0, ExplP. -/
import Derived.Test.YtgbfaggnnfoamaaZi21
set_option linter.unusedVariables false
set_option linter.unusedSimpArgs false
namespace Go.Proofs.Ytgbfaggnnfoamaa
open Go.RowKit Go.Maps
theorem uO.obj {w : World} {b n : Nat} {l : List Int} (h : uO w b n l) : ∃ es clock, w.heap[b]? = some (.map es clock) := by
 obtain ⟨D, ⟨es, clock, hb, _⟩, _⟩ := h
 exact ⟨es, clock, hb⟩
theorem NumSt.off {base : Nat} {W : World} {o : Nat} {sa : Option Addr} {sc : Nat} {mv : Option Nat} {l : List Nat} (h : NumSt base W o sa sc mv l) {k e : Nat} {c : Array Value} {m : Nat × Nat} (hk : W.heap[k]? = some (.cells c e m)) (h1 : e ≠ 3) (h2 : e ≠ 122) : ¬ NF o sa mv k := by
 rintro (rfl | hn | hn)
 ·rw [h.box] at hk
  simp only [Option.some.injEq, Obj.cells.injEq] at hk
  exact h2 hk.2.1.symm
 ·rw [← zN sa l.length sc] at hn
  exact zM h.own hk (fun e => h1 e.symm) hn
 ·rcases h.map with ⟨e, _⟩ | ⟨mb, e, _, _, _, _, hm⟩
  ·rw [e] at hn; cases hn
  ·rw [e] at hn
   have := Option.some.inj hn
   subst this
   obtain ⟨es, cl, hm⟩ := hm.obj
   rw [hm] at hk; simp at hk
theorem NumSt.offOwn {base : Nat} {W : World} {o : Nat} {sa : Option Addr} {sc : Nat} {mv : Option Nat} {l : List Nat} (h : NumSt base W o sa sc mv l) {b e n sz : Nat} {v : Value} {xs : List Value} (hown : W.ownsRow b e sz v n xs) (h1 : e ≠ 3) (h2 : e ≠ 122) : ∀ k, v.ownBlock = some k → ¬ NF o sa mv k := fun k hk => by
 rcases hown.2 with ⟨rfl, _⟩ | ⟨g, cap, cur, rfl, _, hg, _⟩
 ·simp [Value.ownBlock] at hk
 ·have : g = k := by simpa [Value.ownBlock] using hk
  subst this
  exact h.off hg h1 h2
theorem tC.keptT {α : Type} {X : Nat → Prop} {e : TypeId} {f : α → List Value} {w w' : World} {hs : List Value} {ts : List α} {row : Option Nat} (h : tC X e f w hs ts) (hg : w.grownBy w' row) (hr : ∀ k, row = some k → xV w e k) : tC X e f w' hs ts :=
 ⟨h.1, fun i h1 h2 => ⟨((h.2 i h1 h2).1.kept hg (fun k hk => .inr (hr k hk))).mono hg.size, (h.2 i h1 h2).2⟩⟩
theorem oV.but {X F : Nat → Prop} {w w' : World} (hlt : ∀ k, X k → k < w.heap.size) (hg : GrownBut w w' F) (hF : ∀ k, F k → ¬ X k) : oV X w w' := fun k hk => hg.block k (hlt k hk) (fun hf => hF k hf hk)
theorem mM {w w' : World} {base e n sz : Nat} {v : Value} {xs : List Value} {F : Nat → Prop} (h : w.ownsRow base e sz v n xs) (hg : GrownBut w w' F) (hF : ∀ k, v.ownBlock = some k → ¬ F k) : w'.ownsRow base e sz v n xs := by
 refine ⟨h.1, ?_⟩
 rcases id h.2 with h2 | ⟨g, cap, cur, hv, hb, hgc, h3⟩
 ·exact .inl h2
 ·exact .inr ⟨g, cap, cur, hv, hb, hg.heap hgc (hF g (by rw [hv]; rfl)), h3⟩
structure ExSt (B : Nat) (W0 W : World) (oN o2 : Nat) (X Y : Nat → Prop) (k : Nat) (l : List Nat) (fs : List Bool) (t : List (List Int)) (hs : List Value) (sa : Option Addr) (sc : Nat) (mv : Option Nat) (sf : Option Addr) (cf : Nat) (sn : Option Addr) (cn : Nat) : Prop where
 num : NumSt B W oN sa sc mv l
 sep : ∀ j, NF oN sa mv j → ¬ Y j
 XY : ∀ j, X j → Y j
 lt : ∀ j, Y j → j < W.heap.size
 box : W.heap[o2]? = some (.cells #[.int .i64 (k : Int), .int .i64 0, .slice sf fs.length cf, .slice sn t.length cn] 49 (0, 0))
 ownF : W.ownsRow o2 4 1 (.slice sf fs.length cf) fs.length (bls fs)
 ownN : W.ownsRow o2 30 1 (.slice sn t.length cn) t.length hs
 rows : tC X 3 ints W hs t
 lo : W0.heap.size ≤ o2
 loB : W0.heap.size ≤ B ∧ B ≤ W.heap.size
 grown : W0.grownBy W none
section
variable {B : Nat} {W0 W W' : World} {oN o2 k : Nat} {X Y : Nat → Prop} {l : List Nat} {fs : List Bool} {t : List (List Int)} {hs : List Value} {sa : Option Addr} {sc : Nat} {mv : Option Nat} {sf : Option Addr} {cf : Nat} {sn : Option Addr} {cn : Nat}
theorem ExSt.grow (h : ExSt B W0 W oN o2 X Y k l fs t hs sa sc mv sf cf sn cn) (hg : W.grownBy W' none) : ExSt B W0 W' oN o2 X Y k l fs t hs sa sc mv sf cf sn cn where
 num := h.num.kept hg (by simp)
 sep := h.sep
 XY := h.XY
 lt := fun j hj => Nat.lt_of_lt_of_le (h.lt j hj) hg.size
 box := zA h.box hg (by simp)
 ownF := yB h.ownF hg
 ownN := yB h.ownN hg
 rows := h.rows.keptT hg (by simp)
 lo := h.lo
 loB := ⟨h.loB.1, Nat.le_trans h.loB.2 hg.size⟩
 grown := zB h.grown hg (by simp)
theorem ExSt.fresh (h : ExSt B W0 W oN o2 X Y k l fs t hs sa sc mv sf cf sn cn) (hg : W.grownBy W' none) {g : Nat} (h1 : W.heap.size ≤ g) (h2 : g < W'.heap.size) : ExSt B W0 W' oN o2 X (fun j => Y j ∨ j = g) k l fs t hs sa sc mv sf cf sn cn where
 num := h.num.kept hg (by simp)
 sep := fun j hj hy => by
  rcases hy with hy | hy
  ·exact h.sep j hj hy
  ·have := (h.num.ge j hj).2; omega
 XY := fun j hj => .inl (h.XY j hj)
 lt := fun j hj => by
  rcases hj with hj | hj
  ·exact Nat.lt_of_lt_of_le (h.lt j hj) hg.size
  ·omega
 box := zA h.box hg (by simp)
 ownF := yB h.ownF hg
 ownN := yB h.ownN hg
 rows := h.rows.keptT hg (by simp)
 lo := h.lo
 loB := ⟨h.loB.1, Nat.le_trans h.loB.2 hg.size⟩
 grown := zB h.grown hg (by simp)
theorem ExSt.num_step (h : ExSt B W0 W oN o2 X Y k l fs t hs sa sc mv sf cf sn cn) {l' : List Nat} {sa' : Option Addr} {sc' : Nat} {mv' : Option Nat} (hn : NumSt B W' oN sa' sc' mv' l') (hg : GrownBut W W' (NF oN sa mv)) (hm : ∀ k, NF oN sa' mv' k → NF oN sa mv k ∨ W.heap.size ≤ k) : ExSt B W0 W' oN o2 X Y k l' fs t hs sa' sc' mv' sf cf sn cn where
 num := hn
 sep := fun j hj hy => by
  rcases hm j hj with h1 | h1
  ·exact h.sep j h1 hy
  ·have := h.lt j hy; omega
 XY := h.XY
 lt := fun j hj => Nat.lt_of_lt_of_le (h.lt j hj) hg.size
 box := hg.heap h.box (h.num.off h.box (by decide) (by decide))
 ownF := mM h.ownF hg (h.num.offOwn h.ownF (by decide) (by decide))
 ownN := mM h.ownN hg (h.num.offOwn h.ownN (by decide) (by decide))
 rows := h.rows.kept (oV.but (fun k hk => h.lt k (h.XY k hk)) hg (fun k hf hx => h.sep k hf (h.XY k hx))) hg.size
 lo := h.lo
 loB := ⟨h.loB.1, Nat.le_trans h.loB.2 hg.size⟩
 grown := hg.grown h.grown (fun k hk => .inr (Nat.le_trans h.loB.1 (h.num.ge k hk).1))
theorem ExSt.put (h : ExSt B W0 W oN o2 X Y k l fs t hs sa sc mv sf cf sn cn) {g : Nat} {c : Array Value} {m : Nat × Nat} (hg : W.grownBy W' (some g)) (hc : W.heap[g]? = some (.cells c 3 m)) (hY : Y g) (hX : ¬ X g) (h0 : W0.heap.size ≤ g) : ExSt B W0 W' oN o2 X Y k l fs t hs sa sc mv sf cf sn cn where
 num := h.num.kept hg (fun j e hf => by have := Option.some.inj e; subst this; exact h.sep _ hf hY)
 sep := h.sep
 XY := h.XY
 lt := fun j hj => Nat.lt_of_lt_of_le (h.lt j hj) hg.size
 box := zA h.box hg (fun e => by
  have := Option.some.inj e
  subst this
  rw [h.box] at hc
  simp only [Option.some.injEq, Obj.cells.injEq] at hc
  exact absurd hc.2.1 (by decide))
 ownF := h.ownF.kept hg (.inr (zM h.ownF hc (by decide)))
 ownN := h.ownN.kept hg (.inr (zM h.ownN hc (by decide)))
 rows := h.rows.kept (fun j hj => hg.block j (h.lt j (h.XY j hj)) (fun e => by have := Option.some.inj e; subst this; exact hX hj)) hg.size
 lo := h.lo
 loB := ⟨h.loB.1, Nat.le_trans h.loB.2 hg.size⟩
 grown := zB h.grown hg (fun j e => by have := Option.some.inj e; omega)
theorem ExSt.pushN (h : ExSt B W0 W oN o2 X Y k l fs t hs sa sc mv sf cf sn cn) {m : Nat} (hm : t.length = m) {rv : Value} {row : List Int} {sn' : Option Addr} {cn' : Nat} (ho : W'.ownsRow o2 30 1 (.slice sn' (m + 1) cn') (m + 1) (hs ++ [rv])) (hg : W.grownBy W' (Value.slice sn m cn).ownBlock) (hrow : RowX (fun j => X j ∨ Y j) 3 W rv (ints row)) {W2 : World} (hW2 : W2 = W'.setCell ⟨o2, 3, none⟩ (.slice sn' (m + 1) cn')) :
  ExSt B W0 W2 oN o2 Y Y k l fs (t ++ [row]) (hs ++ [rv]) sa sc mv sf cf sn' cn' := by
 subst hm
 have hb := zA h.box hg (zM h.ownN h.box (by decide))
 have hs2 := heap_setCell_same W' o2 3 _ _ (.slice sn' (t.length + 1) cn') hb
 have g2 := zC W' ⟨o2, 3, none⟩ (.slice sn' (t.length + 1) cn')
 rw [← hW2] at hs2 g2
 have hoff := h.num.offOwn h.ownN (by decide) (by decide)
 have hn1 := h.num.kept hg (fun j e => hoff j e)
 have hF1 := h.ownF.kept hg (by
  rcases hv : (Value.slice sf fs.length cf).ownBlock with _ | j
  ·exact .inl rfl
  ·refine .inr fun e => ?_
   obtain ⟨cu, e', mm, hh, hne⟩ := xE (e' := 30) h.ownF (by decide) j hv
   exact zM h.ownN hh (fun e2 => hne e2.symm) e.symm)
 have hr1 : tC Y 3 ints W (hs ++ [rv]) (t ++ [row]) := (h.rows.mono h.XY).snoc (hrow.mono (fun j hj => hj.elim (h.XY j) id))
 have hr2 := hr1.keptT hg (fun j e => xE h.ownN (by decide) j e)
 have hob : xV W' 3 o2 := ⟨_, _, _, hb, by decide⟩
 have hz := hg.size
 have hz2 := g2.size
 exact ⟨hn1.kept g2 (fun j e hf => by have := Option.some.inj e; subst this; exact hn1.off hb (by decide) (by decide) hf), h.sep, fun _ hj => hj, fun j hj => by have := h.lt j hj; omega, by rw [hs2]; simp, hF1.kept g2 (.inr (zM hF1 hb (by decide))), by
  rw [List.length_append]
  exact ho.kept g2 (.inr (zM ho hb (by decide))), hr2.keptT g2 (fun j e => by have := Option.some.inj e; subst this; exact hob), h.lo, ⟨h.loB.1, by have := h.loB.2; omega⟩, zB (zB h.grown hg (fun j e => Nat.le_trans h.lo (h.ownN.lt j e).1)) g2 (fun j e => by have e : o2 = j := Option.some.inj e; have := h.lo; omega)⟩
theorem ExSt.pushF (h : ExSt B W0 W oN o2 X Y k l fs t hs sa sc mv sf cf sn cn) {m : Nat} (hm : fs.length = m) {b : Bool} {sf' : Option Addr} {cf' : Nat} (ho : W'.ownsRow o2 4 1 (.slice sf' (m + 1) cf') (m + 1) (bls fs ++ [.bool b])) (hg : W.grownBy W' (Value.slice sf m cf).ownBlock) {W2 : World} (hW2 : W2 = W'.setCell ⟨o2, 2, none⟩ (.slice sf' (m + 1) cf')) :
  ExSt B W0 W2 oN o2 X Y k l (fs ++ [b]) t hs sa sc mv sf' cf' sn cn := by
 subst hm
 have hb := zA h.box hg (zM h.ownF h.box (by decide))
 have hs2 := heap_setCell_same W' o2 2 _ _ (.slice sf' (fs.length + 1) cf') hb
 have g2 := zC W' ⟨o2, 2, none⟩ (.slice sf' (fs.length + 1) cf')
 rw [← hW2] at hs2 g2
 have hoff := h.num.offOwn h.ownF (by decide) (by decide)
 have hn1 := h.num.kept hg (fun j e => hoff j e)
 have hN1 := h.ownN.kept hg (by
  rcases hv : (Value.slice sn t.length cn).ownBlock with _ | j
  ·exact .inl rfl
  ·refine .inr fun e => ?_
   obtain ⟨cu, e', mm, hh, hne⟩ := xE (e' := 4) h.ownN (by decide) j hv
   exact zM h.ownF hh (fun e2 => hne e2.symm) e.symm)
 have hr2 := h.rows.keptT hg (fun j e => xE h.ownF (by decide) j e)
 have hob : xV W' 3 o2 := ⟨_, _, _, hb, by decide⟩
 have hz := hg.size
 have hz2 := g2.size
 have hbl : bls (fs ++ [b]) = bls fs ++ [.bool b] := by simp [bls]
 exact ⟨hn1.kept g2 (fun j e hf => by have := Option.some.inj e; subst this; exact hn1.off hb (by decide) (by decide) hf), h.sep, h.XY, fun j hj => by have := h.lt j hj; omega, by rw [hs2]; simp, by
  rw [List.length_append, hbl]
  exact ho.kept g2 (.inr (zM ho hb (by decide))), hN1.kept g2 (.inr (zM hN1 hb (by decide))), hr2.keptT g2 (fun j e => by have := Option.some.inj e; subst this; exact hob), h.lo, ⟨h.loB.1, by have := h.loB.2; omega⟩, zB (zB h.grown hg (fun j e => Nat.le_trans h.lo (h.ownF.lt j e).1)) g2 (fun j e => by have e : o2 = j := Option.some.inj e; have := h.lo; omega)⟩
end
end Go.Proofs.Ytgbfaggnnfoamaa
namespace Go.Proofs.Ytgbfaggnnfoamaa
def rK (d : DfaV) (k q x : Nat) : List Nat := (List.range x).map (fun a => (zP d k).idxOf (nx d q a)) ++ List.replicate (k - x) 0
theorem rJ {d : DfaV} {k q x : Nat} (h : x ≤ k) : (rK d k q x).length = k := by simp [rK]; omega
theorem exRow_set {d : DfaV} {k q x : Nat} (h : x < k) : (rK d k q x).set x ((zP d k).idxOf (nx d q x)) = rK d k q (x + 1) := by
 unfold rK
 rw [List.set_append_right _ _ (by simp), List.range_succ, List.map_append, show k - x = (k - (x + 1)) + 1 by omega, List.replicate_succ]
 simp
theorem exRow_zero (d : DfaV) (k q : Nat) : rK d k q 0 = List.replicate k 0 := by simp [rK]
theorem exRow_full {d : DfaV} {n k q : Nat} (hd : VD d n k) (hA : ∀ a, a < k → nx d q a ∈ zP d k) (hq : q < n) : zl (rK d k q k) = yU (zP d k) (d.next.getD q []) := by
 have hr := hd.row q hq
 refine List.ext_getElem (by rw [zl_len, rJ (Nat.le_refl k), yU, List.length_map, hr]) fun a h1 h2 => ?_
 have ha : a < k := by simpa [zl, rK] using h1
 have e2 : (yU (zP d k) (d.next.getD q []))[a] = uG (zP d k) ((d.next.getD q [])[a]'(by rw [hr]; exact ha)).toNat := by simp [yU]
 rw [e2]
 have e3 : ((d.next.getD q [])[a]'(by rw [hr]; exact ha)).toNat = nx d q a := by
  show _ = (ent d.next q a).toNat
  unfold ent
  rw [zI (show a < (d.next.getD q []).length by rw [hr]; exact ha)]
 rw [e3, uG, if_pos (hA a ha)]
 simp [zl, rK]
structure ExL (d : DfaV) (n k i : Nat) (l : List Nat) : Prop where
 acc : AccI d n k i l
 go : uI d k (n - i) i l = zP d k
theorem ExL.start {d : DfaV} {n k : Nat} (hd : VD d n k) : ExL d n k 0 [st0 d] := ⟨AccI.start hd, by rw [zP, hd.hn]; rfl⟩
theorem ExL.le {d : DfaV} {n k i : Nat} {l : List Nat} (h : ExL d n k i l) : l.length ≤ n := rV h.acc.nd h.acc.lt
theorem ExL.next {d : DfaV} {n k i : Nat} {l : List Nat} (hd : VD d n k) (h : ExL d n k i l) (hi : i < l.length) : ExL d n k (i + 1) (xO d l i k) := by
 refine ⟨h.acc.row hd hi, ?_⟩
 have := h.le
 have e : n - i = (n - (i + 1)) + 1 := by omega
 have g := h.go
 rw [e, uI, if_pos hi] at g
 exact g
theorem ExL.done {d : DfaV} {n k i : Nat} {l : List Nat} (h : ExL d n k i l) (hi : ¬ i < l.length) : l = zP d k := by
 have g := h.go
 rw [lA hi] at g
 exact g
theorem nK (d : DfaV) (k : Nat) : ∀ f i l, l <+: uI d k f i l
 | 0, _, l => List.prefix_refl l
 | f + 1, i, l => by
  rw [uI]
  split
  ·exact (wV d l i k).trans (nK d k f (i + 1) _)
  ·exact List.prefix_refl l
theorem pD (d : DfaV) (l : List Nat) (i : Nat) : ∀ {a b}, a ≤ b → xO d l i a <+: xO d l i b
 | a, 0, h => by rw [show a = 0 by omega]; exact List.prefix_refl _
 | a, b + 1, h => by
  by_cases e : a = b + 1
  ·rw [e]; exact List.prefix_refl _
  ·exact (pD d l i (by omega)).trans (sK _ _)
theorem ExL.pre {d : DfaV} {n k i : Nat} {l : List Nat} (hd : VD d n k) (h : ExL d n k i l) (hi : i < l.length) {x : Nat} (hx : x ≤ k) : xO d l i x <+: zP d k := by
 have h2 := (h.next hd hi).go
 exact (pD d l i hx).trans (h2 ▸ nK d k _ _ _)
theorem ExL.idx {d : DfaV} {n k i : Nat} {l : List Nat} (hd : VD d n k) (h : ExL d n k i l) (hi : i < l.length) {x : Nat} (hx : x < k) : (xO d l i (x + 1)).idxOf (nx d (l.getD i 0) x) = (zP d k).idxOf (nx d (l.getD i 0) x) :=
 (nF (h.pre hd hi (show x + 1 ≤ k by omega)) (vK.2 (.inr ⟨x, by omega, rfl⟩))).symm
theorem ExL.done_mem {d : DfaV} {n k i : Nat} {l : List Nat} (hd : VD d n k) (h : ExL d n k i l) (hi : i < l.length) {a : Nat} (ha : a < k) : nx d (l.getD i 0) a ∈ zP d k :=
 (h.pre hd hi (show a + 1 ≤ k by omega)).subset (vK.2 (.inr ⟨a, by omega, rfl⟩))
theorem ExL.rowLen {d : DfaV} {n k i : Nat} {l : List Nat} (hd : VD d n k) (h : ExL d n k i l) (hi : i < l.length) {x : Nat} (hx : x ≤ k) : (xO d l i x).length ≤ n := by
 have h1 := (pD d l i hx).length_le
 have h2 := (h.next hd hi).le
 omega
theorem sV {l m : List Nat} (h : l <+: m) {i : Nat} (hi : i ≤ l.length) : m.take i = l.take i := by
 obtain ⟨r, rfl⟩ := h
 rw [List.take_append_of_le_length hi]
end Go.Proofs.Ytgbfaggnnfoamaa
