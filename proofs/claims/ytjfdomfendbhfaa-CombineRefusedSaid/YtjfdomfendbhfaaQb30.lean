/- Part 30 of the proof: BoxN, BoxT, BoxR, ProdS. -/
import Derived.Test.YtjfdomfendbhfaaQb29
set_option linter.unusedVariables false
set_option linter.unusedSimpArgs false
namespace Go.Proofs.Ytjfdomfendbhfaa
open Go.RowKit
theorem lD {w : World} {p e : Nat} {x0 x1 x2 x3 x4 x5 : Value} (h : w.heap[p]? = some (.cells #[x0, x1, x2, x3, x4, x5] e (0, 0))) :
  w.cell? ⟨p, 0, none⟩ = some x0 ∧ w.cell? ⟨p, 1, none⟩ = some x1 ∧ w.cell? ⟨p, 2, none⟩ = some x2 ∧ w.cell? ⟨p, 3, none⟩ = some x3 ∧ w.cell? ⟨p, 4, none⟩ = some x4 ∧ w.cell? ⟨p, 5, none⟩ = some x5 := by
 have c0 := zO h 0 (by simp)
 have c1 := zO h 1 (by simp)
 have c2 := zO h 2 (by simp)
 have c3 := zO h 3 (by simp)
 have c4 := zO h 4 (by simp)
 have c5 := zO h 5 (by simp)
 exact ⟨by simpa using c0, by simpa using c1, by simpa using c2, by simpa using c3, by simpa using c4, by simpa using c5⟩
structure BoxS (B : Nat) (X : Nat → Prop) (o ty : Nat) (w0 wk : World) (rs : List RowS) (c : Array Value) (w : World) : Prop where
 mem : EMem X w rs
 typ : ∀ r ∈ rs, r.base = B ∧ r.e ≠ ty
 box : w.heap[o]? = some (.cells c ty (0, 0))
 off : ¬ X o
 size : w0.heap.size ≤ B
 old : w0.heap.size ≤ o
 base : B ≤ wk.heap.size
 grown : w0.grownBy w none
 kept : vA X wk w
 wk : wk.heap.size ≤ w.heap.size
section
variable {B : Nat} {X : Nat → Prop} {o ty : Nat} {w0 wk w : World} {rs : List RowS} {c : Array Value}
theorem BoxS.grow (h : BoxS B X o ty w0 wk rs c w) {w' : World} (hg : w.grownBy w' none) : BoxS B X o ty w0 wk rs c w' :=
 ⟨h.mem.grow hg, h.typ, zB h.box hg (by simp), h.off, h.size, h.old, h.base, zA h.grown hg (by simp), h.kept.trans (h.mem.keep hg), Nat.le_trans h.wk hg.size⟩
theorem BoxS.set (h : BoxS B X o ty w0 wk rs c w) (f : Nat) (u : Value) : BoxS B X o ty w0 wk rs (c.setIfInBounds f u) (w.setCell ⟨o, f, none⟩ u) := by
 have hs := heap_setCell_same w o f _ _ u h.box
 have hg := zD w ⟨o, f, none⟩ u
 exact ⟨h.mem.far hg (fun r hr => zS (h.mem.own r hr) h.box (h.typ r hr).2), h.typ, hs, h.off, h.size, h.old, h.base, zA h.grown hg (fun j e => by have e : o = j := Option.some.inj e; have := h.old; omega), h.kept.trans (vA.of_grown h.mem.lt hg (fun j e hx => by have e : o = j := Option.some.inj e; subst e; exact h.off hx)), Nat.le_trans h.wk hg.size⟩
theorem BoxS.own (h : BoxS B X o ty w0 wk rs c w) {r : RowS} (hr : r ∈ rs) : w.ownsRow r.base r.e r.sz r.v r.n r.xs := h.mem.own r hr
theorem BoxS.nil (h : BoxS B X o ty w0 wk rs c w) {e sz : Nat} (he : e ≠ ty) : BoxS B X o ty w0 wk (rs ++ [⟨B, e, .slice none 0 0, 0, [], sz⟩]) c w :=
 ⟨h.mem.add (zL _ none) (World.ownsRow_nil _ _ _ _) (fun j e => by simp [Value.ownBlock] at e), fun r hr => by
  rcases List.mem_append.1 hr with hr | hr
  ·exact h.typ r hr
  ·rw [List.mem_singleton] at hr; subst hr; exact ⟨rfl, he⟩, h.box, h.off, h.size, h.old, h.base, h.grown, h.kept, h.wk⟩
theorem BoxS.add (h : BoxS B X o ty w0 wk rs c w) {w' : World} (hg : w.grownBy w' none) {e sz n : Nat} {v : Value} {xs : List Value} (ho : w'.ownsRow w.heap.size e sz v n xs) (he : e ≠ ty) : BoxS B X o ty w0 wk (rs ++ [⟨B, e, v, n, xs, sz⟩]) c w' :=
 ⟨h.mem.add hg (xB ho (Nat.le_trans h.base h.wk)) (fun k hk => (ho.lt k hk).1), fun r hr => by
  rcases List.mem_append.1 hr with hr | hr
  ·exact h.typ r hr
  ·rw [List.mem_singleton] at hr; subst hr; exact ⟨rfl, he⟩, zB h.box hg (by simp), h.off, h.size, h.old, h.base, zA h.grown hg (by simp), h.kept.trans (h.mem.keep hg), Nat.le_trans h.wk hg.size⟩
theorem BoxS.push (h : BoxS B X o ty w0 wk rs c w) : Many w (ownSet rs) w rs [] [] ∧ B ≤ w.heap.size ∧ ∀ (wM : World) (j : Nat) (r : RowS) (v' : Value) (n' : Nat) (us : List Value), rs[j]? = some r → Many w (ownSet rs) wM (rs.set j ⟨r.base, r.e, v', n', r.xs ++ us, r.sz⟩) [] [] → BoxS B X o ty w0 wk (rs.set j ⟨r.base, r.e, v', n', r.xs ++ us, r.sz⟩) c wM := by
 refine ⟨h.mem.many _ (fun _ h => h), Nat.le_trans h.base h.wk, fun wM j r v' n' us hr hMM => ?_⟩
 have hf : ∀ k, ownSet rs k → B ≤ k ∧ k ≠ o ∧ ¬ X k := fun k hk => by
  obtain ⟨r, hr, hk⟩ := hk
  have hown := h.mem.own r hr
  refine ⟨by have := (hown.lt k hk).1; rw [(h.typ r hr).1] at this; exact this, fun e => ?_, h.mem.offX r hr k hk⟩
  subst e; exact zS hown h.box (h.typ r hr).2 hk
 refine ⟨h.mem.after hMM (fun k hk => (hf k hk).2.2), fun s hs => ?_, hMM.but.heap h.box (fun hj => (hf o hj).2.1 rfl), h.off, h.size, h.old, h.base, hMM.but.grown h.grown (fun k hk => .inr (Nat.le_trans h.size (hf k hk).1)), h.kept.trans (h.mem.keepMany hMM (fun k hk => (hf k hk).2.2)), Nat.le_trans h.wk hMM.but.size⟩
 rcases List.mem_or_eq_of_mem_set hs with hs | rfl
 ·exact h.typ s hs
 ·exact h.typ r (List.mem_of_getElem? hr)
theorem owns_setB {w : World} {b e n g cap i : Nat} {xs : List Value} (h : w.ownsRow b e 1 (.slice (some ⟨g, 0, none⟩) n cap) n xs) (hi : i < n) (u : Value) : (w.setCell ⟨g, i, none⟩ u).ownsRow b e 1 (.slice (some ⟨g, 0, none⟩) n cap) n (xs.set i u) := by
 refine ⟨by rw [List.length_set]; exact h.1, ?_⟩
 rcases h.2 with ⟨hv, _⟩ | ⟨g', cap', cur, hv, hb, hg, hnc, hcm, hcs, htake⟩
 ·simp at hv
 ·simp only [Value.slice.injEq, Option.some.injEq, Addr.mk.injEq] at hv
  obtain ⟨⟨rfl, _⟩, _, rfl⟩ := hv
  have hs := heap_setCell_same w g i _ _ u hg
  refine .inr ⟨g, cap, _, rfl, hb, hs, hnc, hcm, by simpa using hcs, ?_⟩
  rw [← htake]
  simp [List.take_set]
theorem BoxS.put (h : BoxS B X o ty w0 wk rs c w) {j g n cap b e i : Nat} {xs : List Value} (hr : rs[j]? = some ⟨b, e, .slice (some ⟨g, 0, none⟩) n cap, n, xs, 1⟩) (hi : i < n) (u : Value) : BoxS B X o ty w0 wk (rs.set j ⟨b, e, .slice (some ⟨g, 0, none⟩) n cap, n, xs.set i u, 1⟩) c (w.setCell ⟨g, i, none⟩ u) := by
 have hmem := List.mem_of_getElem? hr
 have ho := h.mem.own _ hmem
 have ht := h.typ _ hmem
 simp only at ho ht
 have hg := zD w ⟨g, i, none⟩ u
 have hgo : g ≠ o := fun e1 => by subst e1; exact zS ho h.box ht.2 rfl
 obtain ⟨hjl, hje⟩ := List.getElem?_eq_some_iff.1 hr
 have hap := List.pairwise_iff_getElem.1 h.mem.apart
 refine ⟨⟨fun r hr' => ?_, ?_, fun r hr' k hk => ?_, fun k hk => Nat.lt_of_lt_of_le (h.mem.lt k hk) hg.size⟩, fun r hr' => ?_, zB h.box hg (fun e1 => hgo (Option.some.inj e1)), h.off, h.size, h.old, h.base, zA h.grown hg (fun k e1 => ?_), h.kept.trans (vA.of_grown h.mem.lt hg (fun k e1 hx => ?_)), Nat.le_trans h.wk hg.size⟩
 ·obtain ⟨q, hq, rfl⟩ := List.getElem_of_mem hr'
  rw [List.getElem_set]
  have hq2 : q < rs.length := by simpa using hq
  split
  ·exact owns_setB ho hi u
  ·rename_i hne
   refine (h.mem.own _ (List.getElem_mem hq2)).kept hg (.inr (fun e1 => ?_))
   rcases Nat.lt_or_gt_of_ne hne with hlt | hlt
   ·exact hap j q hjl hq2 hlt g (by rw [hje]; rfl) e1
   ·exact hap q j hq2 hjl hlt g e1 (by rw [hje]; rfl)
 ·rw [List.pairwise_iff_getElem]
  intro p q hp hq hpq
  have hp2 : p < rs.length := by simpa using hp
  have hq2 : q < rs.length := by simpa using hq
  have := hap p q hp2 hq2 hpq
  rw [List.getElem_set, List.getElem_set]
  split <;> split
  ·omega
  ·rename_i e1 e2; subst e1; rw [hje] at this; exact this
  ·rename_i e1 e2; subst e2; rw [hje] at this; exact this
  ·exact this
 ·rcases List.mem_or_eq_of_mem_set hr' with hr' | rfl
  ·exact h.mem.offX r hr' k hk
  ·exact h.mem.offX _ hmem k hk
 ·rcases List.mem_or_eq_of_mem_set hr' with hr' | rfl
  ·exact h.typ r hr'
  ·exact ht
 ·have e1 : g = k := Option.some.inj e1
  have := (ho.lt g rfl).1
  have := h.size
  omega
 ·have e1 : g = k := Option.some.inj e1
  subst e1
  exact h.mem.offX _ hmem g rfl hx
end
end Go.Proofs.Ytjfdomfendbhfaa
namespace Go.Proofs.Ytjfdomfendbhfaa
open Go.RowKit Go.Maps
section
variable {B : Nat} {X : Nat → Prop} {o ty : Nat} {w0 wk w w' : World} {rs : List RowS} {c : Array Value}
theorem BoxS.rebase (h : BoxS B X o ty w0 wk rs c w) : BoxS B X o ty w0 w rs c w :=
 ⟨h.mem, h.typ, h.box, h.off, h.size, h.old, Nat.le_trans h.base h.wk, h.grown, vA.refl _ _, Nat.le_refl _⟩
theorem BoxS.fresh (h : BoxS B X o ty w0 wk rs c w) (hg : w.grownBy w' none) {Y : Nat → Prop} (hY : ∀ k, Y k → w.heap.size ≤ k ∧ k < w'.heap.size) : BoxS B (fun k => X k ∨ Y k) o ty w0 w' rs c w' :=
 ⟨h.mem.fresh hg hY, h.typ, zB h.box hg (by simp), fun e => by
  rcases e with e | e
  ·exact h.off e
  ·have := (hY o e).1
   have := zN h.box
   omega, h.size, h.old, Nat.le_trans (Nat.le_trans h.base h.wk) hg.size, zA h.grown hg (by simp), vA.refl _ _, Nat.le_refl _⟩
theorem BoxS.far (h : BoxS B X o ty w0 wk rs c w) {mb : Nat} (hg : w.grownBy w' (some mb)) (hr : ∀ r ∈ rs, r.v.ownBlock ≠ some mb) (hx : ¬ X mb) (ho : o ≠ mb) (hold : w0.heap.size ≤ mb) : BoxS B X o ty w0 wk rs c w' :=
 ⟨h.mem.far hg hr, h.typ, zB h.box hg (fun e => ho (Option.some.inj e).symm), h.off, h.size, h.old, h.base, zA h.grown hg (fun j e => by have e : mb = j := Option.some.inj e; omega), h.kept.trans (vA.of_grown h.mem.lt hg (fun j e hxx => by have e : mb = j := Option.some.inj e; subst e; exact hx hxx)), Nat.le_trans h.wk hg.size⟩
theorem BoxS.appAt (h : BoxS B X o ty w0 wk rs c w) {j : Nat} {r : RowS} (hr : rs[j]? = some r) {v' : Value} {n' : Nat} {us : List Value} (ho : w'.ownsRow r.base r.e r.sz v' n' (r.xs ++ us)) (hg : w.grownBy w' r.v.ownBlock) (hm : nM w w' r.v v') :
  BoxS B X o ty w0 wk (rs.set j ⟨r.base, r.e, v', n', r.xs ++ us, r.sz⟩) c w' := by
 have hmem := List.mem_of_getElem? hr
 have hown := h.mem.own _ hmem
 have ht := h.typ _ hmem
 have hlt : ∀ k, r.v.ownBlock = some k → B ≤ k ∧ k ≠ o ∧ ¬ X k := fun k hk => ⟨by have := (hown.lt k hk).1; rw [ht.1] at this; exact this, fun e => by subst e; exact zS hown h.box ht.2 hk, h.mem.offX r hmem k hk⟩
 refine ⟨h.mem.appAt hr ho hg hm, fun s hs => ?_, zB h.box hg (fun e => (hlt o e).2.1 rfl), h.off, h.size, h.old, h.base, zA h.grown hg (fun k e => Nat.le_trans h.size (hlt k e).1), h.kept.trans (vA.of_grown h.mem.lt hg (fun k e => (hlt k e).2.2)), Nat.le_trans h.wk hg.size⟩
 rcases List.mem_or_eq_of_mem_set hs with hs | rfl
 ·exact h.typ s hs
 ·exact ht
theorem BoxS.stand (h : BoxS B X o ty w0 wk rs c w) {mb : Nat} (hb : mb < w.heap.size) (hr : ∀ r ∈ rs, r.v.ownBlock ≠ some mb) (ho : o ≠ mb) : BoxS B (fun q => X q ∨ q = mb) o ty w0 w rs c w :=
  ⟨⟨h.mem.own, h.mem.apart, fun r hr' k hk hx => by
    rcases hx with hx | hx
    · exact h.mem.offX r hr' k hk hx
    · subst hx; exact hr r hr' hk, fun k hk => by
    rcases hk with hk | hk
    · exact h.mem.lt k hk
    · subst hk; exact hb⟩, h.typ, h.box, fun e => by
    rcases e with e | e
    · exact h.off e
    · exact ho e, h.size, h.old, Nat.le_trans h.base h.wk, h.grown, vA.refl _ _, Nat.le_refl _⟩
theorem BoxS.less {X' : Nat → Prop} (h : BoxS B X' o ty w0 wk rs c w) (hX : ∀ q, X q → X' q) : BoxS B X o ty w0 wk rs c w :=
 ⟨⟨h.mem.own, h.mem.apart, fun r hr k hk hx => h.mem.offX r hr k hk (hX k hx), fun k hk => h.mem.lt k (hX k hk)⟩, h.typ, h.box, fun e => h.off (hX o e), h.size, h.old, h.base, h.grown, fun k hk => h.kept k (hX k hk), h.wk⟩
end
theorem MapK.of_block {α : Type} {kt : TypeId} {V : α → Prop} {kv : α → Value} {w w' : World} {b n c : Nat} {f : α → Option Nat} (h : MapK kt V kv w b n c f) (hb : w'.heap[b]? = w.heap[b]?) : MapK kt V kv w' b n c f := by
 obtain ⟨D, ⟨es, clock, h1, h2⟩, h3⟩ := h
 exact ⟨D, ⟨es, clock, hb.trans h1, h2⟩, h3⟩
theorem wH {w : World} {base e sz n b : Nat} {v : Value} {xs : List Value} {es : Array (Value × Value)} {clock : Nat} (h : w.ownsRow base e sz v n xs) (hb : ∃ es clock, w.heap[b]? = some (.map es clock)) : v.ownBlock ≠ some b := by
 obtain ⟨es, clock, hb⟩ := hb
 rcases h.2 with ⟨h1, _⟩ | ⟨g, cap, cur, h1, _, hg, _⟩
 ·rw [h1]; simp [Value.ownBlock]
 ·rw [h1]
  intro e
  have e : g = b := by simpa [Value.ownBlock] using e
  subst e
  rw [hb] at hg; simp at hg
theorem RowX.of_new {X : Nat → Prop} {w : World} {g n c : Nat} {f : List Nat} (h : Arr w g 3 (nats f)) (hn : f.length = n) (hc : n ≤ c) (hm : c ≤ maxLen) (hX : X g) : RowX X 3 w (.slice (some ⟨g, 0, none⟩) n c) (nats f) := by
 subst hn
 have := h.rowT' (cap := c) (by rw [yF]; exact hc) hm
 rw [yF] at this
 exact ⟨this, fun k hk => by simp [Value.ownBlock] at hk; subst hk; exact hX⟩
def numE (els : List (List Nat)) (f : List Nat) : Option Nat := if f ∈ els then some (els.idxOf f) else none
theorem numE_snoc {els : List (List Nat)} {f : List Nat} (h : f ∉ els) : (fun q => if q = f then some els.length else numE els q) = numE (els ++ [f]) := by
 funext q
 unfold numE
 by_cases e : q = f
 ·subst e
  rw [if_pos rfl, if_pos (by simp), List.idxOf_append, if_neg h]; simp
 ·rw [if_neg e]
  by_cases hq : q ∈ els
  ·rw [if_pos hq, if_pos (by simp [hq]), List.idxOf_append, if_pos hq]
  ·rw [if_neg hq, if_neg (by simp [hq, e])]
theorem make1o {P : Program} {w : World} {ops : Array Oper} {rest : List Oper} {o : Oper} {a : Act} {Q : Exit → Act → World → Prop} (hgd : o.guard = none) (l c : Operand) (t : TypeId) (ho : o.op = .makeSlice t l c)
  {e : TypeId} {z : Value} {bytes : Nat} (E : ElemOk P t e z bytes) (hz : z.cells = #[z]) (kl kc : IntKind) (L C : Int) (n : Nat) (hl : a.eval l = .int kl L) (hc : a.eval c = .int kc C) (hL : L = (n : Int)) (hC : C = (n : Int)) (hb : bytes * n ≤ 281474976710656) (h63 : n ≤ maxLen)
  (h : ∀ w', w'.ownsRow w.heap.size e 1 (.slice (some ⟨w.heap.size, 0, none⟩) n n) n (List.replicate n z) → w.grownBy w' none → w.heap.size < w'.heap.size → wpList P ops Q rest (a.put o.dst (.slice (some ⟨w.heap.size, 0, none⟩) n n)) w') : wpList P ops Q (o :: rest) a w := by
 obtain ⟨i, hi, hz', hsz, hby⟩ := info_parts E.hi
 refine wpList_make_full w hgd l c t ho w.heap.size e i z 1 E.ht hi hz' hsz kl kc L C n hl hc hL hC (by rw [hby]; exact hb) h63 (Nat.le_refl _) ?_
 intro w' hown hg
 have ha := Arr.of_owns hown
 rw [pN hz] at hown
 exact h w' hown hg ha.lt
end Go.Proofs.Ytjfdomfendbhfaa
namespace Go.Proofs.Ytjfdomfendbhfaa
open Go.RowKit Go.Maps
section
variable {X : Nat → Prop} {B o ty : Nat} {w0 wk w w' : World} {rs : List RowS} {c : Array Value}
theorem BoxS.retire {r : RowS} (h : BoxS B X o ty w0 wk (rs ++ [r]) c w) : BoxS B (fun k => X k ∨ r.v.ownBlock = some k) o ty w0 w rs c w :=
 ⟨h.mem.retire, fun s hs => h.typ s (List.mem_append_left _ hs), h.box, fun e => by
  rcases e with e | e
  ·exact h.off e
  ·exact absurd e (zS (h.mem.own r (by simp)) h.box (h.typ r (by simp)).2), h.size, h.old, Nat.le_trans h.base h.wk, h.grown, vA.refl _ _, Nat.le_refl _⟩
end
end Go.Proofs.Ytjfdomfendbhfaa
namespace Go.Proofs.Ytjfdomfendbhfaa
open Go.RowKit Go.Maps
theorem numE_of_mem {els : List (List Nat)} {f : List Nat} (h : f ∈ els) : numE els f = some (els.idxOf f) := if_pos h
theorem numE_not {els : List (List Nat)} {f : List Nat} (h : f ∉ els) : numE els f = none := if_neg h
inductive ProdS (w0 : World) (B o mb k np : Nat) (pv : Value) (L : List (List Nat)) (nxl fr bl : List Nat) (m q : Nat) (tl : List RowS) (w : World) : Prop
 | mk (X : Nat → Prop) (hs : List Value) (sS sN sF sB : Option Addr) (cS cN cF cB u c : Nat)
  (hB : BoxS B X o 111 w0 w (⟨B, 34, .slice sS m cS, m, hs, 1⟩ :: ⟨B, 3, .slice sN q cN, q, nats nxl, 1⟩ :: ⟨B, 3, .slice sF m cF, m, nats fr, 1⟩ :: ⟨B, 3, .slice sB m cB, m, nats bl, 1⟩ :: tl) #[.int .i64 (k : Int), pv, .slice sS m cS, .slice sN q cN, .slice sF m cF, .slice sB m cB] w)
  (hE : vX X 3 nats w hs L) (hM : MapK 9 (Small np) (fun l => .string (txtT (kb l))) w mb u c (numE L)) (hmx : ¬ X mb) (hmb : w0.heap.size ≤ mb) (hu : u ≤ m)
  (hl : L.length = m ∧ nxl.length = q ∧ fr.length = m ∧ bl.length = m) (hhs : hs.length = m)
section
variable {w0 w w' : World} {B o mb k np m q : Nat} {pv : Value} {L : List (List Nat)} {nxl fr bl : List Nat} {tl : List RowS}
theorem ProdS.grow (h : ProdS w0 B o mb k np pv L nxl fr bl m q tl w) (hg : w.grownBy w' none) : ProdS w0 B o mb k np pv L nxl fr bl m q tl w' := by
 obtain ⟨X, hs, sS, sN, sF, sB, cS, cN, cF, cB, u, c, hB, hE, hM, hmx, hmb, hu, hl, hhs⟩ := h
 have hkp := hB.mem.keep hg
 exact ⟨X, hs, sS, sN, sF, sB, cS, cN, cF, cB, u, c, (hB.grow hg).rebase, hE.kept hkp hg.size, hM.kept hg (by simp), hmx, hmb, hu, hl, hhs⟩
theorem ProdS.facts (h : ProdS w0 B o mb k np pv L nxl fr bl m q tl w) : w0.grownBy w none ∧ B ≤ w.heap.size ∧ w0.heap.size ≤ B ∧ w0.heap.size ≤ o ∧ o < w.heap.size ∧ L.length = m ∧ nxl.length = q := by
 obtain ⟨X, hs, sS, sN, sF, sB, cS, cN, cF, cB, u, c, hB, hE, hM, hmx, hmb, hu, hl, hhs⟩ := h
 exact ⟨hB.grown, Nat.le_trans hB.base hB.wk, hB.size, hB.old, zN hB.box, hl.1, hl.2.1⟩
theorem ProdS.cells (h : ProdS w0 B o mb k np pv L nxl fr bl m q tl w) : ∃ sS cS sN cN sF cF sB cB, w.heap[o]? = some (.cells #[.int .i64 (k : Int), pv, .slice sS m cS, .slice sN q cN, .slice sF m cF, .slice sB m cB] 111 (0, 0)) ∧ (0 < m → ∃ sb, sS = some ⟨sb, 0, none⟩ ∧ m ≤ cS ∧ cS ≤ maxLen ∧ ∀ i, i < m → L.getD i [] ≠ [] → ∃ g off cap, w.cell? ⟨sb, i, none⟩ = some (.slice (some ⟨g, off, none⟩) (L.getD i []).length cap) ∧ (L.getD i []).length ≤ cap ∧ cap ≤ maxLen ∧ ∀ j, j < (L.getD i []).length → w.cell? ⟨g, off + j, none⟩ = some (.int .i64 (((L.getD i []).getD j 0 : Nat) : Int))) := by
 obtain ⟨X, hs, sS, sN, sF, sB, cS, cN, cF, cB, u, c, hB, hE, hM, hmx, hmb, hu, hl, hhs⟩ := h
 refine ⟨sS, cS, sN, cN, sF, cF, sB, cB, hB.box, fun h0 => ?_⟩
 have ho := hB.own (r := ⟨B, 34, .slice sS m cS, m, hs, 1⟩) (by simp)
 simp only at ho
 obtain ⟨sb, rfl, h1, h2, ha⟩ := xJ ho h0
 refine ⟨sb, rfl, h1, h2, fun i hi hne => ?_⟩
 have hi' : i < hs.length := by omega
 have hr := hE.2 i hi' (by omega)
 have hLi : L.getD i [] = L[i]'(by omega) := zI (by omega)
 have hpos : 0 < (nats (L[i]'(by omega))).length := by
  rw [yF, ← hLi]
  exact List.length_pos_iff.2 hne
 rw [hLi]
 obtain ⟨g, off, cap, e, hgB, hc1, hc2, hra⟩ := hr.1.row.some_ hpos
 rw [yF] at e hc1
 refine ⟨g, off, cap, ?_, hc1, hc2, fun j hj => hra.nat j hj⟩
 rw [ha.cell i hi', e]
theorem ProdS.map (h : ProdS w0 B o mb k np pv L nxl fr bl m q tl w) : ∃ u c, u ≤ m ∧ MapK 9 (Small np) (fun l => .string (txtT (kb l))) w mb u c (numE L) := by
 obtain ⟨X, hs, sS, sN, sF, sB, cS, cN, cF, cB, u, c, hB, hE, hM, hmx, hmb, hu, hl, hhs⟩ := h
 exact ⟨u, c, hu, hM⟩
theorem ProdS.addRow (h : ProdS w0 B o mb k np pv L nxl fr bl m q [] w) (hg : w.grownBy w' none) {e sz n : Nat} {v : Value} {xs : List Value} (ho : w'.ownsRow w.heap.size e sz v n xs) (he : e ≠ 111) :
  ProdS w0 B o mb k np pv L nxl fr bl m q (⟨B, e, v, n, xs, sz⟩ :: []) w' := by
 obtain ⟨X, hs, sS, sN, sF, sB, cS, cN, cF, cB, u, c, hB, hE, hM, hmx, hmb, hu, hl, hhs⟩ := h
 have hkp := hB.mem.keep hg
 exact ⟨X, hs, sS, sN, sF, sB, cS, cN, cF, cB, u, c, (hB.add hg ho he).rebase, hE.kept hkp hg.size, hM.kept hg (by simp), hmx, hmb, hu, hl, hhs⟩
theorem ProdS.arr {e rb n cap : Nat} {xs : List Value} (h : ProdS w0 B o mb k np pv L nxl fr bl m q (⟨B, e, .slice (some ⟨rb, 0, none⟩) n cap, n, xs, 1⟩ :: []) w) : Arr w rb e xs := by
 obtain ⟨X, hs, sS, sN, sF, sB, cS, cN, cF, cB, u, c, hB, hE, hM, hmx, hmb, hu, hl, hhs⟩ := h
 exact Arr.of_owns (hB.own (r := ⟨B, e, .slice (some ⟨rb, 0, none⟩) n cap, n, xs, 1⟩) (by simp))
theorem ProdS.put {e rb n cap i : Nat} {xs : List Value} (h : ProdS w0 B o mb k np pv L nxl fr bl m q (⟨B, e, .slice (some ⟨rb, 0, none⟩) n cap, n, xs, 1⟩ :: []) w) (hi : i < n) (y : Value) :
  ProdS w0 B o mb k np pv L nxl fr bl m q (⟨B, e, .slice (some ⟨rb, 0, none⟩) n cap, n, xs.set i y, 1⟩ :: []) (w.setCell ⟨rb, i, none⟩ y) := by
 obtain ⟨X, hs, sS, sN, sF, sB, cS, cN, cF, cB, u, c, hB, hE, hM, hmx, hmb, hu, hl, hhs⟩ := h
 have hP := hB.put (j := 4) rfl hi y
 have hkp := hP.kept
 have hsz := hP.wk
 have hne : rb ≠ mb := fun e1 => by
  subst e1
  exact wH (es := #[]) (clock := 0) (hB.own (r := ⟨B, e, .slice (some ⟨rb, 0, none⟩) n cap, n, xs, 1⟩) (by simp)) hM.obj rfl
 exact ⟨X, hs, sS, sN, sF, sB, cS, cN, cF, cB, u, c, hP.rebase, hE.kept hkp hsz, hM.kept (zD w ⟨rb, i, none⟩ y) (fun e => hne (Option.some.inj e)), hmx, hmb, hu, hl, hhs⟩
end
end Go.Proofs.Ytjfdomfendbhfaa
