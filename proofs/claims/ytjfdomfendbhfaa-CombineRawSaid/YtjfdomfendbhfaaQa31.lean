/- Part 31 of the proof: BoxT, BoxR, ProdS, ProdS2, ProdS3. -/
import Derived.Test.YtjfdomfendbhfaaQa30
set_option linter.unusedVariables false
set_option linter.unusedSimpArgs false
namespace Go.Proofs.Ytjfdomfendbhfaa
open Go.RowKit Go.Maps
section
variable {B : Nat} {X : Nat → Prop} {o ty : Nat} {w0 wk w w' : World} {rs : List RowS} {c : Array Value}
theorem BoxS.rebase (h : BoxS B X o ty w0 wk rs c w) : BoxS B X o ty w0 w rs c w :=
 ⟨h.mem, h.typ, h.box, h.off, h.size, h.old, Nat.le_trans h.base h.wk, h.grown, xX.refl _ _, Nat.le_refl _⟩
theorem BoxS.fresh (h : BoxS B X o ty w0 wk rs c w) (hg : w.grownBy w' none) {Y : Nat → Prop} (hY : ∀ k, Y k → w.heap.size ≤ k ∧ k < w'.heap.size) : BoxS B (fun k => X k ∨ Y k) o ty w0 w' rs c w' :=
 ⟨h.mem.fresh hg hY, h.typ, zB h.box hg (by simp), fun e => by
  rcases e with e | e
  ·exact h.off e
  ·have := (hY o e).1
   have := zJ h.box
   omega, h.size, h.old, Nat.le_trans (Nat.le_trans h.base h.wk) hg.size, zA h.grown hg (by simp), xX.refl _ _, Nat.le_refl _⟩
theorem BoxS.far (h : BoxS B X o ty w0 wk rs c w) {mb : Nat} (hg : w.grownBy w' (some mb)) (hr : ∀ r ∈ rs, r.v.ownBlock ≠ some mb) (hx : ¬ X mb) (ho : o ≠ mb) (hold : w0.heap.size ≤ mb) : BoxS B X o ty w0 wk rs c w' :=
 ⟨h.mem.far hg hr, h.typ, zB h.box hg (fun e => ho (Option.some.inj e).symm), h.off, h.size, h.old, h.base, zA h.grown hg (fun j e => by have e : mb = j := Option.some.inj e; omega), h.kept.trans (xX.of_grown h.mem.lt hg (fun j e hxx => by have e : mb = j := Option.some.inj e; subst e; exact hx hxx)), Nat.le_trans h.wk hg.size⟩
theorem BoxS.appAt (h : BoxS B X o ty w0 wk rs c w) {j : Nat} {r : RowS} (hr : rs[j]? = some r) {v' : Value} {n' : Nat} {us : List Value} (ho : w'.ownsRow r.base r.e r.sz v' n' (r.xs ++ us)) (hg : w.grownBy w' r.v.ownBlock) (hm : oD w w' r.v v') :
  BoxS B X o ty w0 wk (rs.set j ⟨r.base, r.e, v', n', r.xs ++ us, r.sz⟩) c w' := by
 have hmem := List.mem_of_getElem? hr
 have hown := h.mem.own _ hmem
 have ht := h.typ _ hmem
 have hlt : ∀ k, r.v.ownBlock = some k → B ≤ k ∧ k ≠ o ∧ ¬ X k := fun k hk => ⟨by have := (hown.lt k hk).1; rw [ht.1] at this; exact this, fun e => by subst e; exact zR hown h.box ht.2 hk, h.mem.offX r hmem k hk⟩
 refine ⟨h.mem.appAt hr ho hg hm, fun s hs => ?_, zB h.box hg (fun e => (hlt o e).2.1 rfl), h.off, h.size, h.old, h.base, zA h.grown hg (fun k e => Nat.le_trans h.size (hlt k e).1), h.kept.trans (xX.of_grown h.mem.lt hg (fun k e => (hlt k e).2.2)), Nat.le_trans h.wk hg.size⟩
 rcases List.mem_or_eq_of_mem_set hs with hs | rfl
 ·exact h.typ s hs
 ·exact ht
theorem BoxS.stand (h : BoxS B X o ty w0 wk rs c w) {mb : Nat} (hb : mb < w.heap.size) (hr : ∀ r ∈ rs, r.v.ownBlock ≠ some mb) (ho : o ≠ mb) : BoxS B (fun q => X q ∨ q = mb) o ty w0 w rs c w :=
  ⟨⟨h.mem.own, h.mem.apart, fun r hr' k hk hx => by
    rcases hx with hx | hx
    · exact h.mem.offX r hr' k hk hx
    · subst hx; exact hr r hr' hk, fun k hk => by
    rcases hk with hk | hk
    · exact h.mem.lt k hk
    · subst hk; exact hb⟩, h.typ, h.box, fun e => by
    rcases e with e | e
    · exact h.off e
    · exact ho e, h.size, h.old, Nat.le_trans h.base h.wk, h.grown, xX.refl _ _, Nat.le_refl _⟩
theorem BoxS.less {X' : Nat → Prop} (h : BoxS B X' o ty w0 wk rs c w) (hX : ∀ q, X q → X' q) : BoxS B X o ty w0 wk rs c w :=
 ⟨⟨h.mem.own, h.mem.apart, fun r hr k hk hx => h.mem.offX r hr k hk (hX k hx), fun k hk => h.mem.lt k (hX k hk)⟩, h.typ, h.box, fun e => h.off (hX o e), h.size, h.old, h.base, h.grown, fun k hk => h.kept k (hX k hk), h.wk⟩
end
theorem MapK.of_block {α : Type} {kt : TypeId} {V : α → Prop} {kv : α → Value} {w w' : World} {b n c : Nat} {f : α → Option Nat} (h : MapK kt V kv w b n c f) (hb : w'.heap[b]? = w.heap[b]?) : MapK kt V kv w' b n c f := by
 obtain ⟨D, ⟨es, clock, h1, h2⟩, h3⟩ := h
 exact ⟨D, ⟨es, clock, hb.trans h1, h2⟩, h3⟩
theorem xN {w : World} {base e sz n b : Nat} {v : Value} {xs : List Value} {es : Array (Value × Value)} {clock : Nat} (h : w.ownsRow base e sz v n xs) (hb : ∃ es clock, w.heap[b]? = some (.map es clock)) : v.ownBlock ≠ some b := by
 obtain ⟨es, clock, hb⟩ := hb
 rcases h.2 with ⟨h1, _⟩ | ⟨g, cap, cur, h1, _, hg, _⟩
 ·rw [h1]; simp [Value.ownBlock]
 ·rw [h1]
  intro e
  have e : g = b := by simpa [Value.ownBlock] using e
  subst e
  rw [hb] at hg; simp at hg
theorem RowX.of_new {X : Nat → Prop} {w : World} {g n c : Nat} {f : List Nat} (h : Arr w g 3 (nats f)) (hn : f.length = n) (hc : n ≤ c) (hm : c ≤ maxLen) (hX : X g) : RowX X 3 w (.slice (some ⟨g, 0, none⟩) n c) (nats f) := by
 subst hn
 have := h.rowT' (cap := c) (by rw [zZ]; exact hc) hm
 rw [zZ] at this
 exact ⟨this, fun k hk => by simp [Value.ownBlock] at hk; subst hk; exact hX⟩
def numE (els : List (List Nat)) (f : List Nat) : Option Nat := if f ∈ els then some (els.idxOf f) else none
theorem numE_snoc {els : List (List Nat)} {f : List Nat} (h : f ∉ els) : (fun q => if q = f then some els.length else numE els q) = numE (els ++ [f]) := by
 funext q
 unfold numE
 by_cases e : q = f
 ·subst e
  rw [if_pos rfl, if_pos (by simp), List.idxOf_append, if_neg h]; simp
 ·rw [if_neg e]
  by_cases hq : q ∈ els
  ·rw [if_pos hq, if_pos (by simp [hq]), List.idxOf_append, if_pos hq]
  ·rw [if_neg hq, if_neg (by simp [hq, e])]
theorem make1o {P : Program} {w : World} {ops : Array Oper} {rest : List Oper} {o : Oper} {a : Act} {Q : Exit → Act → World → Prop} (hgd : o.guard = none) (l c : Operand) (t : TypeId) (ho : o.op = .makeSlice t l c)
  {e : TypeId} {z : Value} {bytes : Nat} (E : ElemOk P t e z bytes) (hz : z.cells = #[z]) (kl kc : IntKind) (L C : Int) (n : Nat) (hl : a.eval l = .int kl L) (hc : a.eval c = .int kc C) (hL : L = (n : Int)) (hC : C = (n : Int)) (hb : bytes * n ≤ 281474976710656) (h63 : n ≤ maxLen)
  (h : ∀ w', w'.ownsRow w.heap.size e 1 (.slice (some ⟨w.heap.size, 0, none⟩) n n) n (List.replicate n z) → w.grownBy w' none → w.heap.size < w'.heap.size → wpList P ops Q rest (a.put o.dst (.slice (some ⟨w.heap.size, 0, none⟩) n n)) w') : wpList P ops Q (o :: rest) a w := by
 obtain ⟨i, hi, hz', hsz, hby⟩ := info_parts E.hi
 refine wpList_make_full w hgd l c t ho w.heap.size e i z 1 E.ht hi hz' hsz kl kc L C n hl hc hL hC (by rw [hby]; exact hb) h63 (Nat.le_refl _) ?_
 intro w' hown hg
 have ha := Arr.of_owns hown
 rw [pT hz] at hown
 exact h w' hown hg ha.lt
end Go.Proofs.Ytjfdomfendbhfaa
namespace Go.Proofs.Ytjfdomfendbhfaa
open Go.RowKit Go.Maps
section
variable {X : Nat → Prop} {B o ty : Nat} {w0 wk w w' : World} {rs : List RowS} {c : Array Value}
theorem BoxS.retire {r : RowS} (h : BoxS B X o ty w0 wk (rs ++ [r]) c w) : BoxS B (fun k => X k ∨ r.v.ownBlock = some k) o ty w0 w rs c w :=
 ⟨h.mem.retire, fun s hs => h.typ s (List.mem_append_left _ hs), h.box, fun e => by
  rcases e with e | e
  ·exact h.off e
  ·exact absurd e (zR (h.mem.own r (by simp)) h.box (h.typ r (by simp)).2), h.size, h.old, Nat.le_trans h.base h.wk, h.grown, xX.refl _ _, Nat.le_refl _⟩
end
end Go.Proofs.Ytjfdomfendbhfaa
namespace Go.Proofs.Ytjfdomfendbhfaa
open Go.RowKit Go.Maps
theorem numE_of_mem {els : List (List Nat)} {f : List Nat} (h : f ∈ els) : numE els f = some (els.idxOf f) := if_pos h
theorem numE_not {els : List (List Nat)} {f : List Nat} (h : f ∉ els) : numE els f = none := if_neg h
inductive ProdS (w0 : World) (B o mb k np : Nat) (pv : Value) (L : List (List Nat)) (nxl fr bl : List Nat) (m q : Nat) (tl : List RowS) (w : World) : Prop
 | mk (X : Nat → Prop) (hs : List Value) (sS sN sF sB : Option Addr) (cS cN cF cB u c : Nat)
  (hB : BoxS B X o 111 w0 w (⟨B, 34, .slice sS m cS, m, hs, 1⟩ :: ⟨B, 3, .slice sN q cN, q, nats nxl, 1⟩ :: ⟨B, 3, .slice sF m cF, m, nats fr, 1⟩ :: ⟨B, 3, .slice sB m cB, m, nats bl, 1⟩ :: tl) #[.int .i64 (k : Int), pv, .slice sS m cS, .slice sN q cN, .slice sF m cF, .slice sB m cB] w)
  (hE : wP X 3 nats w hs L) (hM : MapK 9 (kK np) (fun l => .string (txtT (kb l))) w mb u c (numE L)) (hmx : ¬ X mb) (hmb : w0.heap.size ≤ mb) (hu : u ≤ m)
  (hl : L.length = m ∧ nxl.length = q ∧ fr.length = m ∧ bl.length = m) (hhs : hs.length = m)
section
variable {w0 w w' : World} {B o mb k np m q : Nat} {pv : Value} {L : List (List Nat)} {nxl fr bl : List Nat} {tl : List RowS}
theorem ProdS.grow (h : ProdS w0 B o mb k np pv L nxl fr bl m q tl w) (hg : w.grownBy w' none) : ProdS w0 B o mb k np pv L nxl fr bl m q tl w' := by
 obtain ⟨X, hs, sS, sN, sF, sB, cS, cN, cF, cB, u, c, hB, hE, hM, hmx, hmb, hu, hl, hhs⟩ := h
 have hkp := hB.mem.keep hg
 exact ⟨X, hs, sS, sN, sF, sB, cS, cN, cF, cB, u, c, (hB.grow hg).rebase, hE.kept hkp hg.size, hM.kept hg (by simp), hmx, hmb, hu, hl, hhs⟩
theorem ProdS.facts (h : ProdS w0 B o mb k np pv L nxl fr bl m q tl w) : w0.grownBy w none ∧ B ≤ w.heap.size ∧ w0.heap.size ≤ B ∧ w0.heap.size ≤ o ∧ o < w.heap.size ∧ L.length = m ∧ nxl.length = q := by
 obtain ⟨X, hs, sS, sN, sF, sB, cS, cN, cF, cB, u, c, hB, hE, hM, hmx, hmb, hu, hl, hhs⟩ := h
 exact ⟨hB.grown, Nat.le_trans hB.base hB.wk, hB.size, hB.old, zJ hB.box, hl.1, hl.2.1⟩
theorem ProdS.cells (h : ProdS w0 B o mb k np pv L nxl fr bl m q tl w) : ∃ sS cS sN cN sF cF sB cB, w.heap[o]? = some (.cells #[.int .i64 (k : Int), pv, .slice sS m cS, .slice sN q cN, .slice sF m cF, .slice sB m cB] 111 (0, 0)) ∧ (0 < m → ∃ sb, sS = some ⟨sb, 0, none⟩ ∧ m ≤ cS ∧ cS ≤ maxLen ∧ ∀ i, i < m → L.getD i [] ≠ [] → ∃ g off cap, w.cell? ⟨sb, i, none⟩ = some (.slice (some ⟨g, off, none⟩) (L.getD i []).length cap) ∧ (L.getD i []).length ≤ cap ∧ cap ≤ maxLen ∧ ∀ j, j < (L.getD i []).length → w.cell? ⟨g, off + j, none⟩ = some (.int .i64 (((L.getD i []).getD j 0 : Nat) : Int))) := by
 obtain ⟨X, hs, sS, sN, sF, sB, cS, cN, cF, cB, u, c, hB, hE, hM, hmx, hmb, hu, hl, hhs⟩ := h
 refine ⟨sS, cS, sN, cN, sF, cF, sB, cB, hB.box, fun h0 => ?_⟩
 have ho := hB.own (r := ⟨B, 34, .slice sS m cS, m, hs, 1⟩) (by simp)
 simp only at ho
 obtain ⟨sb, rfl, h1, h2, ha⟩ := vS ho h0
 refine ⟨sb, rfl, h1, h2, fun i hi hne => ?_⟩
 have hi' : i < hs.length := by omega
 have hr := hE.2 i hi' (by omega)
 have hLi : L.getD i [] = L[i]'(by omega) := zF (by omega)
 have hpos : 0 < (nats (L[i]'(by omega))).length := by
  rw [zZ, ← hLi]
  exact List.length_pos_iff.2 hne
 rw [hLi]
 obtain ⟨g, off, cap, e, hgB, hc1, hc2, hra⟩ := hr.1.row.some_ hpos
 rw [zZ] at e hc1
 refine ⟨g, off, cap, ?_, hc1, hc2, fun j hj => hra.nat j hj⟩
 rw [ha.cell i hi', e]
theorem ProdS.map (h : ProdS w0 B o mb k np pv L nxl fr bl m q tl w) : ∃ u c, u ≤ m ∧ MapK 9 (kK np) (fun l => .string (txtT (kb l))) w mb u c (numE L) := by
 obtain ⟨X, hs, sS, sN, sF, sB, cS, cN, cF, cB, u, c, hB, hE, hM, hmx, hmb, hu, hl, hhs⟩ := h
 exact ⟨u, c, hu, hM⟩
theorem ProdS.addRow (h : ProdS w0 B o mb k np pv L nxl fr bl m q [] w) (hg : w.grownBy w' none) {e sz n : Nat} {v : Value} {xs : List Value} (ho : w'.ownsRow w.heap.size e sz v n xs) (he : e ≠ 111) :
  ProdS w0 B o mb k np pv L nxl fr bl m q (⟨B, e, v, n, xs, sz⟩ :: []) w' := by
 obtain ⟨X, hs, sS, sN, sF, sB, cS, cN, cF, cB, u, c, hB, hE, hM, hmx, hmb, hu, hl, hhs⟩ := h
 have hkp := hB.mem.keep hg
 exact ⟨X, hs, sS, sN, sF, sB, cS, cN, cF, cB, u, c, (hB.add hg ho he).rebase, hE.kept hkp hg.size, hM.kept hg (by simp), hmx, hmb, hu, hl, hhs⟩
theorem ProdS.arr {e rb n cap : Nat} {xs : List Value} (h : ProdS w0 B o mb k np pv L nxl fr bl m q (⟨B, e, .slice (some ⟨rb, 0, none⟩) n cap, n, xs, 1⟩ :: []) w) : Arr w rb e xs := by
 obtain ⟨X, hs, sS, sN, sF, sB, cS, cN, cF, cB, u, c, hB, hE, hM, hmx, hmb, hu, hl, hhs⟩ := h
 exact Arr.of_owns (hB.own (r := ⟨B, e, .slice (some ⟨rb, 0, none⟩) n cap, n, xs, 1⟩) (by simp))
theorem ProdS.put {e rb n cap i : Nat} {xs : List Value} (h : ProdS w0 B o mb k np pv L nxl fr bl m q (⟨B, e, .slice (some ⟨rb, 0, none⟩) n cap, n, xs, 1⟩ :: []) w) (hi : i < n) (y : Value) :
  ProdS w0 B o mb k np pv L nxl fr bl m q (⟨B, e, .slice (some ⟨rb, 0, none⟩) n cap, n, xs.set i y, 1⟩ :: []) (w.setCell ⟨rb, i, none⟩ y) := by
 obtain ⟨X, hs, sS, sN, sF, sB, cS, cN, cF, cB, u, c, hB, hE, hM, hmx, hmb, hu, hl, hhs⟩ := h
 have hP := hB.put (j := 4) rfl hi y
 have hkp := hP.kept
 have hsz := hP.wk
 have hne : rb ≠ mb := fun e1 => by
  subst e1
  exact xN (es := #[]) (clock := 0) (hB.own (r := ⟨B, e, .slice (some ⟨rb, 0, none⟩) n cap, n, xs, 1⟩) (by simp)) hM.obj rfl
 exact ⟨X, hs, sS, sN, sF, sB, cS, cN, cF, cB, u, c, hP.rebase, hE.kept hkp hsz, hM.kept (zC w ⟨rb, i, none⟩ y) (fun e => hne (Option.some.inj e)), hmx, hmb, hu, hl, hhs⟩
end
end Go.Proofs.Ytjfdomfendbhfaa
namespace Go.Proofs.Ytjfdomfendbhfaa
open Go.RowKit Go.Maps
theorem DsO.dfa {B : Nat} {w : World} {g off k : Nat} {ds : List DfaV} (h : DsO B w g off ds) (hok : OkT ds k) {i : Nat} (hi : i < ds.length) :
  ∃ n fb fo fc b of2 cap RB RO RC, VD (ds.getD i dN) n k ∧ n ≤ 512 ∧ w.cell? ⟨g, off + i * 4, none⟩ = some (.int .i64 (k : Int)) ∧ w.cell? ⟨g, off + i * 4 + 1, none⟩ = some (.int .i64 ((st0 (ds.getD i dN) : Nat) : Int)) ∧ w.cell? ⟨g, off + i * 4 + 2, none⟩ = some (.slice (some ⟨fb, fo, none⟩) n fc) ∧ w.cell? ⟨g, off + i * 4 + 3, none⟩ = some (.slice (some ⟨b, of2, none⟩) n cap) ∧ DAt B w (ds.getD i dN) n k fb fo fc b of2 cap RB RO RC := by
 obtain ⟨n, hv, h5⟩ := hok i hi
 obtain ⟨f, nx, h1, h2, h3, h4, hd⟩ := h.at_ i hi
 obtain ⟨fb, fo, fc, b, of2, cap, RB, RO, RC, e, hat⟩ := hd.at hv
 rw [dAgg] at e
 simp only [Value.agg.injEq] at e
 have e := congrArg Array.toList e
 simp only [List.cons.injEq, and_true] at e
 obtain ⟨e1, e2, e3, e4⟩ := e
 exact ⟨n, fb, fo, fc, b, of2, cap, RB, RO, RC, hv, h5, by rw [h1, e1], by rw [h2, e2], by rw [h3, e3], by rw [h4, e4], hat⟩
theorem arrRowX {X : Nat → Prop} {w : World} {g n : Nat} {f : List Nat} (h : Arr w g 3 (nats f)) (hn : f.length = n) (hm : n ≤ maxLen) (hX : X g) : RowX X 3 w (.slice (some ⟨g, 0, none⟩) n n) (nats f) := RowX.of_new h hn (Nat.le_refl _) hm hX
theorem prod_start {w wr : World} {G np k : Nat} {pv : Value} {x0 : List Nat} (hg : w.grownBy wr none) (hG : Arr wr G 3 (nats x0)) (hGl : w.heap.size ≤ G) (hx : x0.length = np) (hnp : np ≤ 4096) {w5 : World}
  (hw5 : w5 = (((wr.alloc (.cells #[.slice (some ⟨G, 0, none⟩) np np] 34)).alloc (.cells #[.int .i64 0] 3)).alloc (.cells #[.int .i64 0] 3)).alloc (.cells #[.int .i64 (k : Int), pv, .slice (some ⟨wr.heap.size, 0, none⟩) 1 1, .slice none 0 0, .slice (some ⟨wr.heap.size + 1, 0, none⟩) 1 1, .slice (some ⟨wr.heap.size + 1 + 1, 0, none⟩) 1 1] 111)) :
  BoxS w.heap.size (fun q => q = G) (wr.heap.size + 1 + 1 + 1) 111 w w5 (⟨w.heap.size, 34, .slice (some ⟨wr.heap.size, 0, none⟩) 1 1, 1, [.slice (some ⟨G, 0, none⟩) np np], 1⟩ :: ⟨w.heap.size, 3, .slice none 0 0, 0, nats [], 1⟩ :: ⟨w.heap.size, 3, .slice (some ⟨wr.heap.size + 1, 0, none⟩) 1 1, 1, nats [0], 1⟩ :: ⟨w.heap.size, 3, .slice (some ⟨wr.heap.size + 1 + 1, 0, none⟩) 1 1, 1, nats [0], 1⟩ :: []) #[.int .i64 (k : Int), pv, .slice (some ⟨wr.heap.size, 0, none⟩) 1 1, .slice none 0 0, .slice (some ⟨wr.heap.size + 1, 0, none⟩) 1 1, .slice (some ⟨wr.heap.size + 1 + 1, 0, none⟩) 1 1] w5
  ∧ wP (fun q => q = G) 3 nats w5 [.slice (some ⟨G, 0, none⟩) np np] [x0] ∧ w.grownBy w5 none := by
 obtain ⟨w2, hw2⟩ : ∃ w2, w2 = wr.alloc (.cells #[.slice (some ⟨G, 0, none⟩) np np] 34) := ⟨_, rfl⟩
 obtain ⟨w3, hw3⟩ : ∃ w3, w3 = w2.alloc (.cells #[.int .i64 0] 3) := ⟨_, rfl⟩
 obtain ⟨w4, hw4⟩ : ∃ w4, w4 = w3.alloc (.cells #[.int .i64 0] 3) := ⟨_, rfl⟩
 have hz2 : w2.heap.size = wr.heap.size + 1 := by rw [hw2, zN]
 have hz3 : w3.heap.size = wr.heap.size + 1 + 1 := by rw [hw3, zN, hz2]
 have hz4 : w4.heap.size = wr.heap.size + 1 + 1 + 1 := by rw [hw4, zN, hz3]
 rw [← hw2, ← hw3, ← hw4] at hw5
 have g2 : wr.grownBy w2 none := by rw [hw2]; exact World.grownBy_alloc _ _ _
 have g3 : w2.grownBy w3 none := by rw [hw3]; exact World.grownBy_alloc _ _ _
 have g4 : w3.grownBy w4 none := by rw [hw4]; exact World.grownBy_alloc _ _ _
 have g5 : w4.grownBy w5 none := by rw [hw5]; exact World.grownBy_alloc _ _ _
 have hzr := hg.size
 have hm1 : 1 ≤ maxLen := by unfold maxLen; omega
 have o2 : w2.ownsRow wr.heap.size 34 1 (.slice (some ⟨wr.heap.size, 0, none⟩) 1 1) 1 [.slice (some ⟨G, 0, none⟩) np np] := by rw [hw2]; exact World.ownsRow_lit wr #[_] 1 (Nat.le_refl _) hm1 rfl
 have o3 : w3.ownsRow w2.heap.size 3 1 (.slice (some ⟨wr.heap.size + 1, 0, none⟩) 1 1) 1 (nats [0]) := by rw [hw3, ← hz2]; exact World.ownsRow_lit w2 #[_] 1 (Nat.le_refl _) hm1 rfl
 have o4 : w4.ownsRow w3.heap.size 3 1 (.slice (some ⟨wr.heap.size + 1 + 1, 0, none⟩) 1 1) 1 (nats [0]) := by rw [hw4, ← hz3]; exact World.ownsRow_lit w3 #[_] 1 (Nat.le_refl _) hm1 rfl
 have m0 : EMem (fun q => q = G) wr [] := ⟨fun r hr => by simp at hr, List.Pairwise.nil, fun r hr => by simp at hr, fun k hk => by subst hk; exact hG.lt⟩
 have m1 := m0.add g2 (r := ⟨w.heap.size, 34, .slice (some ⟨wr.heap.size, 0, none⟩) 1 1, 1, [.slice (some ⟨G, 0, none⟩) np np], 1⟩) (xY (base' := w.heap.size) o2 hzr) (fun k hk => (o2.lt k hk).1)
 have m2 := m1.add (zK w2 none) (r := ⟨w.heap.size, 3, .slice none 0 0, 0, nats [], 1⟩) (World.ownsRow_nil _ _ _ _) (fun k hk => by simp [Value.ownBlock] at hk)
 have m3 := m2.add g3 (r := ⟨w.heap.size, 3, .slice (some ⟨wr.heap.size + 1, 0, none⟩) 1 1, 1, nats [0], 1⟩) (xY (base' := w.heap.size) o3 (by rw [hz2]; omega)) (fun k hk => (o3.lt k hk).1)
 have m4 := m3.add g4 (r := ⟨w.heap.size, 3, .slice (some ⟨wr.heap.size + 1 + 1, 0, none⟩) 1 1, 1, nats [0], 1⟩) (xY (base' := w.heap.size) o4 (by rw [hz3]; omega)) (fun k hk => (o4.lt k hk).1)
 have hg4 := zA (zA (zA hg g2 (by simp)) g3 (by simp)) g4 (by simp)
 have hg5 := zA hg4 g5 (by simp)
 have hb5 : w5.heap[wr.heap.size + 1 + 1 + 1]? = some (.cells #[.int .i64 (k : Int), pv, .slice (some ⟨wr.heap.size, 0, none⟩) 1 1, .slice none 0 0, .slice (some ⟨wr.heap.size + 1, 0, none⟩) 1 1, .slice (some ⟨wr.heap.size + 1 + 1, 0, none⟩) 1 1] 111 (0, 0)) := by
  rw [hw5, ← hz4]; exact heap_alloc_new w4 _
 have hG5 := ((((hG.kept g2 (by simp)).kept g3 (by simp)).kept g4 (by simp)).kept g5 (by simp))
 have hGr := hG.lt
 refine ⟨⟨m4.grow g5, fun r hr => ?_, hb5, fun e => by have e : wr.heap.size + 1 + 1 + 1 = G := e; omega, Nat.le_refl _, by omega, by have := g5.size; omega, hg5, xX.refl _ _, Nat.le_refl _⟩, wP.nil.snoc (arrRowX hG5 hx (by unfold maxLen; omega) rfl), hg5⟩
 simp only [List.nil_append, List.append_assoc, List.cons_append, List.mem_cons, List.not_mem_nil, or_false] at hr
 have d1 : (34 : Nat) ≠ 111 := by decide
 have d2 : (3 : Nat) ≠ 111 := by decide
 rcases hr with rfl | rfl | rfl | rfl
 ·exact ⟨rfl, d1⟩
 ·exact ⟨rfl, d2⟩
 ·exact ⟨rfl, d2⟩
 ·exact ⟨rfl, d2⟩
section
variable {α : Type} {mt kt : TypeId} {V : α → Prop} {kv : α → Value} {w : World}
theorem MapK.upd [DecidableEq α] {w : World} {b n c : Nat} {f : α → Option Nat} (h : MapK kt V kv w b n c f) (K : KeyK mt kt V kv) {z : α} {y : Nat} (hn : n < maxLen) (hz : V z) (hy : y < 4611686018427387904) :
  ∃ w' r, (Instr.mapUpdate mt (.map (some b)) (kv z) (.int .i64 (y : Int))).run Try.prog w = .ok r w' ∧ MapK kt V kv w' b (n + 1) (if (f z).isSome then c else c + 1) (fun q => if q = z then some y else f q) ∧ w.grownBy w' (some b) := by
 obtain ⟨D, h1, h2, h3⟩ := h
 obtain ⟨kl, hkl⟩ := Option.isSome_iff_exists.1 (K.of z hz)
 obtain ⟨w', hrun, hown, hgr⟩ := h1.update K.key K.und hn hkl (plainElem_int vW (mid_wf (x := (y : Int)) ⟨by omega, by omega⟩))
 refine ⟨w', _, hrun, ⟨_, hown, ?_, fun q ql hq hql => ?_⟩, hgr⟩
 ·rw [size_put (h1.tidy K.key), (h3 z kl hz hkl).1, h2]
 ·by_cases e : q = z
  ·subst e
   rw [hkl] at hql
   cases hql
   refine ⟨by rw [has_put_same h1.isMap (K.key.key hkl)]; simp, ?_⟩
   simp only [if_pos]
   rw [atKey_put_same h1.isMap (K.key.key hkl)]; rfl
  ·have hne : ql ≠ kl := fun h => e (K.inj q z hq hz (K.key.inj (hql.trans (congrArg some h)) hkl))
   obtain ⟨e1, e2⟩ := h3 q ql hq hql
   simp only [if_neg e]
   exact ⟨by rw [has_put_other hne, e1], by rw [atKey_put_other hne, e2]⟩
end
end Go.Proofs.Ytjfdomfendbhfaa
namespace Go.Proofs.Ytjfdomfendbhfaa
open Go.RowKit Go.Maps
section
variable {w0 w w' : World} {B o mb k np m q rb : Nat} {pv : Value} {L : List (List Nat)} {nxl fr bl xs : List Nat}
theorem ProdS.open_ (h : ProdS w0 B o mb k np pv L nxl fr bl m q (⟨B, 3, .slice (some ⟨rb, 0, none⟩) np np, np, nats xs, 1⟩ :: []) w) (hg : w.grownBy w' (some mb)) (hb : ∃ es clock, w'.heap[mb]? = some (.map es clock)) :
  ∃ X hs sS sN sF sB cS cN cF cB, BoxS B (fun j => X j ∨ j = mb) o 111 w0 w' (⟨B, 34, .slice sS m cS, m, hs, 1⟩ :: ⟨B, 3, .slice sN q cN, q, nats nxl, 1⟩ :: ⟨B, 3, .slice sF m cF, m, nats fr, 1⟩ :: ⟨B, 3, .slice sB m cB, m, nats bl, 1⟩ :: []) #[.int .i64 (k : Int), pv, .slice sS m cS, .slice sN q cN, .slice sF m cF, .slice sB m cB] w' ∧ wP X 3 nats w' (hs ++ [.slice (some ⟨rb, 0, none⟩) np np]) (L ++ [xs]) ∧ wP X 3 nats w' hs L ∧ ¬ X mb ∧ w0.heap.size ≤ mb ∧ (L.length = m ∧ nxl.length = q ∧ fr.length = m ∧ bl.length = m) ∧ hs.length = m := by
 obtain ⟨X, hs, sS, sN, sF, sB, cS, cN, cF, cB, u, c, hB, hE, hM, hmx, hmb, hu, hl, hhs⟩ := h
 have homb : o ≠ mb := fun e => by
  obtain ⟨es, clock, hb⟩ := hM.obj
  have := hB.box
  rw [e, hb] at this; simp at this
 have hfar := hB.far hg (fun r hr => xN (es := #[]) (clock := 0) (hB.mem.own r hr) hM.obj) hmx homb hmb
 have hkp := hfar.kept
 have hsz := hfar.wk
 have hB2 := hfar.rebase
 have hRX : RowX (fun j => X j ∨ (Value.slice (some ⟨rb, 0, none⟩) np np).ownBlock = some j) 3 w' (.slice (some ⟨rb, 0, none⟩) np np) (nats xs) := RowX.of_owns (hB2.own (r := ⟨B, 3, .slice (some ⟨rb, 0, none⟩) np np, np, nats xs, 1⟩) (by simp)) (fun j hj => .inr hj)
 have hS0 := BoxS.retire (rs := (⟨B, 34, .slice sS m cS, m, hs, 1⟩ :: ⟨B, 3, .slice sN q cN, q, nats nxl, 1⟩ :: ⟨B, 3, .slice sF m cF, m, nats fr, 1⟩ :: ⟨B, 3, .slice sB m cB, m, nats bl, 1⟩ :: [])) (r := ⟨B, 3, .slice (some ⟨rb, 0, none⟩) np np, np, nats xs, 1⟩) hB2
 have hlt : mb < w'.heap.size := Nat.lt_of_lt_of_le hM.lt hsz
 have hS1 := hS0.stand hlt (fun r hr => xN (es := #[]) (clock := 0) (hS0.mem.own r hr) hb) homb
 have hE2 := (hE.kept hkp hsz).mono (X' := fun j => X j ∨ (Value.slice (some ⟨rb, 0, none⟩) np np).ownBlock = some j) (fun j hj => .inl hj)
 refine ⟨_, hs, sS, sN, sF, sB, cS, cN, cF, cB, hS1, hE2.snoc hRX, hE2, fun e => ?_, hmb, hl, hhs⟩
 rcases e with e | e
 ·exact hmx e
 ·exact xN (es := #[]) (clock := 0) (hB2.own (r := ⟨B, 3, .slice (some ⟨rb, 0, none⟩) np np, np, nats xs, 1⟩) (by simp)) hb e
theorem kY {X : Nat → Prop} {wk : World} {hs : List Value} {sS sN sF sB : Option Addr} {cS cN cF cB u c : Nat} (hB : BoxS B (fun j => X j ∨ j = mb) o 111 w0 wk (⟨B, 34, .slice sS m cS, m, hs, 1⟩ :: ⟨B, 3, .slice sN q cN, q, nats nxl, 1⟩ :: ⟨B, 3, .slice sF m cF, m, nats fr, 1⟩ :: ⟨B, 3, .slice sB m cB, m, nats bl, 1⟩ :: []) #[.int .i64 (k : Int), pv, .slice sS m cS, .slice sN q cN, .slice sF m cF, .slice sB m cB] w) (hE : wP X 3 nats wk hs L) (hM : MapK 9 (kK np) (fun l => .string (txtT (kb l))) wk mb u c (numE L)) (hmx : ¬ X mb) (hmb : w0.heap.size ≤ mb) (hu : u ≤ m) (hl : L.length = m ∧ nxl.length = q ∧ fr.length = m ∧ bl.length = m) (hhs : hs.length = m) : ProdS w0 B o mb k np pv L nxl fr bl m q [] w :=
 ⟨X, hs, sS, sN, sF, sB, cS, cN, cF, cB, u, c, (hB.less (fun j h => .inl h)).rebase, hE.kept (fun j hj => hB.kept j (.inl hj)) hB.wk, hM.of_block (hB.kept mb (.inr rfl)), hmx, hmb, hu, hl, hhs⟩
end
end Go.Proofs.Ytjfdomfendbhfaa
