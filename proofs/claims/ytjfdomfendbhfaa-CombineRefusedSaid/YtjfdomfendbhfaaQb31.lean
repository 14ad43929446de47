/- Part 31 of the proof: ProdS2, ProdS3, PView. -/
import Derived.Test.YtjfdomfendbhfaaQb30
set_option linter.unusedVariables false
set_option linter.unusedSimpArgs false
namespace Go.Proofs.Ytjfdomfendbhfaa
open Go.RowKit Go.Maps
theorem DsO.dfa {B : Nat} {w : World} {g off k : Nat} {ds : List DfaV} (h : DsO B w g off ds) (hok : OkT ds k) {i : Nat} (hi : i < ds.length) :
  ∃ n fb fo fc b of2 cap RB RO RC, VD (ds.getD i dN) n k ∧ n ≤ 512 ∧ w.cell? ⟨g, off + i * 4, none⟩ = some (.int .i64 (k : Int)) ∧ w.cell? ⟨g, off + i * 4 + 1, none⟩ = some (.int .i64 ((st0 (ds.getD i dN) : Nat) : Int)) ∧ w.cell? ⟨g, off + i * 4 + 2, none⟩ = some (.slice (some ⟨fb, fo, none⟩) n fc) ∧ w.cell? ⟨g, off + i * 4 + 3, none⟩ = some (.slice (some ⟨b, of2, none⟩) n cap) ∧ DAt B w (ds.getD i dN) n k fb fo fc b of2 cap RB RO RC := by
 obtain ⟨n, hv, h5⟩ := hok i hi
 obtain ⟨f, nx, h1, h2, h3, h4, hd⟩ := h.at_ i hi
 obtain ⟨fb, fo, fc, b, of2, cap, RB, RO, RC, e, hat⟩ := hd.at hv
 rw [dAgg] at e
 simp only [Value.agg.injEq] at e
 have e := congrArg Array.toList e
 simp only [List.cons.injEq, and_true] at e
 obtain ⟨e1, e2, e3, e4⟩ := e
 exact ⟨n, fb, fo, fc, b, of2, cap, RB, RO, RC, hv, h5, by rw [h1, e1], by rw [h2, e2], by rw [h3, e3], by rw [h4, e4], hat⟩
theorem arrRowX {X : Nat → Prop} {w : World} {g n : Nat} {f : List Nat} (h : Arr w g 3 (nats f)) (hn : f.length = n) (hm : n ≤ maxLen) (hX : X g) : RowX X 3 w (.slice (some ⟨g, 0, none⟩) n n) (nats f) := RowX.of_new h hn (Nat.le_refl _) hm hX
theorem prod_start {w wr : World} {G np k : Nat} {pv : Value} {x0 : List Nat} (hg : w.grownBy wr none) (hG : Arr wr G 3 (nats x0)) (hGl : w.heap.size ≤ G) (hx : x0.length = np) (hnp : np ≤ 4096) {w5 : World}
  (hw5 : w5 = (((wr.alloc (.cells #[.slice (some ⟨G, 0, none⟩) np np] 34)).alloc (.cells #[.int .i64 0] 3)).alloc (.cells #[.int .i64 0] 3)).alloc (.cells #[.int .i64 (k : Int), pv, .slice (some ⟨wr.heap.size, 0, none⟩) 1 1, .slice none 0 0, .slice (some ⟨wr.heap.size + 1, 0, none⟩) 1 1, .slice (some ⟨wr.heap.size + 1 + 1, 0, none⟩) 1 1] 111)) :
  BoxS w.heap.size (fun q => q = G) (wr.heap.size + 1 + 1 + 1) 111 w w5 (⟨w.heap.size, 34, .slice (some ⟨wr.heap.size, 0, none⟩) 1 1, 1, [.slice (some ⟨G, 0, none⟩) np np], 1⟩ :: ⟨w.heap.size, 3, .slice none 0 0, 0, nats [], 1⟩ :: ⟨w.heap.size, 3, .slice (some ⟨wr.heap.size + 1, 0, none⟩) 1 1, 1, nats [0], 1⟩ :: ⟨w.heap.size, 3, .slice (some ⟨wr.heap.size + 1 + 1, 0, none⟩) 1 1, 1, nats [0], 1⟩ :: []) #[.int .i64 (k : Int), pv, .slice (some ⟨wr.heap.size, 0, none⟩) 1 1, .slice none 0 0, .slice (some ⟨wr.heap.size + 1, 0, none⟩) 1 1, .slice (some ⟨wr.heap.size + 1 + 1, 0, none⟩) 1 1] w5
  ∧ vX (fun q => q = G) 3 nats w5 [.slice (some ⟨G, 0, none⟩) np np] [x0] ∧ w.grownBy w5 none := by
 obtain ⟨w2, hw2⟩ : ∃ w2, w2 = wr.alloc (.cells #[.slice (some ⟨G, 0, none⟩) np np] 34) := ⟨_, rfl⟩
 obtain ⟨w3, hw3⟩ : ∃ w3, w3 = w2.alloc (.cells #[.int .i64 0] 3) := ⟨_, rfl⟩
 obtain ⟨w4, hw4⟩ : ∃ w4, w4 = w3.alloc (.cells #[.int .i64 0] 3) := ⟨_, rfl⟩
 have hz2 : w2.heap.size = wr.heap.size + 1 := by rw [hw2, zJ]
 have hz3 : w3.heap.size = wr.heap.size + 1 + 1 := by rw [hw3, zJ, hz2]
 have hz4 : w4.heap.size = wr.heap.size + 1 + 1 + 1 := by rw [hw4, zJ, hz3]
 rw [← hw2, ← hw3, ← hw4] at hw5
 have g2 : wr.grownBy w2 none := by rw [hw2]; exact World.grownBy_alloc _ _ _
 have g3 : w2.grownBy w3 none := by rw [hw3]; exact World.grownBy_alloc _ _ _
 have g4 : w3.grownBy w4 none := by rw [hw4]; exact World.grownBy_alloc _ _ _
 have g5 : w4.grownBy w5 none := by rw [hw5]; exact World.grownBy_alloc _ _ _
 have hzr := hg.size
 have hm1 : 1 ≤ maxLen := by unfold maxLen; omega
 have o2 : w2.ownsRow wr.heap.size 34 1 (.slice (some ⟨wr.heap.size, 0, none⟩) 1 1) 1 [.slice (some ⟨G, 0, none⟩) np np] := by rw [hw2]; exact World.ownsRow_lit wr #[_] 1 (Nat.le_refl _) hm1 rfl
 have o3 : w3.ownsRow w2.heap.size 3 1 (.slice (some ⟨wr.heap.size + 1, 0, none⟩) 1 1) 1 (nats [0]) := by rw [hw3, ← hz2]; exact World.ownsRow_lit w2 #[_] 1 (Nat.le_refl _) hm1 rfl
 have o4 : w4.ownsRow w3.heap.size 3 1 (.slice (some ⟨wr.heap.size + 1 + 1, 0, none⟩) 1 1) 1 (nats [0]) := by rw [hw4, ← hz3]; exact World.ownsRow_lit w3 #[_] 1 (Nat.le_refl _) hm1 rfl
 have m0 : EMem (fun q => q = G) wr [] := ⟨fun r hr => by simp at hr, List.Pairwise.nil, fun r hr => by simp at hr, fun k hk => by subst hk; exact hG.lt⟩
 have m1 := m0.add g2 (r := ⟨w.heap.size, 34, .slice (some ⟨wr.heap.size, 0, none⟩) 1 1, 1, [.slice (some ⟨G, 0, none⟩) np np], 1⟩) (xB (base' := w.heap.size) o2 hzr) (fun k hk => (o2.lt k hk).1)
 have m2 := m1.add (zL w2 none) (r := ⟨w.heap.size, 3, .slice none 0 0, 0, nats [], 1⟩) (World.ownsRow_nil _ _ _ _) (fun k hk => by simp [Value.ownBlock] at hk)
 have m3 := m2.add g3 (r := ⟨w.heap.size, 3, .slice (some ⟨wr.heap.size + 1, 0, none⟩) 1 1, 1, nats [0], 1⟩) (xB (base' := w.heap.size) o3 (by rw [hz2]; omega)) (fun k hk => (o3.lt k hk).1)
 have m4 := m3.add g4 (r := ⟨w.heap.size, 3, .slice (some ⟨wr.heap.size + 1 + 1, 0, none⟩) 1 1, 1, nats [0], 1⟩) (xB (base' := w.heap.size) o4 (by rw [hz3]; omega)) (fun k hk => (o4.lt k hk).1)
 have hg4 := zA (zA (zA hg g2 (by simp)) g3 (by simp)) g4 (by simp)
 have hg5 := zA hg4 g5 (by simp)
 have hb5 : w5.heap[wr.heap.size + 1 + 1 + 1]? = some (.cells #[.int .i64 (k : Int), pv, .slice (some ⟨wr.heap.size, 0, none⟩) 1 1, .slice none 0 0, .slice (some ⟨wr.heap.size + 1, 0, none⟩) 1 1, .slice (some ⟨wr.heap.size + 1 + 1, 0, none⟩) 1 1] 111 (0, 0)) := by
  rw [hw5, ← hz4]; exact heap_alloc_new w4 _
 have hG5 := ((((hG.kept g2 (by simp)).kept g3 (by simp)).kept g4 (by simp)).kept g5 (by simp))
 have hGr := hG.lt
 refine ⟨⟨m4.grow g5, fun r hr => ?_, hb5, fun e => by have e : wr.heap.size + 1 + 1 + 1 = G := e; omega, Nat.le_refl _, by omega, by have := g5.size; omega, hg5, vA.refl _ _, Nat.le_refl _⟩, vX.nil.snoc (arrRowX hG5 hx (by unfold maxLen; omega) rfl), hg5⟩
 simp only [List.nil_append, List.append_assoc, List.cons_append, List.mem_cons, List.not_mem_nil, or_false] at hr
 have d1 : (34 : Nat) ≠ 111 := by decide
 have d2 : (3 : Nat) ≠ 111 := by decide
 rcases hr with rfl | rfl | rfl | rfl
 ·exact ⟨rfl, d1⟩
 ·exact ⟨rfl, d2⟩
 ·exact ⟨rfl, d2⟩
 ·exact ⟨rfl, d2⟩
section
variable {α : Type} {mt kt : TypeId} {V : α → Prop} {kv : α → Value} {w : World}
theorem MapK.upd [DecidableEq α] {w : World} {b n c : Nat} {f : α → Option Nat} (h : MapK kt V kv w b n c f) (K : KeyK mt kt V kv) {z : α} {y : Nat} (hn : n < maxLen) (hz : V z) (hy : y < 4611686018427387904) :
  ∃ w' r, (Instr.mapUpdate mt (.map (some b)) (kv z) (.int .i64 (y : Int))).run Try.prog w = .ok r w' ∧ MapK kt V kv w' b (n + 1) (if (f z).isSome then c else c + 1) (fun q => if q = z then some y else f q) ∧ w.grownBy w' (some b) := by
 obtain ⟨D, h1, h2, h3⟩ := h
 obtain ⟨kl, hkl⟩ := Option.isSome_iff_exists.1 (K.of z hz)
 obtain ⟨w', hrun, hown, hgr⟩ := h1.update K.key K.und hn hkl (plainElem_int tM (mid_wf (x := (y : Int)) ⟨by omega, by omega⟩))
 refine ⟨w', _, hrun, ⟨_, hown, ?_, fun q ql hq hql => ?_⟩, hgr⟩
 ·rw [size_put (h1.tidy K.key), (h3 z kl hz hkl).1, h2]
 ·by_cases e : q = z
  ·subst e
   rw [hkl] at hql
   cases hql
   refine ⟨by rw [has_put_same h1.isMap (K.key.key hkl)]; simp, ?_⟩
   simp only [if_pos]
   rw [atKey_put_same h1.isMap (K.key.key hkl)]; rfl
  ·have hne : ql ≠ kl := fun h => e (K.inj q z hq hz (K.key.inj (hql.trans (congrArg some h)) hkl))
   obtain ⟨e1, e2⟩ := h3 q ql hq hql
   simp only [if_neg e]
   exact ⟨by rw [has_put_other hne, e1], by rw [atKey_put_other hne, e2]⟩
end
end Go.Proofs.Ytjfdomfendbhfaa
namespace Go.Proofs.Ytjfdomfendbhfaa
open Go.RowKit Go.Maps
section
variable {w0 w w' : World} {B o mb k np m q rb : Nat} {pv : Value} {L : List (List Nat)} {nxl fr bl xs : List Nat}
theorem ProdS.open_ (h : ProdS w0 B o mb k np pv L nxl fr bl m q (⟨B, 3, .slice (some ⟨rb, 0, none⟩) np np, np, nats xs, 1⟩ :: []) w) (hg : w.grownBy w' (some mb)) (hb : ∃ es clock, w'.heap[mb]? = some (.map es clock)) :
  ∃ X hs sS sN sF sB cS cN cF cB, BoxS B (fun j => X j ∨ j = mb) o 111 w0 w' (⟨B, 34, .slice sS m cS, m, hs, 1⟩ :: ⟨B, 3, .slice sN q cN, q, nats nxl, 1⟩ :: ⟨B, 3, .slice sF m cF, m, nats fr, 1⟩ :: ⟨B, 3, .slice sB m cB, m, nats bl, 1⟩ :: []) #[.int .i64 (k : Int), pv, .slice sS m cS, .slice sN q cN, .slice sF m cF, .slice sB m cB] w' ∧ vX X 3 nats w' (hs ++ [.slice (some ⟨rb, 0, none⟩) np np]) (L ++ [xs]) ∧ vX X 3 nats w' hs L ∧ ¬ X mb ∧ w0.heap.size ≤ mb ∧ (L.length = m ∧ nxl.length = q ∧ fr.length = m ∧ bl.length = m) ∧ hs.length = m := by
 obtain ⟨X, hs, sS, sN, sF, sB, cS, cN, cF, cB, u, c, hB, hE, hM, hmx, hmb, hu, hl, hhs⟩ := h
 have homb : o ≠ mb := fun e => by
  obtain ⟨es, clock, hb⟩ := hM.obj
  have := hB.box
  rw [e, hb] at this; simp at this
 have hfar := hB.far hg (fun r hr => wH (es := #[]) (clock := 0) (hB.mem.own r hr) hM.obj) hmx homb hmb
 have hkp := hfar.kept
 have hsz := hfar.wk
 have hB2 := hfar.rebase
 have hRX : RowX (fun j => X j ∨ (Value.slice (some ⟨rb, 0, none⟩) np np).ownBlock = some j) 3 w' (.slice (some ⟨rb, 0, none⟩) np np) (nats xs) := RowX.of_owns (hB2.own (r := ⟨B, 3, .slice (some ⟨rb, 0, none⟩) np np, np, nats xs, 1⟩) (by simp)) (fun j hj => .inr hj)
 have hS0 := BoxS.retire (rs := (⟨B, 34, .slice sS m cS, m, hs, 1⟩ :: ⟨B, 3, .slice sN q cN, q, nats nxl, 1⟩ :: ⟨B, 3, .slice sF m cF, m, nats fr, 1⟩ :: ⟨B, 3, .slice sB m cB, m, nats bl, 1⟩ :: [])) (r := ⟨B, 3, .slice (some ⟨rb, 0, none⟩) np np, np, nats xs, 1⟩) hB2
 have hlt : mb < w'.heap.size := Nat.lt_of_lt_of_le hM.lt hsz
 have hS1 := hS0.stand hlt (fun r hr => wH (es := #[]) (clock := 0) (hS0.mem.own r hr) hb) homb
 have hE2 := (hE.kept hkp hsz).mono (X' := fun j => X j ∨ (Value.slice (some ⟨rb, 0, none⟩) np np).ownBlock = some j) (fun j hj => .inl hj)
 refine ⟨_, hs, sS, sN, sF, sB, cS, cN, cF, cB, hS1, hE2.snoc hRX, hE2, fun e => ?_, hmb, hl, hhs⟩
 rcases e with e | e
 ·exact hmx e
 ·exact wH (es := #[]) (clock := 0) (hB2.own (r := ⟨B, 3, .slice (some ⟨rb, 0, none⟩) np np, np, nats xs, 1⟩) (by simp)) hb e
theorem prod_close {X : Nat → Prop} {wk : World} {hs : List Value} {sS sN sF sB : Option Addr} {cS cN cF cB u c : Nat} (hB : BoxS B (fun j => X j ∨ j = mb) o 111 w0 wk (⟨B, 34, .slice sS m cS, m, hs, 1⟩ :: ⟨B, 3, .slice sN q cN, q, nats nxl, 1⟩ :: ⟨B, 3, .slice sF m cF, m, nats fr, 1⟩ :: ⟨B, 3, .slice sB m cB, m, nats bl, 1⟩ :: []) #[.int .i64 (k : Int), pv, .slice sS m cS, .slice sN q cN, .slice sF m cF, .slice sB m cB] w) (hE : vX X 3 nats wk hs L) (hM : MapK 9 (Small np) (fun l => .string (txtT (kb l))) wk mb u c (numE L)) (hmx : ¬ X mb) (hmb : w0.heap.size ≤ mb) (hu : u ≤ m) (hl : L.length = m ∧ nxl.length = q ∧ fr.length = m ∧ bl.length = m) (hhs : hs.length = m) : ProdS w0 B o mb k np pv L nxl fr bl m q [] w :=
 ⟨X, hs, sS, sN, sF, sB, cS, cN, cF, cB, u, c, (hB.less (fun j h => .inl h)).rebase, hE.kept (fun j hj => hB.kept j (.inl hj)) hB.wk, hM.of_block (hB.kept mb (.inr rfl)), hmx, hmb, hu, hl, hhs⟩
end
end Go.Proofs.Ytjfdomfendbhfaa
namespace Go.Proofs.Ytjfdomfendbhfaa
open Go.RowKit Go.Maps
def LRow (w : World) (sb i : Nat) (x : List Nat) : Prop := ∃ g off cap, w.cell? ⟨sb, i, none⟩ = some (.slice (some ⟨g, off, none⟩) x.length cap) ∧ x.length ≤ cap ∧ cap ≤ maxLen ∧ ∀ j, j < x.length → w.cell? ⟨g, off + j, none⟩ = some (.int .i64 ((x.getD j 0 : Nat) : Int))
theorem LRow.grow {w w' : World} {sb i : Nat} {x : List Nat} (h : LRow w sb i x) (hg : w.grownBy w' none) : LRow w' sb i x := by
 obtain ⟨g, off, cap, h1, h2, h3, h4⟩ := h
 exact ⟨g, off, cap, wB h1 hg, h2, h3, fun j hj => wB (h4 j hj) hg⟩
structure ProdV (w : World) (o k : Nat) (pv : Value) (L : List (List Nat)) (nxl fr bl : List Nat) (sb sc nb nc fb fc bb bc : Nat) : Prop where
 box : w.heap[o]? = some (.cells #[.int .i64 (k : Int), pv, .slice (some ⟨sb, 0, none⟩) L.length sc, .slice (some ⟨nb, 0, none⟩) (L.length * k) nc, .slice (some ⟨fb, 0, none⟩) L.length fc, .slice (some ⟨bb, 0, none⟩) L.length bc] 111 (0, 0))
 caps : L.length ≤ sc ∧ sc ≤ maxLen ∧ L.length * k ≤ nc ∧ nc ≤ maxLen ∧ L.length ≤ fc ∧ fc ≤ maxLen ∧ L.length ≤ bc ∧ bc ≤ maxLen
 row : ∀ i, i < L.length → L.getD i [] ≠ [] → LRow w sb i (L.getD i [])
 nx : ∀ i, i < L.length * k → w.cell? ⟨nb, i, none⟩ = some (.int .i64 ((nxl.getD i 0 : Nat) : Int))
 fr : ∀ i, i < L.length → w.cell? ⟨fb, i, none⟩ = some (.int .i64 ((fr.getD i 0 : Nat) : Int))
 by_ : ∀ i, i < L.length → w.cell? ⟨bb, i, none⟩ = some (.int .i64 ((bl.getD i 0 : Nat) : Int))
 nlt : nb < w.heap.size
section
variable {w w' : World} {o k : Nat} {pv : Value} {L : List (List Nat)} {nxl fr bl : List Nat} {sb sc nb nc fb fc bb bc : Nat}
theorem ProdV.grow (h : ProdV w o k pv L nxl fr bl sb sc nb nc fb fc bb bc) (hg : w.grownBy w' none) : ProdV w' o k pv L nxl fr bl sb sc nb nc fb fc bb bc :=
 ⟨zB h.box hg (by simp), h.caps, fun i hi hn => (h.row i hi hn).grow hg, fun i hi => wB (h.nx i hi) hg, fun i hi => wB (h.fr i hi) hg, fun i hi => wB (h.by_ i hi) hg, Nat.lt_of_lt_of_le h.nlt hg.size⟩
theorem ProdV.cells (h : ProdV w o k pv L nxl fr bl sb sc nb nc fb fc bb bc) : w.cell? ⟨o, 0, none⟩ = some (.int .i64 (k : Int)) ∧ w.cell? ⟨o, 1, none⟩ = some pv ∧ w.cell? ⟨o, 2, none⟩ = some (.slice (some ⟨sb, 0, none⟩) L.length sc) ∧ w.cell? ⟨o, 3, none⟩ = some (.slice (some ⟨nb, 0, none⟩) (L.length * k) nc) ∧ w.cell? ⟨o, 4, none⟩ = some (.slice (some ⟨fb, 0, none⟩) L.length fc) ∧ w.cell? ⟨o, 5, none⟩ = some (.slice (some ⟨bb, 0, none⟩) L.length bc) := by
 have c0 := zO h.box 0 (by simp)
 have c1 := zO h.box 1 (by simp)
 have c2 := zO h.box 2 (by simp)
 have c3 := zO h.box 3 (by simp)
 have c4 := zO h.box 4 (by simp)
 have c5 := zO h.box 5 (by simp)
 simp only [List.getElem_toArray, List.getElem_cons_zero, List.getElem_cons_succ] at c0 c1 c2 c3 c4 c5
 exact ⟨c0, c1, c2, c3, c4, c5⟩
theorem ProdS.view {w0 : World} {B mb np m q : Nat} (h : ProdS w0 B o mb k np pv L nxl fr bl m q [] w) (h0 : 0 < m) (hq : q = m * k) (hk : 0 < k) : ∃ sb sc nb nc fb fc bb bc, ProdV w o k pv L nxl fr bl sb sc nb nc fb fc bb bc := by
 obtain ⟨sS', cS', sN', cN', sF', cF', sB', cB', hbx, hrow⟩ := h.cells
 obtain ⟨X, hs, sS, sN, sF, sB, cS, cN, cF, cB, u, c, hB, hE, hM, hmx, hmb, hu, ⟨rfl, hl2, hl3, hl4⟩, hhs⟩ := h
 have hq0 : 0 < q := by rw [hq]; exact Nat.mul_pos h0 hk
 obtain ⟨sb, e, h1, h2, h3⟩ := hrow h0
 have hbx2 := hB.box
 rw [hbx] at hbx2
 simp only [Option.some.injEq, Obj.cells.injEq, and_true] at hbx2
 have hbx2 := congrArg Array.toList hbx2
 simp only [List.cons.injEq, and_true, true_and, Value.slice.injEq] at hbx2
 obtain ⟨⟨rfl, rfl⟩, ⟨rfl, rfl⟩, ⟨rfl, rfl⟩, ⟨rfl, rfl⟩⟩ := hbx2
 subst e
 obtain ⟨nb, rfl, n1, n2, na⟩ := xJ (hB.own (r := ⟨B, 3, .slice sN' q cN', q, nats nxl, 1⟩) (by simp)) hq0
 obtain ⟨fb, rfl, f1, f2, fa⟩ := xJ (hB.own (r := ⟨B, 3, .slice sF' L.length cF', L.length, nats fr, 1⟩) (by simp)) h0
 obtain ⟨bb, rfl, b1, b2, ba⟩ := xJ (hB.own (r := ⟨B, 3, .slice sB' L.length cB', L.length, nats bl, 1⟩) (by simp)) h0
 subst hq
 exact ⟨sb, cS', nb, cN', fb, cF', bb, cB', hbx, ⟨h1, h2, n1, n2, f1, f2, b1, b2⟩, fun i hi hne => h3 i hi hne, fun i hi => na.nat i (by omega), fun i hi => fa.nat i (by omega), fun i hi => ba.nat i (by omega), na.lt⟩
end
end Go.Proofs.Ytjfdomfendbhfaa
