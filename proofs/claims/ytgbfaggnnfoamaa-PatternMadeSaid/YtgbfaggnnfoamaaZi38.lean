/- Part 38 of the proof: PosRow. -/
import Derived.Test.YtgbfaggnnfoamaaZi37
set_option linter.unusedVariables false
set_option linter.unusedSimpArgs false
namespace Go.Proofs.Ytgbfaggnnfoamaa
open Go.RowKit Go.Maps
theorem wp_appM {P : Program} {w : World} {o : Oper} {a : Act} {K : Act → World → Prop} {Q : Exit → Act → World → Prop} (s x : Operand) (t : TypeId)
  (ho : o.op = .call { callee := .builtin .append, args := #[s, x], argTypes := #[t, t] })
  {e : TypeId} {sz : Nat} {z : Value} {bytes : Nat} (E : ElemN P t e sz z bytes) (base : Nat) (v : Value) (n : Nat) (xs : List Value) (hs : a.eval s = v) (hown : w.ownsRow base e sz v n xs)
  (us : List Value) (g : Nat) (hx : a.eval x = .slice (some ⟨g, 0, none⟩) 1 1) (m : Nat × Nat) (hus : us.length = sz) (hg : w.heap[g]? = some (.cells us.toArray e m)) (h1 : ∀ u ∈ us, u.oneCell' = true) (h63 : n + 1 ≤ maxLen) (hbytes : (n + 1) * bytes ≤ 140737488355328) (hbase : base ≤ w.heap.size)
  (h : ∀ sa sc w', w'.ownsRow base e sz (.slice sa (n + 1) sc) (n + 1) (xs ++ us) → w.grownBy w' v.ownBlock → lC w w' v (.slice sa (n + 1) sc) → K (a.put o.dst (.slice sa (n + 1) sc)) w') : o.wp P a w K Q := by
 have hadd : ∀ j, (⟨g, 0, none⟩ : Addr).add j = ⟨g, j, none⟩ := fun j => by unfold Addr.add; split <;> simp_all
 have hra : SrcRow w sz (.slice (some ⟨g, 0, none⟩) 1 1) 1 us := .inr ⟨g, 0, 1, rfl, by omega, by unfold maxLen; omega, fun i u hi => by
  obtain ⟨hl, e⟩ := List.getElem?_eq_some_iff.1 hi
  have := zK hg i (by simpa using hl)
  rw [Nat.zero_add, this]; simpa using e⟩
 obtain ⟨v', w', hr, h2, h3, h4⟩ := run_append_movedR (P := P) base t o.type E v n xs hown _ 1 us hra h1 h63 hbytes hbase
 obtain ⟨sa, sc, rfl⟩ := owns_shape_n h2
 unfold Oper.wp execOp
 simp only [ho, resolve, invoke, builtin, Sem.run_bind, Sem.run_pure, Result.andThen_ok, List.map_toArray, List.map_cons, List.map_nil, hs, hx, hr]
 exact h sa sc w' h2 h3 h4
theorem step_appM {P : Program} {ops : Array Oper} {w : World} {o : Oper} {a : Act} {K : Act → World → Prop} {Q : Exit → Act → World → Prop} {R : Prop} (hgd : o.guard = none) (s x : Operand) (t : TypeId)
  (ho : o.op = .call { callee := .builtin .append, args := #[s, x], argTypes := #[t, t] })
  {e : TypeId} {sz : Nat} {z : Value} {bytes : Nat} (E : ElemN P t e sz z bytes) (base : Nat) (v : Value) (n : Nat) (xs : List Value) (hs : a.eval s = v) (hown : w.ownsRow base e sz v n xs)
  (us : List Value) (g : Nat) (hx : a.eval x = .slice (some ⟨g, 0, none⟩) 1 1) (m : Nat × Nat) (hus : us.length = sz) (hg : w.heap[g]? = some (.cells us.toArray e m)) (h1 : ∀ u ∈ us, u.oneCell' = true) (h63 : n + 1 ≤ maxLen) (hbytes : (n + 1) * bytes ≤ 140737488355328) (hbase : base ≤ w.heap.size)
  (h : ∀ sa sc w', w'.ownsRow base e sz (.slice sa (n + 1) sc) (n + 1) (xs ++ us) → w.grownBy w' v.ownBlock → lC w w' v (.slice sa (n + 1) sc) → K (a.put o.dst (.slice sa (n + 1) sc)) w') : if Region.wanted o (yielded ops a.tmps) = true then Oper.wp P o a w K Q else R := by
 have hw : Region.wanted o (yielded ops a.tmps) = true := by simp [Region.wanted, hgd]
 rw [if_pos hw]
 exact wp_appM s x t ho E base v n xs hs hown us g hx m hus hg h1 h63 hbytes hbase h
theorem app_lit {P : Program} {w : World} {ops : Array Oper} {rest : List Oper} {o : Oper} {a : Act} {Q : Exit → Act → World → Prop} (hgd : o.guard = none) (s x : Operand) (t : TypeId)
  (ho : o.op = .call { callee := .builtin .append, args := #[s, x], argTypes := #[t, t] })
  {e : TypeId} {sz : Nat} {z : Value} {bytes : Nat} (E : ElemN P t e sz z bytes) (base : Nat) (v : Value) (n : Nat) (xs : List Value) (hs : a.eval s = v) (hown : w.ownsRow base e sz v n xs)
  (us : List Value) (hx : a.eval x = .slice (some ⟨w.heap.size, 0, none⟩) 1 1) (hus : us.length = sz) (h1 : ∀ u ∈ us, u.oneCell' = true) (h63 : n + 1 ≤ maxLen) (hbytes : (n + 1) * bytes ≤ 140737488355328) (hbase : base ≤ w.heap.size)
  (h : ∀ sa sc w', w'.ownsRow base e sz (.slice sa (n + 1) sc) (n + 1) (xs ++ us) → w.grownBy w' v.ownBlock → wpList P ops Q rest (a.put o.dst (.slice sa (n + 1) sc)) w') :
  wpList P ops Q (o :: rest) a (w.alloc (.cells us.toArray e)) :=
 wpList_plain hgd fun _ hK => wp_appM s x t ho E base v n xs hs (hown.alloc _) us w.heap.size hx (0, 0) hus (heap_alloc_new w _) h1 h63 hbytes (by simp; omega) fun sa sc w' h2 h3 _ => hK _ _ (h sa sc w' h2 (zE (World.grownBy_alloc w _ _) h3))
def tK (l : List (Nat × Nat)) : List Value := l.flatMap fun x => [.int .i64 (x.1 : Int), .int .i64 (x.2 : Int)]
theorem posVals_snoc (l : List (Nat × Nat)) (x : Nat × Nat) : tK (l ++ [x]) = tK l ++ [.int .i64 (x.1 : Int), .int .i64 (x.2 : Int)] := by simp [tK]
theorem elem_pos : ElemN Try.prog 83 86 2 (.agg #[.int .i64 0, .int .i64 0]) 16 := ⟨by kernel_rfl, by kernel_rfl, by rfl, by decide⟩
theorem elem_brow : ElemN Try.prog 89 46 1 (.slice none 0 0) 24 := ⟨by kernel_rfl, by kernel_rfl, by rfl, by decide⟩
structure PosAt (w : World) (b : Nat) (l : List (Nat × Nat)) : Prop where
 lt : b < w.heap.size
 x0 : ∀ i, i < l.length → w.cell? ⟨b, i * 2, none⟩ = some (.int .i64 (((l.getD i (0, 0)).1 : Nat) : Int))
 x1 : ∀ i, i < l.length → w.cell? ⟨b, i * 2 + 1, none⟩ = some (.int .i64 (((l.getD i (0, 0)).2 : Nat) : Int))
theorem PosAt.kept {w w' : World} {b : Nat} {l : List (Nat × Nat)} {row : Option Nat} (h : PosAt w b l) (hg : w.grownBy w' row) (hr : row ≠ some b) : PosAt w' b l :=
 ⟨Nat.lt_of_lt_of_le h.lt hg.size, fun i hi => (World.cell?_of_block (hg.block _ h.lt (fun e => hr e.symm))).trans (h.x0 i hi), fun i hi => (World.cell?_of_block (hg.block _ h.lt (fun e => hr e.symm))).trans (h.x1 i hi)⟩
theorem qV : ∀ (l : List (Nat × Nat)) (i : Nat), i < l.length → (tK l)[i * 2]? = some (.int .i64 (((l.getD i (0, 0)).1 : Nat) : Int)) ∧ (tK l)[i * 2 + 1]? = some (.int .i64 (((l.getD i (0, 0)).2 : Nat) : Int))
 | [], i, hi => by simp at hi
 | x :: l, 0, _ => ⟨rfl, rfl⟩
 | x :: l, i + 1, hi => by
  have h := qV l i (by simpa using hi)
  have e : tK (x :: l) = .int .i64 (x.1 : Int) :: .int .i64 (x.2 : Int) :: tK l := rfl
  rw [e, show (i + 1) * 2 = i * 2 + 1 + 1 by omega, show i * 2 + 1 + 1 + 1 = (i * 2 + 1) + 1 + 1 by omega]
  simpa using h
theorem PosAt.of_owns {w : World} {base e n g cap : Nat} {l : List (Nat × Nat)} (h : w.ownsRow base e 2 (.slice (some ⟨g, 0, none⟩) n cap) n (tK l)) : PosAt w g l := by
 have hadd : ∀ j, (⟨g, 0, none⟩ : Addr).add j = ⟨g, j, none⟩ := fun j => by unfold Addr.add; split <;> simp_all
 refine ⟨(h.lt g rfl).2, fun i hi => ?_, fun i hi => ?_⟩
 ·have := h.cells (g := g) rfl (i * 2) _ (qV l i hi).1
  rwa [hadd] at this
 ·have := h.cells (g := g) rfl (i * 2 + 1) _ (qV l i hi).2
  rwa [hadd] at this
theorem owns_some2 {w : World} {base e n sc : Nat} {sa : Option Addr} {xs : List Value} (h : w.ownsRow base e 2 (.slice sa n sc) n xs) (hn : 0 < n) : ∃ kb, sa = some ⟨kb, 0, none⟩ ∧ n ≤ sc ∧ sc ≤ maxLen := by
 rcases h.2 with ⟨h', h0⟩ | ⟨g, cap, cur, h1, hb, hg, hnc, hcm, _⟩
 ·omega
 ·simp only [Value.slice.injEq] at h1
  obtain ⟨rfl, -, rfl⟩ := h1
  exact ⟨g, rfl, hnc, hcm⟩
def numP (l : List (Nat × Nat)) (x : Nat × Nat) : Option Nat := if x ∈ l then some (l.idxOf x) else none
theorem numP_snoc {l : List (Nat × Nat)} {x : Nat × Nat} (h : x ∉ l) : (fun q => if q = x then some l.length else numP l q) = numP (l ++ [x]) := by
 funext q
 unfold numP
 by_cases e : q = x
 ·subst e
  rw [if_pos rfl, if_pos (by simp), List.idxOf_append, if_neg h]; simp
 ·rw [if_neg e]
  by_cases hq : q ∈ l
  ·rw [if_pos hq, if_pos (by simp [hq]), List.idxOf_append, if_pos hq]
  ·rw [if_neg hq, if_neg (by simp [hq, e])]
theorem mJ (bs : List (List Nat)) : (xG bs).Nodup := lQ bs 0
theorem sY (bs : List (List Nat)) : (xG bs).length = yC bs + bs.length := vT bs 0
theorem posOf_idx {bs : List (List Nat)} {i k : Nat} (hi : i < bs.length) (hk : k ≤ lenP bs i) : (xG bs).idxOf (i, k) = offP bs i + k := by
 obtain ⟨h1, h2⟩ := List.getElem?_eq_some_iff.1 (sZ hi hk)
 rw [← h2]
 exact (mJ bs).idxOf_getElem _ h1
theorem numP_get {bs : List (List Nat)} {i k : Nat} (hi : i < bs.length) (hk : k ≤ lenP bs i) : ((numP (xG bs) (i, k)).getD 0 : Nat) = offP bs i + k := by
 unfold numP
 rw [if_pos (List.mem_of_getElem? (sZ hi hk)), Option.getD_some, posOf_idx hi hk]
theorem lP {bs : List (List Nat)} {i k : Nat} (hi : i < bs.length) (hk : k ≤ lenP bs i) : (xG bs).take (offP bs i + k) ++ [(i, k)] = (xG bs).take (offP bs i + k + 1) := by
 obtain ⟨h1, h2⟩ := List.getElem?_eq_some_iff.1 (sZ hi hk)
 rw [List.take_succ_eq_append_getElem h1, h2]
theorem posOf_fresh {bs : List (List Nat)} {i k : Nat} (hi : i < bs.length) (hk : k ≤ lenP bs i) : (i, k) ∉ (xG bs).take (offP bs i + k) := by
 intro h
 have hn := (mJ bs).sublist (List.take_sublist (offP bs i + k + 1) _)
 rw [← lP hi hk, List.nodup_append] at hn
 exact hn.2.2 _ h _ (by simp) rfl
end Go.Proofs.Ytgbfaggnnfoamaa
