/- Part 8 of the proof: Make, AppR. -/
import Derived.Test.YtgbfaggnnfoamaaZg7
import Derived.OwnWalk
import Derived.ArgAppend
import Derived.Deep.RegionHeld3
import Derived.Deep.DrawnRows
set_option linter.unusedVariables false
set_option linter.unusedSimpArgs false
namespace Go.Proofs.Ytgbfaggnnfoamaa
open Go.RowKit
theorem wU : ElemOk Try.prog 30 3 (.int .i64 0) 8 := ⟨Try.underlying30, by kernel_rfl, rfl⟩
theorem nF : ElemOk Try.prog 46 4 (.bool false) 1 := ⟨Try.underlying46, by kernel_rfl, rfl⟩
theorem oH : ElemOk Try.prog 47 30 (.slice none 0 0) 24 := ⟨Try.underlying47, by kernel_rfl, rfl⟩
theorem oY {z : Value} (hz : z.cells = #[z]) : ∀ (n : Nat), (madeCells z.cells (n * 1)).toList = List.replicate n z := by
 intro n
 rw [Nat.mul_one, hz]
 apply List.ext_getElem
 ·simp [madeCells]
 ·intro i h1 h2
  simp [madeCells, Nat.mod_one]
theorem nO {P : Program} {w : World} {ops : Array Oper} {rest : List Oper} {o : Oper} {a : Act} {Q : Exit → Act → World → Prop} (hgd : o.guard = none) (l c : Operand) (t : TypeId) (ho : o.op = .makeSlice t l c)
  {e : TypeId} {z : Value} {bytes : Nat} (E : ElemOk P t e z bytes) (hz : z.cells = #[z]) (kl kc : IntKind) (L C : Int) (n : Nat) (hl : a.eval l = .int kl L) (hc : a.eval c = .int kc C) (hL : L = (n : Int)) (hC : C = (n : Int)) (hb : bytes * n ≤ 281474976710656) (h63 : n ≤ maxLen)
  (h : ∀ w', Arr w' w.heap.size e (List.replicate n z) → w.grownBy w' none → w.heap.size < w'.heap.size → wpList P ops Q rest (a.put o.dst (.slice (some ⟨w.heap.size, 0, none⟩) n n)) w') : wpList P ops Q (o :: rest) a w := by
 obtain ⟨i, hi, hz', hsz, hby⟩ := info_parts E.hi
 refine wpList_make_full w hgd l c t ho w.heap.size e i z 1 E.ht hi hz' hsz kl kc L C n hl hc hL hC (by rw [hby]; exact hb) h63 (Nat.le_refl _) ?_
 intro w' hown hg
 have ha := Arr.of_owns hown
 rw [oY hz] at ha
 exact h w' ha hg ha.lt
theorem rG {w : World} {base base' e size : Nat} {v : Value} {n : Nat} {xs : List Value} (h : w.ownsRow base e size v n xs) (hb : base' ≤ base) : w.ownsRow base' e size v n xs := by
 refine ⟨h.1, ?_⟩
 rcases h.2 with h2 | ⟨g, cap, cur, h1, h2, h3⟩
 ·exact .inl h2
 ·exact .inr ⟨g, cap, cur, h1, Nat.le_trans hb h2, h3⟩
theorem owns_some {w : World} {base e n sc : Nat} {sa : Option Addr} {xs : List Value} (h : w.ownsRow base e 1 (.slice sa n sc) n xs) (hn : 0 < n) : ∃ kb, sa = some ⟨kb, 0, none⟩ ∧ n ≤ sc ∧ sc ≤ maxLen ∧ Arr w kb e xs := by
 rcases h.2 with ⟨h', h0⟩ | ⟨g, cap, cur, h1, hb, hg, hnc, hcm, _⟩
 ·omega
 ·simp only [Value.slice.injEq] at h1
  obtain ⟨rfl, -, rfl⟩ := h1
  exact ⟨g, rfl, hnc, hcm, Arr.of_owns h⟩
def lY (w w' : World) (v v' : Value) : Prop := v'.ownBlock = v.ownBlock ∨ (w.grownBy w' none ∧ ∀ k, v'.ownBlock = some k → w.heap.size ≤ k)
theorem lN {P : Program} {w : World} {ops : Array Oper} {rest : List Oper} {o : Oper} {a : Act} {Q : Exit → Act → World → Prop} (hgd : o.guard = none) (s x : Operand) (t : TypeId)
  (ho : o.op = .call { callee := .builtin .append, args := #[s, x], argTypes := #[t, t] })
  {e : TypeId} {z : Value} {bytes : Nat} (E : ElemOk P t e z bytes) (base : Nat) (v : Value) (n : Nat) (xs : List Value) (hs : a.eval s = v) (hown : w.ownsRow base e 1 v n xs)
  (u : Value) (hx : a.eval x = .slice (some ⟨w.heap.size, 0, none⟩) 1 1) (h1 : u.oneCell' = true) (h63 : n + 1 ≤ maxLen) (hbytes : (n + 1) * bytes ≤ 140737488355328) (hbase : base ≤ w.heap.size)
  (h : ∀ sa sc w', w'.ownsRow base e 1 (.slice sa (n + 1) sc) (n + 1) (xs ++ [u]) → w.grownBy w' v.ownBlock → w.heap.size < w'.heap.size → lY w w' v (.slice sa (n + 1) sc) → wpList P ops Q rest (a.put o.dst (.slice sa (n + 1) sc)) w') :
  wpList P ops Q (o :: rest) a (w.alloc (.cells #[u] e)) := by
 obtain ⟨i, hi, hz, hsz, hby⟩ := info_parts E.hi
 have hnews : ∀ j u', [u][j]? = some u' → (w.alloc (.cells #[u] e)).cell? ((⟨w.heap.size, 0, none⟩ : Addr).add j) = some u' := by
  intro j u' hj
  match j, hj with
  | 0, hj => simp at hj; subst hj; simp [Addr.add]
 have hone : ∀ u' ∈ [u], u'.oneCell' = true := by intro u' hu; simp at hu; subst hu; exact h1
 have hA := World.grownBy_alloc w (.cells #[u] e) none
 have fin : ∀ v' w', w'.ownsRow base e 1 v' (n + 1) (xs ++ [u]) → (w.alloc (.cells #[u] e)).grownBy w' v.ownBlock → (v'.ownBlock = v.ownBlock ∨ ((w.alloc (.cells #[u] e)).grownBy w' none ∧ ∀ k, v'.ownBlock = some k → w.heap.size ≤ k)) → wpList P ops Q rest (a.put o.dst v') w' := by
  intro v' w' h1 h2 h3
  obtain ⟨sa, sc, rfl⟩ := sX h1
  refine h sa sc w' h1 ?_ (by have := h2.size; simp at this; omega) ?_
  ·exact ⟨h2.os, h2.tape, h2.output, by have := h2.size; simp at this; omega, fun k hk hne => (h2.block k (by simp; omega) hne).trans (Below.heap_alloc w _ k hk)⟩
  ·rcases h3 with h3 | ⟨h3, h4⟩
   ·exact .inl h3
   ·exact .inr ⟨zH hA h3, h4⟩
 rcases hown.2 with ⟨rfl, rfl⟩ | ⟨g, cap, cur, rfl, hb, hg, hnc, hcm, hcs, htake⟩
 ·have hl : xs = [] := List.eq_nil_of_length_eq_zero (by have := hown.1; omega)
  subst hl
  refine wpList_append_grows _ hgd s x t ho e i z 1 bytes E.ht hi hz hsz hby E.hz (by decide) none 0 0 [] hs (fun _ => ⟨rfl, rfl⟩) rfl (fun b hb => by cases hb) ⟨w.heap.size, 0, none⟩ 1 1 [u] hx rfl hnews hone (by omega) h63 hbytes ?_
  intro v' w' h1 h2
  exact fin v' w' (rG h1 (by simp; omega)) (rK h2) (.inr ⟨h2, fun k hk => by have := (h1.lt k hk).1; simp at this; omega⟩)
 ·by_cases hroom : n + 1 ≤ cap
  ·refine wpList_append_fits _ hgd s x t ho base e i 1 E.ht hi hsz g n cap xs hs (hown.alloc _) ⟨w.heap.size, 0, none⟩ 1 1 [u] hx rfl hnews hone hroom ?_
   intro w' h1 h2
   exact fin _ w' h1 h2 (.inl rfl)
  ·refine wpList_append_grows _ hgd s x t ho e i z 1 bytes E.ht hi hz hsz hby E.hz (by decide) (some ⟨g, 0, none⟩) n cap xs hs (fun h => by cases h) hown.1 (fun b hb j u' hj => ?_) ⟨w.heap.size, 0, none⟩ 1 1 [u] hx rfl hnews hone (by omega) h63 hbytes ?_
   ·simp at hb
    subst hb
    have hj' : j < xs.length := by
     rcases Nat.lt_or_ge j xs.length with h | h
     ·exact h
     ·rw [List.getElem?_eq_none h] at hj; cases hj
    have := (Arr.of_owns (hown.alloc (.cells #[u] e))).cell j hj'
    rw [List.getElem?_eq_getElem hj'] at hj
    have hadd : (⟨g, 0, none⟩ : Addr).add j = ⟨g, j, none⟩ := by unfold Addr.add; split <;> simp_all
    rw [hadd, this]; exact hj
   ·intro v' w' h1 h2
    exact fin v' w' (rG h1 (by simp; omega)) (rK h2) (.inr ⟨h2, fun k hk => by have := (h1.lt k hk).1; simp at this; omega⟩)
def bls (bs : List Bool) : List Value := bs.map Value.bool
def nats (l : List Nat) : List Value := l.map fun (x : Nat) => Value.int .i64 (x : Int)
theorem yR (bs : List Bool) : (bls bs).length = bs.length := by simp [bls]
theorem yB (l : List Nat) : (nats l).length = l.length := by simp [nats]
theorem Arr.bool {w : World} {g : Nat} {e : TypeId} {bs : List Bool} (h : Arr w g e (bls bs)) (i : Nat) (hi : i < bs.length) : w.cell? ⟨g, i, none⟩ = some (.bool (bs.getD i false)) := by
 rw [h.cell i (by rw [yR]; exact hi)]
 simp [bls, List.getD, List.getElem?_eq_getElem hi]
theorem Arr.int {w : World} {g : Nat} {e : TypeId} {zs : List Int} (h : Arr w g e (ints zs)) (i : Nat) (hi : i < zs.length) : w.cell? ⟨g, i, none⟩ = some (.int .i64 (zs.getD i 0)) := by
 rw [h.cell i (by rw [yV]; exact hi)]
 simp [ints, List.getD, List.getElem?_eq_getElem hi]
theorem Arr.nat {w : World} {g : Nat} {e : TypeId} {l : List Nat} (h : Arr w g e (nats l)) (i : Nat) (hi : i < l.length) : w.cell? ⟨g, i, none⟩ = some (.int .i64 ((l.getD i 0 : Nat) : Int)) := by
 rw [h.cell i (by rw [yB]; exact hi)]
 simp [nats, List.getD, List.getElem?_eq_getElem hi]
theorem xN.nat {w : World} {b off : Nat} {l : List Nat} (h : xN w b off (nats l)) (i : Nat) (hi : i < l.length) : w.cell? ⟨b, off + i, none⟩ = some (.int .i64 ((l.getD i 0 : Nat) : Int)) := by
 rw [xN.map h i hi]
 simp [List.getD, List.getElem?_eq_getElem hi]
theorem Arr.bool_set {w : World} {g : Nat} {e : TypeId} {bs : List Bool} (h : Arr w g e (bls bs)) (i : Nat) (hi : i < bs.length) (c : Bool) : Arr (w.setCell ⟨g, i, none⟩ (.bool c)) g e (bls (bs.set i c)) := by
 have := h.set i (by rw [yR]; exact hi) (.bool c)
 rwa [bls, List.map_set]
theorem Arr.int_set {w : World} {g : Nat} {e : TypeId} {zs : List Int} (h : Arr w g e (ints zs)) (i : Nat) (hi : i < zs.length) (c : Int) : Arr (w.setCell ⟨g, i, none⟩ (.int .i64 c)) g e (ints (zs.set i c)) := by
 have := h.set i (by rw [yV]; exact hi) (.int .i64 c)
 rwa [ints, List.map_set]
theorem Arr.nat_set {w : World} {g : Nat} {e : TypeId} {l : List Nat} (h : Arr w g e (nats l)) (i : Nat) (hi : i < l.length) (c : Nat) : Arr (w.setCell ⟨g, i, none⟩ (.int .i64 (c : Int))) g e (nats (l.set i c)) := by
 have := h.set i (by rw [yB]; exact hi) (.int .i64 (c : Int))
 rwa [nats, List.map_set]
theorem xL (n : Nat) : nats (List.replicate n 0) = List.replicate n (.int .i64 0) := by simp [nats]
theorem tU (n : Nat) : ints (List.replicate n 0) = List.replicate n (.int .i64 0) := by simp [ints]
theorem nats_snoc (l : List Nat) (x : Nat) : nats (l ++ [x]) = nats l ++ [.int .i64 (x : Int)] := by simp [nats]
theorem yW {α : Type} {l : List α} {k : Nat} {d : α} (h : k < l.length) : l.take (k + 1) = l.take k ++ [l.getD k d] := by
 rw [List.take_succ_eq_append_getElem h]; simp [List.getD, List.getElem?_eq_getElem h]
theorem rZ (w : World) (c1 c2 : Array Value) (e : Nat) : ((w.alloc (.cells c1 e)).alloc (.cells c2 e)).heap[w.heap.size]? = some (.cells c1 e (0, 0)) ∧ ((w.alloc (.cells c1 e)).alloc (.cells c2 e)).heap[w.heap.size + 1]? = some (.cells c2 e (0, 0)) ∧ w.grownBy ((w.alloc (.cells c1 e)).alloc (.cells c2 e)) none ∧ ((w.alloc (.cells c1 e)).alloc (.cells c2 e)).heap.size = w.heap.size + 2 := by
 refine ⟨zA (heap_alloc_new w _) (World.grownBy_alloc _ _ none) (by simp), ?_, yO (World.grownBy_alloc w _ none) _, by rw [yS, yS]⟩
 have := heap_alloc_new (w.alloc (.cells c1 e)) (.cells c2 e)
 rw [yS] at this
 exact this
theorem rB (w : World) (o o' : Obj) : ((w.alloc o).alloc o').heap[w.heap.size]? = some o := zA (heap_alloc_new w o) (World.grownBy_alloc _ _ none) (by simp)
theorem sY (w : World) (o o' : Obj) : ((w.alloc o).alloc o').heap[w.heap.size + 1]? = some o' := by
 have := heap_alloc_new (w.alloc o) o'
 rwa [yS] at this
theorem xN.take {w : World} {b off : Nat} {xs : List Value} (h : xN w b off xs) (k : Nat) : xN w b off (xs.take k) :=
 ⟨h.1, fun i hi => by rw [List.length_take] at hi; rw [h.2 i (by omega), List.getElem_take]⟩
theorem xN.drop {w : World} {b off : Nat} {xs : List Value} (h : xN w b off xs) (k : Nat) : xN w b (off + k) (xs.drop k) :=
 ⟨h.1, fun i hi => by rw [List.length_drop] at hi; rw [Nat.add_assoc, h.2 (k + i) (by omega), List.getElem_drop]⟩
end Go.Proofs.Ytgbfaggnnfoamaa
