/- Part 2 of the proof: Mat, Make, AppR, TRows. -/
import Derived.Test.YtgbfaggnnfoamaaZi1
import Derived.Deep.LoopGhost
import Derived.OwnWalk
import Derived.ArgAppend
import Derived.Deep.RegionHeld3
import Derived.Deep.DrawnRows
set_option linter.unusedVariables false
set_option linter.unusedSimpArgs false
namespace Go.Proofs.Ytgbfaggnnfoamaa
open Go.RowKit
def ints (zs : List Int) : List Value := zs.map (Value.int .i64)
theorem yJ (zs : List Int) : (ints zs).length = zs.length := by simp [ints]
theorem Row.some_ {B : Nat} {w : World} {v : Value} {xs : List Value} (h : Row B w v xs) (hx : 0 < xs.length) :
  ∃ b off cap, v = .slice (some ⟨b, off, none⟩) xs.length cap ∧ b < B ∧ xs.length ≤ cap ∧ cap ≤ maxLen ∧ wE w b off xs := by
 rcases h with ⟨a, c, rfl, rfl⟩ | ⟨b, off, cap, rfl, h0, h1, h2, h3⟩
 ·simp at hx
 ·exact ⟨b, off, cap, rfl, h0, h1, h2, h3⟩
theorem Row.shape {B : Nat} {w : World} {v : Value} {xs : List Value} (h : Row B w v xs) : ∃ a cap, v = .slice a xs.length cap := by
 rcases h with ⟨a, c, rfl, rfl⟩ | ⟨b, off, cap, rfl, h0, h1, h2, h3⟩
 ·exact ⟨a, c, rfl⟩
 ·exact ⟨_, _, rfl⟩
theorem Row.len_le {B : Nat} {w : World} {v : Value} {xs : List Value} (h : Row B w v xs) : xs.length ≤ maxLen := by
 rcases h with ⟨a, c, rfl, rfl⟩ | ⟨b, off, cap, rfl, h0, h1, h2, h3⟩
 ·simp
 ·omega
theorem wE.int {w : World} {b off : Nat} {zs : List Int} (h : wE w b off (ints zs)) (i : Nat) (hi : i < zs.length) : w.cell? ⟨b, off + i, none⟩ = some (.int .i64 (zs.getD i 0)) := by
 rw [wE.map h i hi]
 simp [List.getD, List.getElem?_eq_getElem hi]
structure MatAt (B : Nat) (w : World) (t : List (List Int)) (b off : Nat) (A : Nat → Option Addr) (C : Nat → Nat) : Prop where
 lt : b < B
 ltw : b < w.heap.size
 hd : ∀ x, x < t.length → w.cell? ⟨b, off + x, none⟩ = some (.slice (A x) (t.getD x []).length (C x))
 row : ∀ x, x < t.length → Row B w (.slice (A x) (t.getD x []).length (C x)) (ints (t.getD x []))
def Mat (B : Nat) (w : World) (v : Value) (t : List (List Int)) : Prop :=
 (∃ a cap, v = .slice a 0 cap ∧ t = []) ∨ ∃ b off cap A C, v = .slice (some ⟨b, off, none⟩) t.length cap ∧ t.length ≤ cap ∧ cap ≤ maxLen ∧ MatAt B w t b off A C
theorem MatAt.kept {B : Nat} {w w' : World} {t : List (List Int)} {b off : Nat} {A : Nat → Option Addr} {C : Nat → Nat} {row : Option Nat} (h : MatAt B w t b off A C) (hg : w.grownBy w' row) (hr : ∀ k, row = some k → B ≤ k) : MatAt B w' t b off A C :=
 ⟨h.lt, Nat.lt_of_lt_of_le h.ltw hg.size, fun x hx => (World.cell?_of_block (hg.block b h.ltw (fun e => by have := hr b e.symm; have := h.lt; omega))).trans (h.hd x hx), fun x hx => (h.row x hx).kept hg hr⟩
theorem MatAt.mono {B B' : Nat} {w : World} {t : List (List Int)} {b off : Nat} {A : Nat → Option Addr} {C : Nat → Nat} (h : MatAt B w t b off A C) (hB : B ≤ B') : MatAt B' w t b off A C :=
 ⟨Nat.lt_of_lt_of_le h.lt hB, h.ltw, h.hd, fun x hx => (h.row x hx).mono hB⟩
theorem MatAt.of_heap {B : Nat} {w w' : World} {t : List (List Int)} {b off : Nat} {A : Nat → Option Addr} {C : Nat → Nat} (h : MatAt B w t b off A C) (e : w'.heap = w.heap) : MatAt B w' t b off A C :=
 ⟨h.lt, by rw [e]; exact h.ltw, fun x hx => (World.cell?_of_block (by rw [e])).trans (h.hd x hx), fun x hx => (h.row x hx).of_heap e⟩
section
variable {B B' : Nat} {w w' : World} {v : Value} {t : List (List Int)} {row : Option Nat}
theorem Mat.kept (h : Mat B w v t) (hg : w.grownBy w' row) (hr : ∀ k, row = some k → B ≤ k) : Mat B w' v t := by
 rcases h with h | ⟨b, off, cap, A, C, h1, h2, h3, h4⟩
 ·exact .inl h
 ·exact .inr ⟨b, off, cap, A, C, h1, h2, h3, h4.kept hg hr⟩
theorem Mat.mono (h : Mat B w v t) (hB : B ≤ B') : Mat B' w v t := by
 rcases h with h | ⟨b, off, cap, A, C, h1, h2, h3, h4⟩
 ·exact .inl h
 ·exact .inr ⟨b, off, cap, A, C, h1, h2, h3, h4.mono hB⟩
theorem Mat.of_heap (h : Mat B w v t) (e : w'.heap = w.heap) : Mat B w' v t := by
 rcases h with h | ⟨b, off, cap, A, C, h1, h2, h3, h4⟩
 ·exact .inl h
 ·exact .inr ⟨b, off, cap, A, C, h1, h2, h3, h4.of_heap e⟩
theorem Mat.some_ (h : Mat B w v t) (hx : 0 < t.length) : ∃ b off cap A C, v = .slice (some ⟨b, off, none⟩) t.length cap ∧ t.length ≤ cap ∧ cap ≤ maxLen ∧ MatAt B w t b off A C := by
 rcases h with ⟨_, _, _, rfl⟩ | h
 ·simp at hx
 ·exact h
theorem Mat.shape (h : Mat B w v t) : ∃ a cap, v = .slice a t.length cap := by
 rcases h with ⟨a, c, rfl, rfl⟩ | ⟨b, off, cap, A, C, rfl, _⟩
 ·exact ⟨a, c, rfl⟩
 ·exact ⟨_, _, rfl⟩
theorem Mat.len_le (h : Mat B w v t) : t.length ≤ maxLen := by
 rcases h with ⟨a, c, rfl, rfl⟩ | ⟨b, off, cap, A, C, rfl, h1, h2, _⟩
 ·simp
 ·omega
end
def EntsOk (n : Nat) (r : List Int) (j : Nat) : Prop := ∀ y, y < j → 0 ≤ r.getD y 0 ∧ r.getD y 0 < n
theorem xI : ElemOk Try.prog 30 3 (.int .i64 0) 8 := ⟨Try.underlying30, by kernel_rfl, rfl⟩
theorem wL : ElemOk Try.prog 46 4 (.bool false) 1 := ⟨Try.underlying46, by kernel_rfl, rfl⟩
theorem vX : ElemOk Try.prog 47 30 (.slice none 0 0) 24 := ⟨Try.underlying47, by kernel_rfl, rfl⟩
theorem made_list {z : Value} (hz : z.cells = #[z]) : ∀ (n : Nat), (madeCells z.cells (n * 1)).toList = List.replicate n z := by
 intro n
 rw [Nat.mul_one, hz]
 apply List.ext_getElem
 ·simp [madeCells]
 ·intro i h1 h2
  simp [madeCells, Nat.mod_one]
theorem pV {P : Program} {w : World} {ops : Array Oper} {rest : List Oper} {o : Oper} {a : Act} {Q : Exit → Act → World → Prop} (hgd : o.guard = none) (l c : Operand) (t : TypeId) (ho : o.op = .makeSlice t l c)
  {e : TypeId} {z : Value} {bytes : Nat} (E : ElemOk P t e z bytes) (hz : z.cells = #[z]) (kl kc : IntKind) (L C : Int) (n : Nat) (hl : a.eval l = .int kl L) (hc : a.eval c = .int kc C) (hL : L = (n : Int)) (hC : C = (n : Int)) (hb : bytes * n ≤ 281474976710656) (h63 : n ≤ maxLen)
  (h : ∀ w', Arr w' w.heap.size e (List.replicate n z) → w.grownBy w' none → w.heap.size < w'.heap.size → wpList P ops Q rest (a.put o.dst (.slice (some ⟨w.heap.size, 0, none⟩) n n)) w') : wpList P ops Q (o :: rest) a w := by
 obtain ⟨i, hi, hz', hsz, hby⟩ := info_parts E.hi
 refine wpList_make_full w hgd l c t ho w.heap.size e i z 1 E.ht hi hz' hsz kl kc L C n hl hc hL hC (by rw [hby]; exact hb) h63 (Nat.le_refl _) ?_
 intro w' hown hg
 have ha := Arr.of_owns hown
 rw [made_list hz] at ha
 exact h w' ha hg ha.lt
theorem uA {w : World} {base base' e size : Nat} {v : Value} {n : Nat} {xs : List Value} (h : w.ownsRow base e size v n xs) (hb : base' ≤ base) : w.ownsRow base' e size v n xs := by
 refine ⟨h.1, ?_⟩
 rcases h.2 with h2 | ⟨g, cap, cur, h1, h2, h3⟩
 ·exact .inl h2
 ·exact .inr ⟨g, cap, cur, h1, Nat.le_trans hb h2, h3⟩
theorem tV {w : World} {base e n sc : Nat} {sa : Option Addr} {xs : List Value} (h : w.ownsRow base e 1 (.slice sa n sc) n xs) (hn : 0 < n) : ∃ kb, sa = some ⟨kb, 0, none⟩ ∧ n ≤ sc ∧ sc ≤ maxLen ∧ Arr w kb e xs := by
 rcases h.2 with ⟨h', h0⟩ | ⟨g, cap, cur, h1, hb, hg, hnc, hcm, _⟩
 ·omega
 ·simp only [Value.slice.injEq] at h1
  obtain ⟨rfl, -, rfl⟩ := h1
  exact ⟨g, rfl, hnc, hcm, Arr.of_owns h⟩
def lC (w w' : World) (v v' : Value) : Prop := v'.ownBlock = v.ownBlock ∨ (w.grownBy w' none ∧ ∀ k, v'.ownBlock = some k → w.heap.size ≤ k)
theorem app1s {P : Program} {w : World} {ops : Array Oper} {rest : List Oper} {o : Oper} {a : Act} {Q : Exit → Act → World → Prop} (hgd : o.guard = none) (s x : Operand) (t : TypeId)
  (ho : o.op = .call { callee := .builtin .append, args := #[s, x], argTypes := #[t, t] })
  {e : TypeId} {z : Value} {bytes : Nat} (E : ElemOk P t e z bytes) (base : Nat) (v : Value) (n : Nat) (xs : List Value) (hs : a.eval s = v) (hown : w.ownsRow base e 1 v n xs)
  (u : Value) (hx : a.eval x = .slice (some ⟨w.heap.size, 0, none⟩) 1 1) (h1 : u.oneCell' = true) (h63 : n + 1 ≤ maxLen) (hbytes : (n + 1) * bytes ≤ 140737488355328) (hbase : base ≤ w.heap.size)
  (h : ∀ sa sc w', w'.ownsRow base e 1 (.slice sa (n + 1) sc) (n + 1) (xs ++ [u]) → w.grownBy w' v.ownBlock → w.heap.size < w'.heap.size → lC w w' v (.slice sa (n + 1) sc) → wpList P ops Q rest (a.put o.dst (.slice sa (n + 1) sc)) w') :
  wpList P ops Q (o :: rest) a (w.alloc (.cells #[u] e)) := by
 obtain ⟨i, hi, hz, hsz, hby⟩ := info_parts E.hi
 have hnews : ∀ j u', [u][j]? = some u' → (w.alloc (.cells #[u] e)).cell? ((⟨w.heap.size, 0, none⟩ : Addr).add j) = some u' := by
  intro j u' hj
  match j, hj with
  | 0, hj => simp at hj; subst hj; simp [Addr.add]
 have hone : ∀ u' ∈ [u], u'.oneCell' = true := by intro u' hu; simp at hu; subst hu; exact h1
 have hA := World.grownBy_alloc w (.cells #[u] e) none
 have fin : ∀ v' w', w'.ownsRow base e 1 v' (n + 1) (xs ++ [u]) → (w.alloc (.cells #[u] e)).grownBy w' v.ownBlock → (v'.ownBlock = v.ownBlock ∨ ((w.alloc (.cells #[u] e)).grownBy w' none ∧ ∀ k, v'.ownBlock = some k → w.heap.size ≤ k)) → wpList P ops Q rest (a.put o.dst v') w' := by
  intro v' w' h1 h2 h3
  obtain ⟨sa, sc, rfl⟩ := tW h1
  refine h sa sc w' h1 ?_ (by have := h2.size; simp at this; omega) ?_
  ·exact ⟨h2.os, h2.tape, h2.output, by have := h2.size; simp at this; omega, fun k hk hne => (h2.block k (by simp; omega) hne).trans (Below.heap_alloc w _ k hk)⟩
  ·rcases h3 with h3 | ⟨h3, h4⟩
   ·exact .inl h3
   ·exact .inr ⟨zE hA h3, h4⟩
 rcases hown.2 with ⟨rfl, rfl⟩ | ⟨g, cap, cur, rfl, hb, hg, hnc, hcm, hcs, htake⟩
 ·have hl : xs = [] := List.eq_nil_of_length_eq_zero (by have := hown.1; omega)
  subst hl
  refine wpList_append_grows _ hgd s x t ho e i z 1 bytes E.ht hi hz hsz hby E.hz (by decide) none 0 0 [] hs (fun _ => ⟨rfl, rfl⟩) rfl (fun b hb => by cases hb) ⟨w.heap.size, 0, none⟩ 1 1 [u] hx rfl hnews hone (by omega) h63 hbytes ?_
  intro v' w' h1 h2
  exact fin v' w' (uA h1 (by simp; omega)) (yY h2) (.inr ⟨h2, fun k hk => by have := (h1.lt k hk).1; simp at this; omega⟩)
 ·by_cases hroom : n + 1 ≤ cap
  ·refine wpList_append_fits _ hgd s x t ho base e i 1 E.ht hi hsz g n cap xs hs (hown.alloc _) ⟨w.heap.size, 0, none⟩ 1 1 [u] hx rfl hnews hone hroom ?_
   intro w' h1 h2
   exact fin _ w' h1 h2 (.inl rfl)
  ·refine wpList_append_grows _ hgd s x t ho e i z 1 bytes E.ht hi hz hsz hby E.hz (by decide) (some ⟨g, 0, none⟩) n cap xs hs (fun h => by cases h) hown.1 (fun b hb j u' hj => ?_) ⟨w.heap.size, 0, none⟩ 1 1 [u] hx rfl hnews hone (by omega) h63 hbytes ?_
   ·simp at hb
    subst hb
    have hj' : j < xs.length := by
     rcases Nat.lt_or_ge j xs.length with h | h
     ·exact h
     ·rw [List.getElem?_eq_none h] at hj; cases hj
    have := (Arr.of_owns (hown.alloc (.cells #[u] e))).cell j hj'
    rw [List.getElem?_eq_getElem hj'] at hj
    have hadd : (⟨g, 0, none⟩ : Addr).add j = ⟨g, j, none⟩ := by unfold Addr.add; split <;> simp_all
    rw [hadd, this]; exact hj
   ·intro v' w' h1 h2
    exact fin v' w' (uA h1 (by simp; omega)) (yY h2) (.inr ⟨h2, fun k hk => by have := (h1.lt k hk).1; simp at this; omega⟩)
def bls (bs : List Bool) : List Value := bs.map Value.bool
def nats (l : List Nat) : List Value := l.map fun (x : Nat) => Value.int .i64 (x : Int)
theorem xQ (bs : List Bool) : (bls bs).length = bs.length := by simp [bls]
theorem zZ (l : List Nat) : (nats l).length = l.length := by simp [nats]
theorem Arr.bool {w : World} {g : Nat} {e : TypeId} {bs : List Bool} (h : Arr w g e (bls bs)) (i : Nat) (hi : i < bs.length) : w.cell? ⟨g, i, none⟩ = some (.bool (bs.getD i false)) := by
 rw [h.cell i (by rw [xQ]; exact hi)]
 simp [bls, List.getD, List.getElem?_eq_getElem hi]
theorem Arr.int {w : World} {g : Nat} {e : TypeId} {zs : List Int} (h : Arr w g e (ints zs)) (i : Nat) (hi : i < zs.length) : w.cell? ⟨g, i, none⟩ = some (.int .i64 (zs.getD i 0)) := by
 rw [h.cell i (by rw [yJ]; exact hi)]
 simp [ints, List.getD, List.getElem?_eq_getElem hi]
theorem Arr.nat {w : World} {g : Nat} {e : TypeId} {l : List Nat} (h : Arr w g e (nats l)) (i : Nat) (hi : i < l.length) : w.cell? ⟨g, i, none⟩ = some (.int .i64 ((l.getD i 0 : Nat) : Int)) := by
 rw [h.cell i (by rw [zZ]; exact hi)]
 simp [nats, List.getD, List.getElem?_eq_getElem hi]
theorem wE.nat {w : World} {b off : Nat} {l : List Nat} (h : wE w b off (nats l)) (i : Nat) (hi : i < l.length) : w.cell? ⟨b, off + i, none⟩ = some (.int .i64 ((l.getD i 0 : Nat) : Int)) := by
 rw [wE.map h i hi]
 simp [List.getD, List.getElem?_eq_getElem hi]
theorem Arr.bool_set {w : World} {g : Nat} {e : TypeId} {bs : List Bool} (h : Arr w g e (bls bs)) (i : Nat) (hi : i < bs.length) (c : Bool) : Arr (w.setCell ⟨g, i, none⟩ (.bool c)) g e (bls (bs.set i c)) := by
 have := h.set i (by rw [xQ]; exact hi) (.bool c)
 rwa [bls, List.map_set]
theorem Arr.int_set {w : World} {g : Nat} {e : TypeId} {zs : List Int} (h : Arr w g e (ints zs)) (i : Nat) (hi : i < zs.length) (c : Int) : Arr (w.setCell ⟨g, i, none⟩ (.int .i64 c)) g e (ints (zs.set i c)) := by
 have := h.set i (by rw [yJ]; exact hi) (.int .i64 c)
 rwa [ints, List.map_set]
theorem Arr.nat_set {w : World} {g : Nat} {e : TypeId} {l : List Nat} (h : Arr w g e (nats l)) (i : Nat) (hi : i < l.length) (c : Nat) : Arr (w.setCell ⟨g, i, none⟩ (.int .i64 (c : Int))) g e (nats (l.set i c)) := by
 have := h.set i (by rw [zZ]; exact hi) (.int .i64 (c : Int))
 rwa [nats, List.map_set]
theorem sJ (n : Nat) (c : Bool) : bls (List.replicate n c) = List.replicate n (.bool c) := by simp [bls]
theorem xJ (n : Nat) : nats (List.replicate n 0) = List.replicate n (.int .i64 0) := by simp [nats]
theorem tO (n : Nat) : ints (List.replicate n 0) = List.replicate n (.int .i64 0) := by simp [ints]
theorem rE (l : List Nat) (x : Nat) : nats (l ++ [x]) = nats l ++ [.int .i64 (x : Int)] := by simp [nats]
theorem tF (l : List Nat) : nats l = ints (l.map fun (x : Nat) => (x : Int)) := by simp [nats, ints]
theorem getD_set_ne {α : Type} (l : List α) (i j : Nat) (c d : α) (hne : i ≠ j) : (l.set i c).getD j d = l.getD j d := by simp [List.getD, List.getElem?_set_ne hne]
theorem zY {α : Type} {l : List α} {k : Nat} {d : α} (h : k < l.length) : l.take (k + 1) = l.take k ++ [l.getD k d] := by
 rw [List.take_succ_eq_append_getElem h]; simp [List.getD, List.getElem?_eq_getElem h]
theorem uR (w : World) (c1 c2 : Array Value) (e : Nat) : ((w.alloc (.cells c1 e)).alloc (.cells c2 e)).heap[w.heap.size]? = some (.cells c1 e (0, 0)) ∧ ((w.alloc (.cells c1 e)).alloc (.cells c2 e)).heap[w.heap.size + 1]? = some (.cells c2 e (0, 0)) ∧ w.grownBy ((w.alloc (.cells c1 e)).alloc (.cells c2 e)) none ∧ ((w.alloc (.cells c1 e)).alloc (.cells c2 e)).heap.size = w.heap.size + 2 := by
 refine ⟨zA (heap_alloc_new w _) (World.grownBy_alloc _ _ none) (by simp), ?_, yV (World.grownBy_alloc w _ none) _, by rw [zL, zL]⟩
 have := heap_alloc_new (w.alloc (.cells c1 e)) (.cells c2 e)
 rw [zL] at this
 exact this
theorem owns_shape_n {w : World} {base e size n : Nat} {v : Value} {xs : List Value} (h : w.ownsRow base e size v n xs) : ∃ sa sc, v = .slice sa n sc := by
 rcases h.2 with ⟨rfl, rfl⟩ | ⟨g, cap, cur, rfl, _⟩
 ·exact ⟨none, 0, rfl⟩
 ·exact ⟨_, _, rfl⟩
theorem qA (w : World) (o o' : Obj) : ((w.alloc o).alloc o').heap[w.heap.size]? = some o := zA (heap_alloc_new w o) (World.grownBy_alloc _ _ none) (by simp)
theorem rW (w : World) (o o' : Obj) : ((w.alloc o).alloc o').heap[w.heap.size + 1]? = some o' := by
 have := heap_alloc_new (w.alloc o) o'
 rwa [zL] at this
theorem wE.take {w : World} {b off : Nat} {xs : List Value} (h : wE w b off xs) (k : Nat) : wE w b off (xs.take k) :=
 ⟨h.1, fun i hi => by rw [List.length_take] at hi; rw [h.2 i (by omega), List.getElem_take]⟩
theorem wE.drop {w : World} {b off : Nat} {xs : List Value} (h : wE w b off xs) (k : Nat) : wE w b (off + k) (xs.drop k) :=
 ⟨h.1, fun i hi => by rw [List.length_drop] at hi; rw [Nat.add_assoc, h.2 (k + i) (by omega), List.getElem_drop]⟩
def RowT (B : Nat) (e : TypeId) (w : World) (v : Value) (xs : List Value) : Prop :=
 (v = .slice none 0 0 ∧ xs = []) ∨ ∃ b off cap cur m, v = .slice (some ⟨b, off, none⟩) xs.length cap ∧ b < B ∧ xs.length ≤ cap ∧ cap ≤ maxLen ∧ w.heap[b]? = some (.cells cur e m) ∧ ∀ i (h : i < xs.length), cur[off + i]? = some xs[i]
theorem RowT.row {B : Nat} {e : TypeId} {w : World} {v : Value} {xs : List Value} (h : RowT B e w v xs) : Row B w v xs := by
 rcases h with h | ⟨b, off, cap, cur, m, h1, h2, h3, h4, h5, h6⟩
 ·exact .inl ⟨_, _, h⟩
 ·exact .inr ⟨b, off, cap, h1, h2, h3, h4, zQ h5, fun i hi => by rw [cell_of_row w b (off + i) _ _ _ h5]; exact h6 i hi⟩
theorem RowT.mono {B B' : Nat} {e : TypeId} {w : World} {v : Value} {xs : List Value} (h : RowT B e w v xs) (hB : B ≤ B') : RowT B' e w v xs := by
 rcases h with h | ⟨b, off, cap, cur, m, h1, h2, h3⟩
 ·exact .inl h
 ·exact .inr ⟨b, off, cap, cur, m, h1, by omega, h3⟩
def xV (w : World) (e : TypeId) (k : Nat) : Prop := ∃ cur e' m, w.heap[k]? = some (.cells cur e' m) ∧ e' ≠ e
theorem RowT.kept {B : Nat} {e : TypeId} {w w' : World} {v : Value} {xs : List Value} {row : Option Nat} (h : RowT B e w v xs) (hg : w.grownBy w' row) (hr : ∀ k, row = some k → B ≤ k ∨ xV w e k) : RowT B e w' v xs := by
 rcases h with h | ⟨b, off, cap, cur, m, h1, h2, h3, h4, h5, h6⟩
 ·exact .inl h
 ·refine .inr ⟨b, off, cap, cur, m, h1, h2, h3, h4, zA h5 hg (fun eq => ?_), h6⟩
  rcases hr b eq with hk | ⟨cur', e', m', hk, hne⟩
  ·omega
  ·rw [h5] at hk; simp at hk; exact hne hk.2.1.symm
theorem RowT.of_heap {B : Nat} {e : TypeId} {w w' : World} {v : Value} {xs : List Value} (h : RowT B e w v xs) (he : w'.heap = w.heap) : RowT B e w' v xs := by
 rcases h with h | ⟨b, off, cap, cur, m, h1, h2, h3, h4, h5, h6⟩
 ·exact .inl h
 ·exact .inr ⟨b, off, cap, cur, m, h1, h2, h3, h4, by rw [he]; exact h5, h6⟩
theorem RowT.of_owns {w : World} {base e : Nat} {v : Value} {n : Nat} {xs : List Value} (h : w.ownsRow base e 1 v n xs) : RowT w.heap.size e w v xs := by
 have hl : xs.length = n := by have := h.1; omega
 rcases h.2 with ⟨rfl, rfl⟩ | ⟨g, cap, cur, rfl, hb, hg, hnc, hcm, hcs, htake⟩
 ·exact .inl ⟨rfl, List.eq_nil_of_length_eq_zero hl⟩
 ·refine .inr ⟨g, 0, cap, cur, (0, 0), by rw [hl], zQ hg, by omega, hcm, hg, fun i hi => ?_⟩
  have := h.cellAt i (by omega)
  rw [cell_of_row w g i _ _ _ hg] at this
  rw [Nat.zero_add, this, List.getElem?_eq_getElem hi]
theorem xE {w : World} {base e e' size : Nat} {v : Value} {n : Nat} {xs : List Value} (h : w.ownsRow base e size v n xs) (hne : e ≠ e') : ∀ k, v.ownBlock = some k → xV w e' k := by
 intro k hk
 rcases h.2 with ⟨rfl, _⟩ | ⟨g, cap, cur, rfl, _, hg, _⟩
 ·simp [Value.ownBlock] at hk
 ·simp [Value.ownBlock] at hk
  subst hk
  exact ⟨cur, e, (0, 0), hg, hne⟩
def uF {α : Type} (B : Nat) (e : TypeId) (f : α → List Value) (w : World) (svs : List Value) (ps : List α) : Prop :=
 svs.length = ps.length ∧ ∀ i (h : i < svs.length) (h' : i < ps.length), RowT B e w svs[i] (f ps[i])
section
variable {α : Type} {B : Nat} {e : TypeId} {f : α → List Value} {w : World} {svs : List Value} {ps : List α}
theorem uF.nil : uF B e f w [] [] := ⟨rfl, fun i h => by simp at h⟩
theorem uF.kept {w' : World} {row : Option Nat} (h : uF B e f w svs ps) (hg : w.grownBy w' row) (hr : ∀ k, row = some k → B ≤ k ∨ xV w e k) : uF B e f w' svs ps :=
 ⟨h.1, fun i h1 h2 => (h.2 i h1 h2).kept hg hr⟩
theorem uF.mono {B' : Nat} (h : uF B e f w svs ps) (hB : B ≤ B') : uF B' e f w svs ps := ⟨h.1, fun i h1 h2 => (h.2 i h1 h2).mono hB⟩
theorem uF.snoc {sv : Value} {p : α} (h : uF B e f w svs ps) (hs : RowT B e w sv (f p)) : uF B e f w (svs ++ [sv]) (ps ++ [p]) := by
 refine ⟨by simp [h.1], fun i h1 h2 => ?_⟩
 by_cases hi : i < svs.length
 ·rw [List.getElem_append_left hi, List.getElem_append_left (by rw [← h.1]; exact hi)]
  exact h.2 i hi _
 ·have : i = svs.length := by simp at h1; omega
  subst this
  rw [List.getElem_append_right (Nat.le_refl _), List.getElem_append_right (by rw [h.1]; exact Nat.le_refl _)]
  simpa [h.1] using hs
end
end Go.Proofs.Ytgbfaggnnfoamaa
