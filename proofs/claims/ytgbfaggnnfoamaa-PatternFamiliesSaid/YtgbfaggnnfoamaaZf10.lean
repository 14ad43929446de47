/- Part 10 of the proof: Chains0. -/
import Derived.Test.YtgbfaggnnfoamaaZf9
set_option linter.unusedVariables false
set_option linter.unusedSimpArgs false
namespace Go.Proofs.Ytgbfaggnnfoamaa
open Go.RowKit
def exts (bs : List (List (List Int))) (ws : List (List Int)) : List (List (List Int)) := bs.flatMap fun b => ws.map fun u => b ++ [u]
def chB (ws : List (List Int)) : Nat → List (List (List Int))
 | 0 => ws.map oneB
 | i + 1 => exts (chB ws i) (ws.drop 1)
def chL (ws : List (List Int)) : Nat → List (List (List Int))
 | 0 => ws.map oneB
 | i + 1 => chL ws i ++ exts (chB ws i) ws
theorem vN (ws : List (List Int)) (i : Nat) : ∀ d, chL ws i <+: chL ws (i + d)
 | 0 => List.prefix_refl _
 | d + 1 => (vN ws i d).trans (List.prefix_append _ _)
theorem wG {bs : List (List (List Int))} {ws : List (List Int)} {p : Nat} (hp : p < bs.length) : exts (bs.take (p + 1)) ws = exts (bs.take p) ws ++ ws.map fun u => bs[p] ++ [u] := by
 rw [exts, List.take_succ_eq_append_getElem hp, List.flatMap_append]; simp [exts]
theorem exts_pre (bs : List (List (List Int))) (ws : List (List Int)) (p : Nat) : exts (bs.take p) ws <+: exts bs ws := by
 conv => rhs; rw [← List.take_append_drop p bs]
 rw [exts, exts, List.flatMap_append]; exact List.prefix_append _ _
theorem vH {bs : List (List (List Int))} {ws : List (List Int)} {p : Nat} (hp : p < bs.length) (q : Nat) : exts (bs.take p) ws ++ (ws.take q).map (fun u => bs[p] ++ [u]) <+: exts bs ws := by
 refine List.IsPrefix.trans ?_ (exts_pre bs ws (p + 1))
 rw [wG hp]
 exact List.prefix_append_right_inj _ |>.2 ((List.take_prefix q ws).map _)
theorem wQ {ws : List (List Int)} : ∀ (i : Nat) {b : List (List Int)}, b ∈ chB ws i → b.length = i + 1
 | 0, b, h => by
  obtain ⟨u, _, rfl⟩ := List.mem_map.1 h; rfl
 | i + 1, b, h => by
  obtain ⟨c, hc, hb⟩ := List.mem_flatMap.1 h
  obtain ⟨u, _, rfl⟩ := List.mem_map.1 hb
  rw [List.length_append, wQ i hc]; rfl
theorem yD (bs : List (List (List Int))) (ws : List (List Int)) : (exts bs ws).length = bs.length * ws.length := by
 induction bs with
 | nil => simp [exts]
 | cons b bs ih =>
  have : exts (b :: bs) ws = (ws.map fun u => b ++ [u]) ++ exts bs ws := rfl
  rw [this, List.length_append, ih, List.length_map, List.length_cons, Nat.succ_mul]; omega
theorem chB_le {ws : List (List Int)} (hw : 1 ≤ ws.length) : ∀ i, (chB ws i).length ≤ (chL ws i).length ∧ (exts (chB ws i) (ws.drop 1)).length ≤ (chL ws (i + 1)).length := by
 have step : ∀ i, (exts (chB ws i) (ws.drop 1)).length ≤ (chL ws (i + 1)).length := fun i => by
  rw [chL, List.length_append, yD, yD, List.length_drop]
  have := Nat.mul_le_mul_left (chB ws i).length (show ws.length - 1 ≤ ws.length by omega)
  omega
 intro i
 refine ⟨?_, step i⟩
 cases i with
 | zero => exact Nat.le_refl _
 | succ i => exact step i
theorem vS {ws : List (List Int)} (h : 2 ≤ ws.length) : ∀ i, 1 ≤ (chB ws i).length
 | 0 => by simp [chB]; omega
 | i + 1 => by
  rw [chB, yD, List.length_drop]
  exact Nat.mul_pos (vS h i) (by omega)
theorem rowT_some {B e : Nat} {w : World} {sa : Option Addr} {n sc : Nat} {xs : List Value} (h : RowT B e w (.slice sa n sc) xs) (hp : 1 ≤ n) : ∃ b off, sa = some ⟨b, off, none⟩ ∧ n ≤ sc ∧ sc ≤ maxLen := by
 rcases h with ⟨hn, hn2⟩ | ⟨b, off, cap, cur, m, hv, hb, hc1, hc2, hblk, hcell⟩
 ·simp only [Value.slice.injEq] at hn; omega
 ·simp only [Value.slice.injEq] at hv
  obtain ⟨rfl, rfl, rfl⟩ := hv
  exact ⟨b, off, rfl, hc1, hc2⟩
structure LUp (e base : Nat) (w : World) (v : Value) (n : Nat) (svs : List Value) (ps : List (List (List Int))) : Prop where
 own : w.ownsRow base e 1 v n svs
 rows : RowsT w.heap.size 9 strs w svs ps
 ne : e ≠ 9
theorem LUp.len {e base n : Nat} {w : World} {v : Value} {svs : List Value} {ps : List (List (List Int))} (h : LUp e base w v n svs ps) : n = ps.length := by
 have := h.own.1; have := h.rows.1; omega
theorem LUp.nil {e : Nat} (he : e ≠ 9) (base : Nat) (w : World) : LUp e base w (.slice none 0 0) 0 [] [] := ⟨World.ownsRow_nil _ _ _ _, RowsT.nil, he⟩
theorem LUp.kept {e base n : Nat} {w w' : World} {v : Value} {svs : List Value} {ps : List (List (List Int))} {row : Option Nat} (h : LUp e base w v n svs ps) (hg : w.grownBy w' row) (hr : ∀ k, row = some k → w.heap.size ≤ k ∨ (xK w 9 k ∧ xK w e k)) : LUp e base w' v n svs ps := by
 refine ⟨h.own.kept hg ?_, (h.rows.kept hg (fun k e => (hr k e).imp id (·.1))).mono hg.size, h.ne⟩
 rcases hv : v.ownBlock with _ | k
 ·exact .inl rfl
 ·refine .inr fun e1 => ?_
  rcases hr k e1.symm with h1 | ⟨_, cur, e', m, hb, hn⟩
  ·have := (h.own.lt k hv).2; omega
  ·exact vK h.own hb (fun e2 => hn e2.symm) hv
theorem LUp.push {e base n m b2 : Nat} {w w1 w' : World} {v v' sv : Value} {svs : List Value} {ps : List (List (List Int))} {us : List (List Int)} (h : LUp e base w v n svs ps) (hg1 : w.grownBy w1 none) (ho1 : w1.ownsRow b2 9 1 sv m (strs us))
  (hown : w'.ownsRow base e 1 v' (n + 1) (svs ++ [sv])) (hg : w1.grownBy w' v.ownBlock) : LUp e base w' v' (n + 1) (svs ++ [sv]) (ps ++ [us]) ∧ w.grownBy w' v.ownBlock := by
 have h1 := h.kept hg1 (by simp)
 have hot := zH h1.own h.ne
 refine ⟨⟨hown, ?_, h.ne⟩, zE (grownBy_weak hg1) hg⟩
 have h2 := ((h1.rows.snoc (RowT.of_owns ho1)).kept hg (fun k e => .inr (hot k e))).mono hg.size
 exact h2
theorem LUp.ofPats {base n : Nat} {w : World} {v : Value} {svs : List Value} {ps : List (List (List Int))} (h : PatsUp base w v n svs ps) : LUp 36 base w v n svs ps := ⟨h.own, h.rows, by decide⟩
theorem wH : ElemOk Try.prog 80 34 (.slice none 0 0) 24 := ⟨Try.underlying80, by kernel_rfl, rfl⟩
structure LRead (B : Nat) (w : World) (v : Value) (svs : List Value) (bs : List (List (List Int))) : Prop where
 row : RowT B 34 w v svs
 rows : RowsT B 9 strs w svs bs
theorem LRead.kept {B : Nat} {w w' : World} {v : Value} {svs : List Value} {bs : List (List (List Int))} {row : Option Nat} (h : LRead B w v svs bs) (hg : w.grownBy w' row) (hr : ∀ k, row = some k → B ≤ k ∨ (xK w 34 k ∧ xK w 9 k)) : LRead B w' v svs bs :=
 ⟨h.row.kept hg (fun k e => (hr k e).imp id (·.1)), h.rows.kept hg (fun k e => (hr k e).imp id (·.2))⟩
theorem LRead.at {B b off sc n : Nat} {w : World} {svs : List Value} {bs : List (List (List Int))} (h : LRead B w (.slice (some ⟨b, off, none⟩) n sc) svs bs) (hn : n = bs.length) {p : Nat} (hp : p < n) : ∃ (a : Option Addr) (c : Nat), w.cell? ⟨b, off + p, none⟩ = some (.slice a (bs[p]'(by omega)).length c) ∧ RowT B 9 w (.slice a (bs[p]'(by omega)).length c) (strs (bs[p]'(by omega))) := by
 have hl := h.rows.1
 have h2 := h.rows.2 p (by omega) (by omega)
 have hrow := h.row.row
 rcases hrow with ⟨a0, c0, e, hx⟩ | ⟨b', off', cap', hv, _, _, _, hra⟩
 ·simp only [Value.slice.injEq] at e; omega
 ·simp only [Value.slice.injEq, Option.some.injEq, Addr.mk.injEq, and_true] at hv
  obtain ⟨⟨rfl, rfl⟩, _⟩ := hv
  have hc := hra.2 p (by omega)
  obtain ⟨a, c, e⟩ := h2.row.shape
  rw [zK] at e
  refine ⟨a, c, ?_, ?_⟩
  ·rw [hc, e]
  ·rw [← e]; exact h2
theorem LRead.of {base n : Nat} {w : World} {v : Value} {svs : List Value} {bs : List (List (List Int))} (h : LUp 34 base w v n svs bs) : LRead w.heap.size w v svs bs := ⟨RowT.of_owns h.own, h.rows⟩
end Go.Proofs.Ytgbfaggnnfoamaa
