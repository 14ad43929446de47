/- Part 7 of the proof: PatsUp. -/
import Derived.Test.YtgbfaggnnfoamaaZf6
set_option linter.unusedVariables false
set_option linter.unusedSimpArgs false
namespace Go.Proofs.Ytgbfaggnnfoamaa
open Go.RowKit
structure PatsUp (base : Nat) (w : World) (v : Value) (n : Nat) (svs : List Value) (ps : List (List (List Int))) : Prop where
 own : w.ownsRow base 36 1 v n svs
 rows : RowsT w.heap.size 9 strs w svs ps
theorem RowT.lit {w w' : World} {cs : Array Value} {e : TypeId} {row : Option Nat} {q : Nat} {xs : List Value} (hc : cs.toList = xs) (hq : cs.size = q) (hm : q ≤ maxLen) (hg : (w.alloc (.cells cs e)).grownBy w' row) (hr : row ≠ some w.heap.size) : RowT w'.heap.size e w' (.slice (some ⟨w.heap.size, 0, none⟩) q q) xs := by
 have hb := yQ (heap_alloc_new w (.cells cs e)) hg hr
 have hl : xs.length = q := by rw [← hc, ← hq]; simp
 refine .inr ⟨w.heap.size, 0, q, cs, (0, 0), by rw [hl], xX hb, by omega, hm, hb, fun i hi => ?_⟩
 rw [Nat.zero_add, ← Array.getElem?_toList, hc, List.getElem?_eq_getElem hi]
theorem PatsUp.push {base n q : Nat} {w w' : World} {v v' : Value} {svs : List Value} {ps : List (List (List Int))} {us : List (List Int)} {cs : Array Value} (h : PatsUp base w v n svs ps) (hc : cs.toList = strs us) (hq : cs.size = q) (hm : q ≤ maxLen)
  (hown : w'.ownsRow base 36 1 v' (n + 1) (svs ++ [.slice (some ⟨w.heap.size, 0, none⟩) q q])) (hg : (w.alloc (.cells cs 9)).grownBy w' v.ownBlock) :
  PatsUp base w' v' (n + 1) (svs ++ [.slice (some ⟨w.heap.size, 0, none⟩) q q]) (ps ++ [us]) ∧ w.grownBy w' v.ownBlock := by
 have hlt : ∀ k, v.ownBlock = some k → k < w.heap.size := fun k hk => (h.own.lt k hk).2
 have hA := World.grownBy_alloc w (.cells cs 9) none
 have hoA := h.own.alloc (.cells cs 9)
 have hot := zH hoA (e' := 9) (by decide)
 refine ⟨⟨hown, ?_⟩, zE (World.grownBy_alloc w _ _) hg⟩
 have h1 := h.rows.kept hA (by simp)
 have h2 := (h1.kept hg (fun k e => .inr (hot k e))).mono (Nat.le_trans hA.size hg.size)
 exact h2.snoc (RowT.lit hc hq hm hg (fun e => by have := hlt _ e; omega))
theorem PatsUp.nil (base : Nat) (w : World) : PatsUp base w (.slice none 0 0) 0 [] [] := ⟨World.ownsRow_nil _ _ _ _, RowsT.nil⟩
theorem PatsUp.kept {base n : Nat} {w w' : World} {v : Value} {svs : List Value} {ps : List (List (List Int))} {row : Option Nat} (h : PatsUp base w v n svs ps) (hg : w.grownBy w' row) (hr : ∀ k, row = some k → w.heap.size ≤ k) : PatsUp base w' v n svs ps := by
 refine ⟨h.own.kept hg ?_, (h.rows.kept hg (fun k e => .inl (hr k e))).mono hg.size⟩
 rcases hv : v.ownBlock with _ | k
 ·exact .inl rfl
 ·exact .inr fun e => by have := hr k e.symm; have := (h.own.lt k hv).2; omega
theorem PatsUp.listed {base n : Nat} {w w0 : World} {sa : Option Addr} {sc : Nat} {svs : List Value} {ps : List (List (List Int))} (h : PatsUp base w (.slice sa n sc) n svs ps) (hg : w0.grownBy w none) (hn : ps.length = n) : yS w0 ps (.returned (.slice sa n sc)) w :=
 ⟨sa, sc, svs, by rw [hn], by rw [hn]; exact RowT.of_owns h.own, h.rows, hg⟩
theorem zL {B b off sc : Nat} {w : World} {ws : List (List Int)} (h : RowT B 9 w (.slice (some ⟨b, off, none⟩) ws.length sc) (strs ws)) {i : Nat} (hi : i < ws.length) : w.cell? ⟨b, off + i, none⟩ = some (.string (strOfNums ws[i])) := by
 rcases h.row with ⟨_, _, h, _⟩ | ⟨b', off', cap', hv, _, _, _, hra⟩
 ·have h2 : ws.length = 0 := by injection h
  omega
 ·simp only [Value.slice.injEq, Option.some.injEq, Addr.mk.injEq, and_true] at hv
  obtain ⟨⟨rfl, rfl⟩, _⟩ := hv
  have := hra.map i hi
  exact this
theorem zS {B : Nat} {w : World} {sa : Option Addr} {sc : Nat} {ws : List (List Int)} (h : RowT B 9 w (.slice sa ws.length sc) (strs ws)) (hp : 0 < ws.length) : ∃ b off, sa = some ⟨b, off, none⟩ ∧ ws.length ≤ sc ∧ sc ≤ maxLen := by
 rcases h with ⟨hn, hn2⟩ | ⟨b, off, cap, cur, m, hv, hb, hc1, hc2, hblk, hcell⟩
 ·have := congrArg List.length hn2; rw [zK] at this; simp at this; simp [this] at hp
 ·simp only [Value.slice.injEq] at hv
  obtain ⟨rfl, _, rfl⟩ := hv
  rw [zK] at hc1
  exact ⟨b, off, rfl, hc1, hc2⟩
end Go.Proofs.Ytgbfaggnnfoamaa
