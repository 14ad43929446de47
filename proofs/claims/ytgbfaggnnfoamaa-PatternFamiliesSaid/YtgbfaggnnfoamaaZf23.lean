/- Part 23 of the proof: RSort. -/
import Derived.Test.YtgbfaggnnfoamaaZf22
set_option linter.unusedVariables false
set_option linter.unusedSimpArgs false
namespace Go.Proofs.Ytgbfaggnnfoamaa
open Go.RowKit
theorem wY {w : World} {base e g n c : Nat} {xs : List Value} (h : w.ownsRow base e 1 (.slice (some ⟨g, 0, none⟩) n c) n xs) (i : Nat) (u : Value) : (w.setCell ⟨g, i, none⟩ u).ownsRow base e 1 (.slice (some ⟨g, 0, none⟩) n c) n (xs.set i u) := by
 obtain ⟨h1, h2⟩ := h
 refine ⟨by simpa using h1, ?_⟩
 rcases h2 with ⟨e1, _⟩ | ⟨g', cap, cur, e1, hb, hg, hnc, hcm, hcs, htake⟩
 ·simp at e1
 ·simp only [Value.slice.injEq, Option.some.injEq, Addr.mk.injEq, and_true] at e1
  obtain ⟨rfl, _, rfl⟩ := e1
  refine .inr ⟨g, c, cur.setIfInBounds i u, rfl, hb, heap_setCell_same w g i _ _ u hg, hnc, hcm, by simpa using hcs, ?_⟩
  rw [← htake, Array.toList_setIfInBounds, List.take_set]
theorem RowsT.swap {α : Type} {B : Nat} {e : TypeId} {f : α → List Value} {w : World} {svs : List Value} {ps : List α} (h : RowsT B e f w svs ps) {i : Nat} {x y : Value} {p q : α} (hx : svs[i]? = some x) (hy : svs[i + 1]? = some y) (hp : ps[i]? = some p) (hq : ps[i + 1]? = some q) :
  RowsT B e f w ((svs.set i y).set (i + 1) x) ((ps.set i q).set (i + 1) p) := by
 obtain ⟨a1, rfl⟩ := List.getElem?_eq_some_iff.1 hx
 obtain ⟨a2, rfl⟩ := List.getElem?_eq_some_iff.1 hy
 obtain ⟨b1, rfl⟩ := List.getElem?_eq_some_iff.1 hp
 obtain ⟨b2, rfl⟩ := List.getElem?_eq_some_iff.1 hq
 refine ⟨by simpa using h.1, fun k h1 h2 => ?_⟩
 rw [List.getElem_set, List.getElem_set, List.getElem_set, List.getElem_set]
 by_cases e1 : i + 1 = k
 ·rw [if_pos e1, if_pos e1]; exact h.2 i a1 b1
 ·rw [if_neg e1, if_neg e1]
  by_cases e2 : i = k
  ·rw [if_pos e2, if_pos e2]; exact h.2 (i + 1) a2 b2
  ·rw [if_neg e2, if_neg e2]; exact h.2 k (by simpa using h1) (by simpa using h2)
theorem LUp.swap {e base g n c i : Nat} {w : World} {svs : List Value} {ps : List (List (List Int))} (h : LUp e base w (.slice (some ⟨g, 0, none⟩) n c) n svs ps) {x y : Value} {p q : List (List Int)} (hx : svs[i]? = some x) (hy : svs[i + 1]? = some y) (hp : ps[i]? = some p) (hq : ps[i + 1]? = some q)
  {W : World} (hW : W = (w.setCell ⟨g, i + 1, none⟩ x).setCell ⟨g, i, none⟩ y ∨ W = (w.setCell ⟨g, i, none⟩ y).setCell ⟨g, i + 1, none⟩ x) :
  LUp e base W (.slice (some ⟨g, 0, none⟩) n c) n ((svs.set i y).set (i + 1) x) ((ps.set i q).set (i + 1) p) ∧ w.grownBy W (some g) := by
 have hg : w.grownBy W (some g) := by
  rcases hW with rfl | rfl
  ·exact zE (zX w ⟨g, i + 1, none⟩ x) (zX _ ⟨g, i, none⟩ y)
  ·exact zE (zX w ⟨g, i, none⟩ y) (zX _ ⟨g, i + 1, none⟩ x)
 refine ⟨⟨?_, ?_, h.ne⟩, hg⟩
 ·rcases hW with rfl | rfl
  ·have h2 := wY (wY h.own (i + 1) x) i y
   rwa [List.set_comm _ _ (by omega)] at h2
  ·exact wY (wY h.own i y) (i + 1) x
 ·have hot := zH h.own h.ne
  exact (((h.rows.swap hx hy hp hq).kept hg (fun k e => .inr (hot k (by rw [← e]; rfl)))).mono hg.size)
theorem LUp.drewN {e base n : Nat} {w : World} {v : Value} {svs : List Value} {ps : List (List (List Int))} (h : LUp e base w v n svs ps) : LUp e base w.drew v n svs ps := h.kept (zO w none) (by simp)
theorem LUp.at {base g n c i : Nat} {w : World} {svs : List Value} {ps : List (List (List Int))} (h : LUp 36 base w (.slice (some ⟨g, 0, none⟩) n c) n svs ps) (hi : i < n) :
  ∃ (a : Option Addr) (d : Nat) (p : List (List Int)), svs[i]? = some (.slice a p.length d) ∧ ps[i]? = some p ∧ w.cell? ⟨g, i, none⟩ = some (.slice a p.length d) ∧ RowT w.heap.size 9 w (.slice a p.length d) (strs p) := by
 have hl := h.own.1
 have hl2 := h.rows.1
 have hr := h.rows.2 i (by omega) (by omega)
 obtain ⟨a, d, e⟩ := hr.row.shape
 rw [zK] at e
 refine ⟨a, d, ps[i]'(by omega), by rw [← e]; exact List.getElem?_eq_getElem _, List.getElem?_eq_getElem _, ?_, by rw [← e]; exact hr⟩
 have := (RowT.of_owns h.own).row
 rcases this with ⟨a0, c0, e0, hx⟩ | ⟨b', off', cap', hv, _, _, _, hra⟩
 ·simp only [Value.slice.injEq] at e0; omega
 ·simp only [Value.slice.injEq, Option.some.injEq, Addr.mk.injEq, and_true] at hv
  obtain ⟨⟨rfl, rfl⟩, _⟩ := hv
  have hc := hra.2 i (by omega)
  rw [Nat.zero_add] at hc
  rw [hc, ← e]
def InsI (L ps : List (List (List Int))) (i j : Nat) : Prop := ∃ A x B C, ps = A ++ x :: (B ++ C) ∧ A.length = j ∧ A.length + B.length = i ∧ sortP (A ++ B) ∧ (∀ b ∈ B, lessP x b = true) ∧ ps.Perm L
theorem xH {L ps : List (List (List Int))} {i : Nat} (hs : sortP (ps.take i)) (hi : i < ps.length) (hp : ps.Perm L) : InsI L ps i i :=
 ⟨ps.take i, ps[i], [], ps.drop (i + 1), by rw [List.nil_append, ← List.drop_eq_getElem_cons hi, List.take_append_drop], by simp; omega, by simp; omega, by simpa using hs, by simp, hp⟩
theorem swap_list {α : Type} (a x : α) (R : List α) : ∀ A : List α, ((A ++ a :: x :: R).set A.length x).set (A.length + 1) a = A ++ x :: a :: R
 | [] => rfl
 | b :: A => by have := swap_list a x R A; simp [this]
theorem split_last {α : Type} {A : List α} {j : Nat} (h : A.length = j + 1) : ∃ A' a, A = A' ++ [a] ∧ A'.length = j := by
 have hne : A ≠ [] := by intro e; rw [e] at h; simp at h
 exact ⟨A.dropLast, A.getLast hne, (List.dropLast_concat_getLast hne).symm, by simp [h]⟩
theorem xZ {L ps : List (List (List Int))} {i j : Nat} {p q : List (List Int)} (h : InsI L ps i (j + 1)) (hp : ps[j]? = some p) (hq : ps[j + 1]? = some q) (hl : lessP q p = true) : InsI L ((ps.set j q).set (j + 1) p) i j := by
 obtain ⟨A, x, B, C, rfl, hA, hi, hs, hB, hperm⟩ := h
 obtain ⟨A', a, rfl, rfl⟩ := split_last hA
 have e0 : A' ++ [a] ++ x :: (B ++ C) = A' ++ a :: x :: (B ++ C) := by simp
 rw [e0] at hp hq hperm ⊢
 have e1 : a = p := by rw [List.getElem?_append_right (Nat.le_refl _)] at hp; simpa using hp
 have e2 : x = q := by rw [List.getElem?_append_right (by omega)] at hq; simpa using hq
 subst e1; subst e2
 rw [swap_list]
 refine ⟨A', x, a :: B, C, by simp, rfl, by simp at hi ⊢; omega, by simpa using hs, ?_, (List.Perm.append_left A' (List.Perm.swap _ _ _)).trans hperm⟩
 intro b hb
 rcases List.mem_cons.1 hb with rfl | hb
 ·exact hl
 ·exact hB b hb
theorem yG {L ps : List (List (List Int))} {i j : Nat} (h : InsI L ps i j) (hn : L.Nodup) (hd : j = 0 ∨ ∃ k p q, j = k + 1 ∧ ps[k]? = some p ∧ ps[k + 1]? = some q ∧ lessP q p = false) : sortP (ps.take (i + 1)) ∧ ps.Perm L := by
 obtain ⟨A, x, B, C, rfl, hA, hi, hs, hB, hperm⟩ := h
 refine ⟨?_, hperm⟩
 have et : (A ++ x :: (B ++ C)).take (i + 1) = A ++ x :: B := by
  have e3 : A ++ x :: (B ++ C) = (A ++ x :: B) ++ C := by simp
  rw [e3, List.take_left' (by simp; omega)]
 rw [et]
 have hs2 := List.pairwise_append.1 hs
 have hnd := hperm.nodup_iff.2 hn
 have hAx : ∀ a ∈ A, lessP a x = true := by
  rcases hd with rfl | ⟨k, p, q, rfl, hp, hq, hl⟩
  ·intro a ha; rw [List.eq_nil_of_length_eq_zero hA] at ha; simp at ha
  ·obtain ⟨A', a, rfl, rfl⟩ := split_last hA
   have e0 : A' ++ [a] ++ x :: (B ++ C) = A' ++ a :: x :: (B ++ C) := by simp
   rw [e0] at hp hq hnd
   have e1 : a = p := by rw [List.getElem?_append_right (Nat.le_refl _)] at hp; simpa using hp
   have e2 : x = q := by rw [List.getElem?_append_right (by omega)] at hq; simpa using hq
   subst e1; subst e2
   have hne : a ≠ x := by
    have h3 := (List.pairwise_append.1 hnd).2.1
    have h4 := (List.pairwise_cons.1 h3).1 x (by simp)
    exact h4
   have hax : lessP a x = true := by
    rcases lessP_total hne with h | h
    ·exact h
    ·rw [hl] at h; cases h
   intro b hb
   rcases List.mem_append.1 hb with hb | hb
   ·have h5 := (List.pairwise_append.1 hs2.1).2.2 b hb a (by simp)
    exact lessP_trans h5 hax
   ·have : b = a := by simpa using hb
    rw [this]; exact hax
 refine List.pairwise_append.2 ⟨hs2.1, List.pairwise_cons.2 ⟨hB, hs2.2.1⟩, fun a ha b hb => ?_⟩
 rcases List.mem_cons.1 hb with rfl | hb
 ·exact hAx a ha
 ·exact hs2.2.2 a ha b hb
theorem sorted_is {l m : List (List (List Int))} (h1 : sortP l) (h2 : sortP m) (h : l.Perm m) : l = m := lessP_ext h1 h2 fun _ => h.mem_iff
end Go.Proofs.Ytgbfaggnnfoamaa
