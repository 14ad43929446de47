/- Part 45 of the proof: FamRef, RSort, RFamE, RFamB. -/
import Derived.Test.YtjfdomfendbhfaaQb44
import Derived.Lib.OthersKept
set_option linter.unusedVariables false
set_option linter.unusedSimpArgs false
namespace Go.Proofs.Ytjfdomfendbhfaa
def genU (kind : Int) (k : Nat) (u : List Int) : List (List (List Int)) :=
 (if kind = 1 ∨ kind = 7 ∨ (kind ≠ 6 ∧ u.length < k) then [oneB u] else []) ++ (if u = [] then [] else (if kind = 2 ∨ kind = 4 ∨ kind = 5 then [preB u] else []) ++ ((if kind = 3 ∨ kind = 4 ∨ kind = 5 then [sufB u] else []) ++ ((if kind = 5 then [facB u] else []) ++ (if kind = 6 then [tR u] else []))))
def genL (kind : Int) (k : Nat) (W : List (List Int)) : List (List (List Int)) := W.flatMap (genU kind k)
def refL (kind : Int) (letters k m : Nat) : List (List (List Int)) := genL kind k (yQ letters k) ++ (if kind = 7 then (allC (yQ letters k) (m + 1)).take 301 else [])
theorem sR (kind : Int) (k : Nat) {W : List (List Int)} {j : Nat} (h : j < W.length) : genL kind k (W.take (j + 1)) = genL kind k (W.take j) ++ genU kind k W[j] := by
 rw [genL, List.take_succ_eq_append_getElem h, List.flatMap_append]; simp [genL]
theorem tJ {α β : Type} (f g : α → List β) : ∀ l : List α, (l.flatMap fun x => f x ++ g x).Perm (l.flatMap f ++ l.flatMap g)
 | [] => by simp
 | a :: l => by
  simp only [List.flatMap_cons]
  have ih := tJ f g l
  have h1 : (f a ++ g a ++ l.flatMap fun x => f x ++ g x).Perm (f a ++ g a ++ (l.flatMap f ++ l.flatMap g)) := List.Perm.append_left _ ih
  refine h1.trans ?_
  rw [List.append_assoc, List.append_assoc]
  refine List.Perm.append_left _ ?_
  rw [← List.append_assoc, ← List.append_assoc]
  exact List.Perm.append_right _ List.perm_append_comm
theorem flat_if {α β : Type} (c : α → Prop) [DecidablePred c] (h : α → β) : ∀ l : List α, (l.flatMap fun x => if c x then [h x] else []) = (l.filter fun x => decide (c x)).map h
 | [] => rfl
 | a :: l => by
  simp only [List.flatMap_cons, flat_if c h l, List.filter_cons]
  by_cases hc : c a <;> simp [hc]
theorem filter_short (letters k : Nat) : ((yQ letters k).filter fun u => decide (u.length < k)) = upTo letters k := by
 rw [yQ, yU, List.filter_append]
 have e1 : (upTo letters k).filter (fun u => decide (u.length < k)) = upTo letters k := List.filter_eq_self.2 fun u hu => by simpa using oU hu
 have e2 : (lex letters k).filter (fun u => decide (u.length < k)) = [] := List.filter_eq_nil_iff.2 fun u hu => by rw [(sO hu).1]; simp
 rw [e1, e2, List.append_nil]
theorem vP {α β : Type} {f g : α → List β} : ∀ {l : List α}, (∀ x ∈ l, f x = g x) → l.flatMap f = l.flatMap g
 | [], _ => rfl
 | a :: l, h => by rw [List.flatMap_cons, List.flatMap_cons, h a (by simp), vP fun x hx => h x (by simp [hx])]
theorem jW {letters k : Nat} (f : List Int → List (List (List Int))) : ((yQ letters k).flatMap fun u => if u = [] then [] else f u) = ((yQ letters k).drop 1).flatMap f := by
 obtain ⟨r, e, hr⟩ := kR letters k
 rw [yQ, e]
 simp only [List.flatMap_cons, if_pos, List.nil_append, List.drop_one, List.tail_cons]
 exact vP fun u hu => by rw [if_neg (hr u hu)]
theorem tD {α β : Type} (h : α → β) (l : List α) : (l.flatMap fun x => [h x]) = l.map h := by induction l with
 | nil => rfl
 | cons a l ih => simp [ih]
theorem genU_1 (k : Nat) (u : List Int) : genU 1 k u = [oneB u] := by unfold genU; by_cases h : u = [] <;> simp [h]
theorem genU_7 (k : Nat) (u : List Int) : genU 7 k u = [oneB u] := by unfold genU; by_cases h : u = [] <;> simp [h]
theorem genU_2 (k : Nat) (u : List Int) : genU 2 k u = (if u.length < k then [oneB u] else []) ++ (if u = [] then [] else [preB u]) := by unfold genU; by_cases h : u = [] <;> simp [h]
theorem genU_3 (k : Nat) (u : List Int) : genU 3 k u = (if u.length < k then [oneB u] else []) ++ (if u = [] then [] else [sufB u]) := by unfold genU; by_cases h : u = [] <;> simp [h]
theorem genU_4 (k : Nat) (u : List Int) : genU 4 k u = (if u.length < k then [oneB u] else []) ++ (if u = [] then [] else [preB u] ++ [sufB u]) := by unfold genU; by_cases h : u = [] <;> simp [h]
theorem genU_5 (k : Nat) (u : List Int) : genU 5 k u = (if u.length < k then [oneB u] else []) ++ (if u = [] then [] else [preB u] ++ ([sufB u] ++ [facB u])) := by unfold genU; by_cases h : u = [] <;> simp [h]
theorem genU_6 (k : Nat) (u : List Int) : genU 6 k u = (if u = [] then [] else [tR u]) := by unfold genU; by_cases h : u = [] <;> simp [h]
theorem ref_perm {kind : Int} {letters k : Nat} (h1 : 1 ≤ kind) (h7 : kind ≤ 7) (m : Nat) (hm : (allC (yQ letters k) (m + 1)).length ≤ 301 ∨ kind ≠ 7) : (refL kind letters k m).Perm (famP kind letters k m) := by
 have hcase : kind = 1 ∨ kind = 2 ∨ kind = 3 ∨ kind = 4 ∨ kind = 5 ∨ kind = 6 ∨ kind = 7 := by omega
 have hone : ((yQ letters k).flatMap fun u => if u.length < k then [oneB u] else []) = (upTo letters k).map oneB := by rw [flat_if (fun u : List Int => u.length < k) oneB, filter_short]
 rcases hcase with rfl | rfl | rfl | rfl | rfl | rfl | rfl
 ·have e : refL 1 letters k m = famP 1 letters k m := by
   rw [refL, if_neg (by decide), List.append_nil, genL, vP fun u _ => genU_1 k u, tD]; rfl
  rw [e]
 ·rw [refL, if_neg (by decide), List.append_nil, genL, vP fun u _ => genU_2 k u]
  refine (tJ _ _ _).trans ?_
  rw [hone, jW, tD]; exact List.Perm.refl _
 ·rw [refL, if_neg (by decide), List.append_nil, genL, vP fun u _ => genU_3 k u]
  refine (tJ _ _ _).trans ?_
  rw [hone, jW, tD]; exact List.Perm.refl _
 ·rw [refL, if_neg (by decide), List.append_nil, genL, vP fun u _ => genU_4 k u]
  refine (tJ _ _ _).trans ?_
  rw [hone, jW]
  show List.Perm _ ((upTo letters k).map oneB ++ ((yQ letters k).drop 1).map sufB ++ ((yQ letters k).drop 1).map preB)
  rw [List.append_assoc]
  refine List.Perm.append_left _ ((tJ _ _ _).trans ?_)
  rw [tD, tD]; exact List.perm_append_comm
 ·rw [refL, if_neg (by decide), List.append_nil, genL, vP fun u _ => genU_5 k u]
  refine (tJ _ _ _).trans ?_
  rw [hone, jW]
  show List.Perm _ ((upTo letters k).map oneB ++ ((yQ letters k).drop 1).map sufB ++ ((yQ letters k).drop 1).map preB ++ ((yQ letters k).drop 1).map facB)
  rw [List.append_assoc, List.append_assoc]
  refine List.Perm.append_left _ ((tJ _ _ _).trans ?_)
  rw [tD]
  refine (List.Perm.append_left _ (tJ _ _ _)).trans ?_
  rw [tD, tD, ← List.append_assoc, ← List.append_assoc]
  exact List.Perm.append_right _ List.perm_append_comm
 ·have e : refL 6 letters k m = famP 6 letters k m := by
   rw [refL, if_neg (by decide), List.append_nil, genL, vP fun u _ => genU_6 k u, jW, tD]; rfl
  rw [e]
 ·have e : refL 7 letters k m = famP 7 letters k m := by
   rw [refL, if_pos rfl, genL, vP fun u _ => genU_7 k u, tD, List.take_of_length_le (by rcases hm with h | h; exact h; exact absurd rfl h)]
   show _ = chL (yQ letters k) (m + 1)
   rw [chL_all]
  rw [e]
theorem sortP_nodup {l : List (List (List Int))} (h : wS l) : l.Nodup := List.Pairwise.imp (fun {a b} h e => by rw [e, rJ] at h; cases h) h
theorem oZ {kind : Int} {letters k : Nat} (h1 : 1 ≤ kind) (h7 : kind ≤ 7) (m : Nat) : (300 < (refL kind letters k m).length ↔ 300 < (famP kind letters k m).length) := by
 by_cases hm : (allC (yQ letters k) (m + 1)).length ≤ 301 ∨ kind ≠ 7
 ·rw [(ref_perm h1 h7 m hm).length_eq]
 ·have hm1 : ¬ (allC (yQ letters k) (m + 1)).length ≤ 301 := fun h => hm (.inl h)
  have hk : kind = 7 := Decidable.not_not.1 fun h => hm (.inr h)
  subst hk
  have e1 : 301 ≤ (refL 7 letters k m).length := by
   rw [refL, if_pos rfl, List.length_append, List.length_take]; omega
  have e2 : 301 ≤ (famP 7 letters k m).length := by
   show 301 ≤ (chL (yQ letters k) (m + 1)).length
   rw [chL_all, List.length_append]; omega
  omega
end Go.Proofs.Ytjfdomfendbhfaa
namespace Go.Proofs.Ytjfdomfendbhfaa
open Go.RowKit
theorem kI {w : World} {base e g n c : Nat} {xs : List Value} (h : w.ownsRow base e 1 (.slice (some ⟨g, 0, none⟩) n c) n xs) (i : Nat) (u : Value) : (w.setCell ⟨g, i, none⟩ u).ownsRow base e 1 (.slice (some ⟨g, 0, none⟩) n c) n (xs.set i u) := by
 obtain ⟨h1, h2⟩ := h
 refine ⟨by simpa using h1, ?_⟩
 rcases h2 with ⟨e1, _⟩ | ⟨g', cap, cur, e1, hb, hg, hnc, hcm, hcs, htake⟩
 ·simp at e1
 ·simp only [Value.slice.injEq, Option.some.injEq, Addr.mk.injEq, and_true] at e1
  obtain ⟨rfl, _, rfl⟩ := e1
  refine .inr ⟨g, c, cur.setIfInBounds i u, rfl, hb, heap_setCell_same w g i _ _ u hg, hnc, hcm, by simpa using hcs, ?_⟩
  rw [← htake, Array.toList_setIfInBounds, List.take_set]
theorem wL.swap {α : Type} {B : Nat} {e : TypeId} {f : α → List Value} {w : World} {svs : List Value} {ps : List α} (h : wL B e f w svs ps) {i : Nat} {x y : Value} {p q : α} (hx : svs[i]? = some x) (hy : svs[i + 1]? = some y) (hp : ps[i]? = some p) (hq : ps[i + 1]? = some q) :
  wL B e f w ((svs.set i y).set (i + 1) x) ((ps.set i q).set (i + 1) p) := by
 obtain ⟨a1, rfl⟩ := List.getElem?_eq_some_iff.1 hx
 obtain ⟨a2, rfl⟩ := List.getElem?_eq_some_iff.1 hy
 obtain ⟨b1, rfl⟩ := List.getElem?_eq_some_iff.1 hp
 obtain ⟨b2, rfl⟩ := List.getElem?_eq_some_iff.1 hq
 refine ⟨by simpa using h.1, fun k h1 h2 => ?_⟩
 rw [List.getElem_set, List.getElem_set, List.getElem_set, List.getElem_set]
 by_cases e1 : i + 1 = k
 ·rw [if_pos e1, if_pos e1]; exact h.2 i a1 b1
 ·rw [if_neg e1, if_neg e1]
  by_cases e2 : i = k
  ·rw [if_pos e2, if_pos e2]; exact h.2 (i + 1) a2 b2
  ·rw [if_neg e2, if_neg e2]; exact h.2 k (by simpa using h1) (by simpa using h2)
theorem LUp.swap {e base g n c i : Nat} {w : World} {svs : List Value} {ps : List (List (List Int))} (h : LUp e base w (.slice (some ⟨g, 0, none⟩) n c) n svs ps) {x y : Value} {p q : List (List Int)} (hx : svs[i]? = some x) (hy : svs[i + 1]? = some y) (hp : ps[i]? = some p) (hq : ps[i + 1]? = some q)
  {W : World} (hW : W = (w.setCell ⟨g, i + 1, none⟩ x).setCell ⟨g, i, none⟩ y ∨ W = (w.setCell ⟨g, i, none⟩ y).setCell ⟨g, i + 1, none⟩ x) :
  LUp e base W (.slice (some ⟨g, 0, none⟩) n c) n ((svs.set i y).set (i + 1) x) ((ps.set i q).set (i + 1) p) ∧ w.grownBy W (some g) := by
 have hg : w.grownBy W (some g) := by
  rcases hW with rfl | rfl
  ·exact zF (zD w ⟨g, i + 1, none⟩ x) (zD _ ⟨g, i, none⟩ y)
  ·exact zF (zD w ⟨g, i, none⟩ y) (zD _ ⟨g, i + 1, none⟩ x)
 refine ⟨⟨?_, ?_, h.ne⟩, hg⟩
 ·rcases hW with rfl | rfl
  ·have h2 := kI (kI h.own (i + 1) x) i y
   rwa [List.set_comm _ _ (by omega)] at h2
  ·exact kI (kI h.own i y) (i + 1) x
 ·have hot := yB h.own h.ne
  exact (((h.rows.swap hx hy hp hq).kept hg (fun k e => .inr (hot k (by rw [← e]; rfl)))).mono hg.size)
theorem LUp.drewN {e base n : Nat} {w : World} {v : Value} {svs : List Value} {ps : List (List (List Int))} (h : LUp e base w v n svs ps) : LUp e base w.drew v n svs ps := h.kept (zP w none) (by simp)
theorem LUp.at {base g n c i : Nat} {w : World} {svs : List Value} {ps : List (List (List Int))} (h : LUp 28 base w (.slice (some ⟨g, 0, none⟩) n c) n svs ps) (hi : i < n) :
  ∃ (a : Option Addr) (d : Nat) (p : List (List Int)), svs[i]? = some (.slice a p.length d) ∧ ps[i]? = some p ∧ w.cell? ⟨g, i, none⟩ = some (.slice a p.length d) ∧ RowT w.heap.size 9 w (.slice a p.length d) (strs p) := by
 have hl := h.own.1
 have hl2 := h.rows.1
 have hr := h.rows.2 i (by omega) (by omega)
 obtain ⟨a, d, e⟩ := hr.row.shape
 rw [xG] at e
 refine ⟨a, d, ps[i]'(by omega), by rw [← e]; exact List.getElem?_eq_getElem _, List.getElem?_eq_getElem _, ?_, by rw [← e]; exact hr⟩
 have := (RowT.of_owns h.own).row
 rcases this with ⟨a0, c0, e0, hx⟩ | ⟨b', off', cap', hv, _, _, _, hra⟩
 ·simp only [Value.slice.injEq] at e0; omega
 ·simp only [Value.slice.injEq, Option.some.injEq, Addr.mk.injEq, and_true] at hv
  obtain ⟨⟨rfl, rfl⟩, _⟩ := hv
  have hc := hra.2 i (by omega)
  rw [Nat.zero_add] at hc
  rw [hc, ← e]
def InsI (L ps : List (List (List Int))) (i j : Nat) : Prop := ∃ A x B C, ps = A ++ x :: (B ++ C) ∧ A.length = j ∧ A.length + B.length = i ∧ wS (A ++ B) ∧ (∀ b ∈ B, xS x b = true) ∧ ps.Perm L
theorem sQ {L ps : List (List (List Int))} {i : Nat} (hs : wS (ps.take i)) (hi : i < ps.length) (hp : ps.Perm L) : InsI L ps i i :=
 ⟨ps.take i, ps[i], [], ps.drop (i + 1), by rw [List.nil_append, ← List.drop_eq_getElem_cons hi, List.take_append_drop], by simp; omega, by simp; omega, by simpa using hs, by simp, hp⟩
theorem swap_list {α : Type} (a x : α) (R : List α) : ∀ A : List α, ((A ++ a :: x :: R).set A.length x).set (A.length + 1) a = A ++ x :: a :: R
 | [] => rfl
 | b :: A => by have := swap_list a x R A; simp [this]
theorem split_last {α : Type} {A : List α} {j : Nat} (h : A.length = j + 1) : ∃ A' a, A = A' ++ [a] ∧ A'.length = j := by
 have hne : A ≠ [] := by intro e; rw [e] at h; simp at h
 exact ⟨A.dropLast, A.getLast hne, (List.dropLast_concat_getLast hne).symm, by simp [h]⟩
theorem qS {L ps : List (List (List Int))} {i j : Nat} {p q : List (List Int)} (h : InsI L ps i (j + 1)) (hp : ps[j]? = some p) (hq : ps[j + 1]? = some q) (hl : xS q p = true) : InsI L ((ps.set j q).set (j + 1) p) i j := by
 obtain ⟨A, x, B, C, rfl, hA, hi, hs, hB, hperm⟩ := h
 obtain ⟨A', a, rfl, rfl⟩ := split_last hA
 have e0 : A' ++ [a] ++ x :: (B ++ C) = A' ++ a :: x :: (B ++ C) := by simp
 rw [e0] at hp hq hperm ⊢
 have e1 : a = p := by rw [List.getElem?_append_right (Nat.le_refl _)] at hp; simpa using hp
 have e2 : x = q := by rw [List.getElem?_append_right (by omega)] at hq; simpa using hq
 subst e1; subst e2
 rw [swap_list]
 refine ⟨A', x, a :: B, C, by simp, rfl, by simp at hi ⊢; omega, by simpa using hs, ?_, (List.Perm.append_left A' (List.Perm.swap _ _ _)).trans hperm⟩
 intro b hb
 rcases List.mem_cons.1 hb with rfl | hb
 ·exact hl
 ·exact hB b hb
theorem vC {L ps : List (List (List Int))} {i j : Nat} (h : InsI L ps i j) (hn : L.Nodup) (hd : j = 0 ∨ ∃ k p q, j = k + 1 ∧ ps[k]? = some p ∧ ps[k + 1]? = some q ∧ xS q p = false) : wS (ps.take (i + 1)) ∧ ps.Perm L := by
 obtain ⟨A, x, B, C, rfl, hA, hi, hs, hB, hperm⟩ := h
 refine ⟨?_, hperm⟩
 have et : (A ++ x :: (B ++ C)).take (i + 1) = A ++ x :: B := by
  have e3 : A ++ x :: (B ++ C) = (A ++ x :: B) ++ C := by simp
  rw [e3, List.take_left' (by simp; omega)]
 rw [et]
 have hs2 := List.pairwise_append.1 hs
 have hnd := hperm.nodup_iff.2 hn
 have hAx : ∀ a ∈ A, xS a x = true := by
  rcases hd with rfl | ⟨k, p, q, rfl, hp, hq, hl⟩
  ·intro a ha; rw [List.eq_nil_of_length_eq_zero hA] at ha; simp at ha
  ·obtain ⟨A', a, rfl, rfl⟩ := split_last hA
   have e0 : A' ++ [a] ++ x :: (B ++ C) = A' ++ a :: x :: (B ++ C) := by simp
   rw [e0] at hp hq hnd
   have e1 : a = p := by rw [List.getElem?_append_right (Nat.le_refl _)] at hp; simpa using hp
   have e2 : x = q := by rw [List.getElem?_append_right (by omega)] at hq; simpa using hq
   subst e1; subst e2
   have hne : a ≠ x := by
    have h3 := (List.pairwise_append.1 hnd).2.1
    have h4 := (List.pairwise_cons.1 h3).1 x (by simp)
    exact h4
   have hax : xS a x = true := by
    rcases lessP_total hne with h | h
    ·exact h
    ·rw [hl] at h; cases h
   intro b hb
   rcases List.mem_append.1 hb with hb | hb
   ·have h5 := (List.pairwise_append.1 hs2.1).2.2 b hb a (by simp)
    exact jU h5 hax
   ·have : b = a := by simpa using hb
    rw [this]; exact hax
 refine List.pairwise_append.2 ⟨hs2.1, List.pairwise_cons.2 ⟨hB, hs2.2.1⟩, fun a ha b hb => ?_⟩
 rcases List.mem_cons.1 hb with rfl | hb
 ·exact hAx a ha
 ·exact hs2.2.2 a ha b hb
theorem sorted_is {l m : List (List (List Int))} (h1 : wS l) (h2 : wS m) (h : l.Perm m) : l = m := lessP_ext h1 h2 fun _ => h.mem_iff
set_option maxRecDepth 100000 in
set_option maxHeartbeats 2000000 in
theorem rfam_err (kind letters k m : Int) (w : World) (ho : wI kind letters k m = false) :
  Calls Try.prog 45 #[.int .i64 kind, .int .i64 letters, .int .i64 k, .int .i64 m] w (yY w 1 []) := by
 have HML := Kh (yL w letters)
 simp only [wI, decide_eq_false_iff_not] at ho
 have HO := Kh ho
 clear ho
 by_cases a1 : kind < 1
 ·by_cases k1 : kind = 1
  ·omega
  have k1' : (kind == 1) = false := by simpa using k1
  clear k1
  go_enter Try.func45, Try.ntmps45
  go_wp2
  refine bodyPost_ret (v := .tuple #[.slice none 0 0, .int .i64 1]) (by simp [results, Try.results45, go_sem]) rfl ?_
  exact yY.nil (zL _ _)
 by_cases a2 : 7 < kind
 ·have k1' : (kind == 1) = false := by simp; omega
  go_enter Try.func45, Try.ntmps45
  go_wp2
  refine bodyPost_ret (v := .tuple #[.slice none 0 0, .int .i64 1]) (by simp [results, Try.results45, go_sem]) rfl ?_
  exact yY.nil (zL _ _)
 by_cases a3 : 1 ≤ letters ∧ letters ≤ 6
 rotate_left
 ·rw [decide_eq_false a3] at HML
  clear a3
  by_cases k1 : kind = 1
  ·subst k1
   go_enter Try.func45, Try.ntmps45
   go_wp2_with fail
   refine HML.out.mono ?_
   rintro e w ⟨rfl, rfl⟩
   go_wp2
   refine bodyPost_ret (v := .tuple #[.slice none 0 0, .int .i64 1]) (by simp [results, Try.results45, go_sem]) rfl ?_
   exact yY.nil (zL _ _)
  ·have k1' : (kind == 1) = false := by simpa using k1
   clear k1
   go_enter Try.func45, Try.ntmps45
   go_wp2_with fail
   refine HML.out.mono ?_
   rintro e w ⟨rfl, rfl⟩
   go_wp2
   refine bodyPost_ret (v := .tuple #[.slice none 0 0, .int .i64 1]) (by simp [results, Try.results45, go_sem]) rfl ?_
   exact yY.nil (zL _ _)
 rw [decide_eq_true a3] at HML
 by_cases k1 : kind = 1
 ·subst k1
  by_cases b1 : k < 0
  ·go_enter Try.func45, Try.ntmps45
   go_wp2_with fail
   refine HML.out.mono ?_
   rintro e w ⟨rfl, rfl⟩
   go_wp2
   refine bodyPost_ret (v := .tuple #[.slice none 0 0, .int .i64 1]) (by simp [results, Try.results45, go_sem]) rfl ?_
   exact yY.nil (zL _ _)
  by_cases b2 : 8 < k
  ·go_enter Try.func45, Try.ntmps45
   go_wp2_with fail
   refine HML.out.mono ?_
   rintro e w ⟨rfl, rfl⟩
   go_wp2
   refine bodyPost_ret (v := .tuple #[.slice none 0 0, .int .i64 1]) (by simp [results, Try.results45, go_sem]) rfl ?_
   exact yY.nil (zL _ _)
  have b3 : (m != 0) = true := by rw [bne_iff_ne]; intro e; exact HO.out (by simp; omega)
  go_enter Try.func45, Try.ntmps45
  go_wp2_with fail
  refine HML.out.mono ?_
  rintro e w ⟨rfl, rfl⟩
  go_wp2
  refine bodyPost_ret (v := .tuple #[.slice none 0 0, .int .i64 1]) (by simp [results, Try.results45, go_sem]) rfl ?_
  exact yY.nil (zL _ _)
 have k1' : (kind == 1) = false := by simpa using k1
 have H1 := Kh k1
 clear k1
 by_cases b1 : k < 1
 ·go_enter Try.func45, Try.ntmps45
  go_wp2_with fail
  refine HML.out.mono ?_
  rintro e w ⟨rfl, rfl⟩
  go_wp2
  refine bodyPost_ret (v := .tuple #[.slice none 0 0, .int .i64 1]) (by simp [results, Try.results45, go_sem]) rfl ?_
  exact yY.nil (zL _ _)
 by_cases b2 : 8 < k
 ·go_enter Try.func45, Try.ntmps45
  go_wp2_with fail
  refine HML.out.mono ?_
  rintro e w ⟨rfl, rfl⟩
  go_wp2
  refine bodyPost_ret (v := .tuple #[.slice none 0 0, .int .i64 1]) (by simp [results, Try.results45, go_sem]) rfl ?_
  exact yY.nil (zL _ _)
 by_cases k7 : kind = 7
 ·subst k7
  by_cases b3 : m < 0
  ·go_enter Try.func45, Try.ntmps45
   go_wp2_with fail
   refine HML.out.mono ?_
   rintro e w ⟨rfl, rfl⟩
   go_wp2
   refine bodyPost_ret (v := .tuple #[.slice none 0 0, .int .i64 1]) (by simp [results, Try.results45, go_sem]) rfl ?_
   exact yY.nil (zL _ _)
  by_cases b4 : 4 < m
  ·go_enter Try.func45, Try.ntmps45
   go_wp2_with fail
   refine HML.out.mono ?_
   rintro e w ⟨rfl, rfl⟩
   go_wp2
   refine bodyPost_ret (v := .tuple #[.slice none 0 0, .int .i64 1]) (by simp [results, Try.results45, go_sem]) rfl ?_
   exact yY.nil (zL _ _)
  exact absurd (by rw [if_neg H1.out, if_pos rfl]; omega) HO.out
 ·have k7' : (kind == 7) = false := by simpa using k7
  have k7'' : (kind != 7) = true := by rw [bne_iff_ne]; exact k7
  have b3 : (m != 0) = true := by rw [bne_iff_ne]; intro e; exact HO.out (by rw [if_neg H1.out, if_neg k7]; omega)
  clear k7
  go_enter Try.func45, Try.ntmps45
  go_wp2_with fail
  refine HML.out.mono ?_
  rintro e w ⟨rfl, rfl⟩
  go_wp2
  refine bodyPost_ret (v := .tuple #[.slice none 0 0, .int .i64 1]) (by simp [results, Try.results45, go_sem]) rfl ?_
  exact yY.nil (zL _ _)
theorem wV (L i : Nat) : (upTo L (i + 2)).length = (upTo L (i + 1)).length + L ^ i * L := by
 rw [yU L (i + 1), List.length_append, xO, Nat.pow_succ]
theorem nI {kind : Int} {L K : Nat} (M : Nat) : (yQ L K).length ≤ (famP kind L K M).length + 1 := by
 unfold famP
 simp only
 split
 ·rw [List.length_map]; omega
 split
 ·simp only [List.length_append, List.length_map, List.length_drop]; omega
 split
 ·simp only [List.length_append, List.length_map, List.length_drop]; omega
 split
 ·simp only [List.length_append, List.length_map, List.length_drop]; omega
 split
 ·simp only [List.length_append, List.length_map, List.length_drop]; omega
 split
 ·simp only [List.length_append, List.length_map, List.length_drop]; omega
 ·rw [chL_all, List.length_append, List.length_map]; omega
theorem wX {kind : Int} {L K M : Nat} (ho : wI kind L K M = true) (h : (kind = 6 ∧ 8 < (K : Int) + 2) ∨ 300 < sizeV kind L K M) : famE kind L K M = 3 ∧ famL kind L K M = [] := by
 have e1 : famE kind L K M = 3 := by rw [famE, if_neg (by rw [ho]; simp), if_pos (h.imp id (fun hs => by simpa using hs))]
 exact ⟨e1, by rw [famL, e1]; rfl⟩
theorem tA {kind : Int} {L K M : Nat} (ho : wI kind L K M = true) (h6 : ¬ (kind = 6 ∧ 8 < (K : Int) + 2)) (h : ¬ 300 < sizeV kind L K M) : famE kind L K M = 0 ∧ famL kind L K M = famP kind L K M := by
 have e1 : famE kind L K M = 0 := by
  rw [famE, if_neg (by rw [ho]; simp), if_neg]
  rintro (h1 | h1)
  ·exact h6 h1
  ·exact h (by simpa using h1)
 exact ⟨e1, by rw [famL, e1]; simp⟩
theorem if_len {α : Type} {c : Prop} [Decidable c] (x : α) : (if c then [x] else []).length ≤ 1 := by split <;> simp
theorem genU_len (kind : Int) (k : Nat) (u : List Int) : (genU kind k u).length ≤ 5 := by
 unfold genU
 rw [List.length_append]
 have h1 := if_len (c := kind = 1 ∨ kind = 7 ∨ (kind ≠ 6 ∧ u.length < k)) (oneB u)
 by_cases hu : u = []
 ·rw [if_pos hu, List.length_nil]; omega
 ·rw [if_neg hu]
  rw [List.length_append, List.length_append, List.length_append]
  have h2 := if_len (c := kind = 2 ∨ kind = 4 ∨ kind = 5) (preB u)
  have h3 := if_len (c := kind = 3 ∨ kind = 4 ∨ kind = 5) (sufB u)
  have h4 := if_len (c := kind = 5) (facB u)
  have h5 := if_len (c := kind = 6) (tR u)
  omega
theorem rM (kind : Int) (k : Nat) : ∀ W : List (List Int), (genL kind k W).length ≤ 5 * W.length
 | [] => by simp [genL]
 | u :: W => by
  have := rM kind k W
  have := genU_len kind k u
  simp only [genL, List.flatMap_cons, List.length_append, List.length_cons] at *
  omega
theorem grown_iterAt (w : World) (k : Nat) (s : ByteArray) (pos : Nat) : w.grownBy (w.iterAt k s pos) (some k) :=
 ⟨rfl, rfl, rfl, by rw [Lib.iterAt_size]; exact Nat.le_refl _, fun i _ hne => Lib.iterAt_other w k i s pos (fun e => hne (by rw [e]))⟩
theorem wL.cat {α : Type} {B : Nat} {e : TypeId} {f : α → List Value} {w : World} {svs svs2 : List Value} {ps ps2 : List α} (h : wL B e f w svs ps) (h2 : wL B e f w svs2 ps2) : wL B e f w (svs ++ svs2) (ps ++ ps2) := by
 refine ⟨by simp [h.1, h2.1], fun i a b => ?_⟩
 have hl := h.1
 by_cases hi : i < svs.length
 ·rw [List.getElem_append_left hi, List.getElem_append_left (by omega)]; exact h.2 i hi _
 ·rw [List.getElem_append_right (by omega), List.getElem_append_right (by omega)]
  have := h2.2 (i - svs.length) (by rw [List.length_append] at a; omega) (by rw [List.length_append] at b; omega)
  simp only [hl] at this ⊢
  exact this
theorem wL.one {w : World} {B : Nat} {e : TypeId} {svs : List Value} {ps : List (List (List Int))} (h : wL B e strs w svs ps) : ∀ u ∈ svs, u.oneCell' = true := by
 intro u hu
 obtain ⟨i, hi, rfl⟩ := List.mem_iff_getElem.1 hu
 have hl := h.1
 obtain ⟨a, c, e⟩ := (h.2 i hi (by omega)).row.shape
 rw [e]; rfl
theorem LUp.cat {e base n n2 : Nat} {w w1 w2 : World} {v v2 : Value} {svs svs2 : List Value} {ps ps2 : List (List (List Int))} (h : LUp e base w v n svs ps) (hg1 : w.grownBy w1 none) (hr : wL w1.heap.size 9 strs w1 svs2 ps2)
  (hown : w2.ownsRow base e 1 v2 n2 (svs ++ svs2)) (hg : w1.grownBy w2 v.ownBlock) : LUp e base w2 v2 n2 (svs ++ svs2) (ps ++ ps2) ∧ w.grownBy w2 v.ownBlock := by
 have h1 := h.kept hg1 (by simp)
 have hot := yB h1.own h.ne
 exact ⟨⟨hown, ((h1.rows.cat hr).kept hg (fun k e => .inr (hot k e))).mono hg.size, h.ne⟩, zF (rL hg1) hg⟩
theorem vV {L K r : Nat} (h : r < (yQ L K).length) : ((yQ L K)[r] = [] ↔ r = 0) := by
 obtain ⟨t, e, ht⟩ := kR L K
 have e' : yQ L K = [] :: t := e
 constructor
 ·intro h0
  rcases r with _ | r
  ·rfl
  ·exfalso
   simp only [e', List.getElem_cons_succ] at h0
   exact ht _ (List.getElem_mem _) h0
 ·rintro rfl
  simp only [e', List.getElem_cons_zero]
theorem tE {L K : Nat} (h6 : K ≤ 8) {u : List Int} (hu : u ∈ yQ L K) : u.length ≤ 8 := upTo_len8 (n := K + 1) (by omega) hu
theorem okB {letters : Nat} (h : letters ≤ 6) {n : Nat} {u : List Int} (hu : u ∈ upTo letters n) : okW u := by
 simp only [upTo, List.mem_flatMap, List.mem_range] at hu
 obtain ⟨m, _, hu⟩ := hu
 intro x hx
 have := (sO hu).2 x hx
 unfold okNum at *
 omega
end Go.Proofs.Ytjfdomfendbhfaa
