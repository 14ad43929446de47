/- Part 22 of the proof: FamRef. -/
import Derived.Test.YtgbfaggnnfoamaaZf21
set_option linter.unusedVariables false
set_option linter.unusedSimpArgs false
namespace Go.Proofs.Ytgbfaggnnfoamaa
def genU (kind : Int) (k : Nat) (u : List Int) : List (List (List Int)) :=
 (if kind = 1 ∨ kind = 7 ∨ (kind ≠ 6 ∧ u.length < k) then [oneB u] else []) ++ (if u = [] then [] else (if kind = 2 ∨ kind = 4 ∨ kind = 5 then [preB u] else []) ++ ((if kind = 3 ∨ kind = 4 ∨ kind = 5 then [sufB u] else []) ++ ((if kind = 5 then [facB u] else []) ++ (if kind = 6 then [zY u] else []))))
def genL (kind : Int) (k : Nat) (W : List (List Int)) : List (List (List Int)) := W.flatMap (genU kind k)
def refL (kind : Int) (letters k m : Nat) : List (List (List Int)) := genL kind k (zQ letters k) ++ (if kind = 7 then (allC (zQ letters k) (m + 1)).take 301 else [])
theorem xI (kind : Int) (k : Nat) {W : List (List Int)} {j : Nat} (h : j < W.length) : genL kind k (W.take (j + 1)) = genL kind k (W.take j) ++ genU kind k W[j] := by
 rw [genL, List.take_succ_eq_append_getElem h, List.flatMap_append]; simp [genL]
theorem xB {α β : Type} (f g : α → List β) : ∀ l : List α, (l.flatMap fun x => f x ++ g x).Perm (l.flatMap f ++ l.flatMap g)
 | [] => by simp
 | a :: l => by
  simp only [List.flatMap_cons]
  have ih := xB f g l
  have h1 : (f a ++ g a ++ l.flatMap fun x => f x ++ g x).Perm (f a ++ g a ++ (l.flatMap f ++ l.flatMap g)) := List.Perm.append_left _ ih
  refine h1.trans ?_
  rw [List.append_assoc, List.append_assoc]
  refine List.Perm.append_left _ ?_
  rw [← List.append_assoc, ← List.append_assoc]
  exact List.Perm.append_right _ List.perm_append_comm
theorem flat_if {α β : Type} (c : α → Prop) [DecidablePred c] (h : α → β) : ∀ l : List α, (l.flatMap fun x => if c x then [h x] else []) = (l.filter fun x => decide (c x)).map h
 | [] => rfl
 | a :: l => by
  simp only [List.flatMap_cons, flat_if c h l, List.filter_cons]
  by_cases hc : c a <;> simp [hc]
theorem filter_short (letters k : Nat) : ((zQ letters k).filter fun u => decide (u.length < k)) = upTo letters k := by
 rw [zQ, zM, List.filter_append]
 have e1 : (upTo letters k).filter (fun u => decide (u.length < k)) = upTo letters k := List.filter_eq_self.2 fun u hu => by simpa using wM hu
 have e2 : (lex letters k).filter (fun u => decide (u.length < k)) = [] := List.filter_eq_nil_iff.2 fun u hu => by rw [(yU hu).1]; simp
 rw [e1, e2, List.append_nil]
theorem yJ {α β : Type} {f g : α → List β} : ∀ {l : List α}, (∀ x ∈ l, f x = g x) → l.flatMap f = l.flatMap g
 | [], _ => rfl
 | a :: l, h => by rw [List.flatMap_cons, List.flatMap_cons, h a (by simp), yJ fun x hx => h x (by simp [hx])]
theorem vG {letters k : Nat} (f : List Int → List (List (List Int))) : ((zQ letters k).flatMap fun u => if u = [] then [] else f u) = ((zQ letters k).drop 1).flatMap f := by
 obtain ⟨r, e, hr⟩ := vC letters k
 rw [zQ, e]
 simp only [List.flatMap_cons, if_pos, List.nil_append, List.drop_one, List.tail_cons]
 exact yJ fun u hu => by rw [if_neg (hr u hu)]
theorem yX {α β : Type} (h : α → β) (l : List α) : (l.flatMap fun x => [h x]) = l.map h := by induction l with
 | nil => rfl
 | cons a l ih => simp [ih]
theorem genU_1 (k : Nat) (u : List Int) : genU 1 k u = [oneB u] := by unfold genU; by_cases h : u = [] <;> simp [h]
theorem genU_7 (k : Nat) (u : List Int) : genU 7 k u = [oneB u] := by unfold genU; by_cases h : u = [] <;> simp [h]
theorem genU_2 (k : Nat) (u : List Int) : genU 2 k u = (if u.length < k then [oneB u] else []) ++ (if u = [] then [] else [preB u]) := by unfold genU; by_cases h : u = [] <;> simp [h]
theorem genU_3 (k : Nat) (u : List Int) : genU 3 k u = (if u.length < k then [oneB u] else []) ++ (if u = [] then [] else [sufB u]) := by unfold genU; by_cases h : u = [] <;> simp [h]
theorem genU_4 (k : Nat) (u : List Int) : genU 4 k u = (if u.length < k then [oneB u] else []) ++ (if u = [] then [] else [preB u] ++ [sufB u]) := by unfold genU; by_cases h : u = [] <;> simp [h]
theorem genU_5 (k : Nat) (u : List Int) : genU 5 k u = (if u.length < k then [oneB u] else []) ++ (if u = [] then [] else [preB u] ++ ([sufB u] ++ [facB u])) := by unfold genU; by_cases h : u = [] <;> simp [h]
theorem genU_6 (k : Nat) (u : List Int) : genU 6 k u = (if u = [] then [] else [zY u]) := by unfold genU; by_cases h : u = [] <;> simp [h]
theorem vJ {kind : Int} {letters k : Nat} (h1 : 1 ≤ kind) (h7 : kind ≤ 7) (m : Nat) (hm : (allC (zQ letters k) (m + 1)).length ≤ 301 ∨ kind ≠ 7) : (refL kind letters k m).Perm (famP kind letters k m) := by
 have hcase : kind = 1 ∨ kind = 2 ∨ kind = 3 ∨ kind = 4 ∨ kind = 5 ∨ kind = 6 ∨ kind = 7 := by omega
 have hone : ((zQ letters k).flatMap fun u => if u.length < k then [oneB u] else []) = (upTo letters k).map oneB := by rw [flat_if (fun u : List Int => u.length < k) oneB, filter_short]
 rcases hcase with rfl | rfl | rfl | rfl | rfl | rfl | rfl
 ·have e : refL 1 letters k m = famP 1 letters k m := by
   rw [refL, if_neg (by decide), List.append_nil, genL, yJ fun u _ => genU_1 k u, yX]; rfl
  rw [e]
 ·rw [refL, if_neg (by decide), List.append_nil, genL, yJ fun u _ => genU_2 k u]
  refine (xB _ _ _).trans ?_
  rw [hone, vG, yX]; exact List.Perm.refl _
 ·rw [refL, if_neg (by decide), List.append_nil, genL, yJ fun u _ => genU_3 k u]
  refine (xB _ _ _).trans ?_
  rw [hone, vG, yX]; exact List.Perm.refl _
 ·rw [refL, if_neg (by decide), List.append_nil, genL, yJ fun u _ => genU_4 k u]
  refine (xB _ _ _).trans ?_
  rw [hone, vG]
  show List.Perm _ ((upTo letters k).map oneB ++ ((zQ letters k).drop 1).map sufB ++ ((zQ letters k).drop 1).map preB)
  rw [List.append_assoc]
  refine List.Perm.append_left _ ((xB _ _ _).trans ?_)
  rw [yX, yX]; exact List.perm_append_comm
 ·rw [refL, if_neg (by decide), List.append_nil, genL, yJ fun u _ => genU_5 k u]
  refine (xB _ _ _).trans ?_
  rw [hone, vG]
  show List.Perm _ ((upTo letters k).map oneB ++ ((zQ letters k).drop 1).map sufB ++ ((zQ letters k).drop 1).map preB ++ ((zQ letters k).drop 1).map facB)
  rw [List.append_assoc, List.append_assoc]
  refine List.Perm.append_left _ ((xB _ _ _).trans ?_)
  rw [yX]
  refine (List.Perm.append_left _ (xB _ _ _)).trans ?_
  rw [yX, yX, ← List.append_assoc, ← List.append_assoc]
  exact List.Perm.append_right _ List.perm_append_comm
 ·have e : refL 6 letters k m = famP 6 letters k m := by
   rw [refL, if_neg (by decide), List.append_nil, genL, yJ fun u _ => genU_6 k u, vG, yX]; rfl
  rw [e]
 ·have e : refL 7 letters k m = famP 7 letters k m := by
   rw [refL, if_pos rfl, genL, yJ fun u _ => genU_7 k u, yX, List.take_of_length_le (by rcases hm with h | h; exact h; exact absurd rfl h)]
   show _ = chL (zQ letters k) (m + 1)
   rw [vO]
  rw [e]
theorem sortP_nodup {l : List (List (List Int))} (h : sortP l) : l.Nodup := List.Pairwise.imp (fun {a b} h e => by rw [e, xO] at h; cases h) h
theorem wN {kind : Int} {letters k : Nat} (h1 : 1 ≤ kind) (h7 : kind ≤ 7) (m : Nat) : (300 < (refL kind letters k m).length ↔ 300 < (famP kind letters k m).length) := by
 by_cases hm : (allC (zQ letters k) (m + 1)).length ≤ 301 ∨ kind ≠ 7
 ·rw [(vJ h1 h7 m hm).length_eq]
 ·have hm1 : ¬ (allC (zQ letters k) (m + 1)).length ≤ 301 := fun h => hm (.inl h)
  have hk : kind = 7 := Decidable.not_not.1 fun h => hm (.inr h)
  subst hk
  have e1 : 301 ≤ (refL 7 letters k m).length := by
   rw [refL, if_pos rfl, List.length_append, List.length_take]; omega
  have e2 : 301 ≤ (famP 7 letters k m).length := by
   show 301 ≤ (chL (zQ letters k) (m + 1)).length
   rw [vO, List.length_append]; omega
  omega
end Go.Proofs.Ytgbfaggnnfoamaa
