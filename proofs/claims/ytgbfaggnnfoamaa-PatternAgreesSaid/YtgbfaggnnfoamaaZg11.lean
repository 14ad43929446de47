/- Part 11 of the proof: Numb. -/
import Derived.Test.YtgbfaggnnfoamaaZg10
set_option linter.unusedVariables false
set_option linter.unusedSimpArgs false
namespace Go.Proofs.Ytgbfaggnnfoamaa
def yE {α : Type} [DecidableEq α] (acc : List α) (x : α) : List α := if x ∈ acc then acc else acc ++ [x]
def zP {α : Type} [DecidableEq α] (l : List α) : List α := l.foldl yE []
section
variable {α : Type} [DecidableEq α]
theorem wZ {acc : List α} {x : α} (h : x ∈ acc) : yE acc x = acc := if_pos h
theorem xI {acc : List α} {x : α} (h : x ∉ acc) : yE acc x = acc ++ [x] := if_neg h
theorem tI {acc : List α} {x y : α} : y ∈ yE acc x ↔ y ∈ acc ∨ y = x := by
 unfold yE
 split
 ·rename_i h
  exact ⟨.inl, fun h' => by rcases h' with h' | rfl <;> assumption⟩
 ·simp
theorem vI (l : List α) (x : α) : zP (l ++ [x]) = yE (zP l) x := by simp [zP, List.foldl_append]
theorem mem_foldl_addNew (l : List α) : ∀ (acc : List α) (y : α), y ∈ l.foldl yE acc ↔ y ∈ acc ∨ y ∈ l := by
 induction l with
 | nil => intro acc y; simp
 | cons a l ih => intro acc y; rw [List.foldl_cons, ih, tI, List.mem_cons]; exact or_assoc
theorem yL {l : List α} {y : α} : y ∈ zP l ↔ y ∈ l := by rw [zP, mem_foldl_addNew]; simp
theorem rM {acc : List α} {x : α} (h : acc.Nodup) : (yE acc x).Nodup := by
 unfold yE
 split
 ·exact h
 ·rename_i hx
  rw [List.nodup_append]
  exact ⟨h, by simp, fun a ha b hb => by rw [List.mem_singleton] at hb; subst hb; rintro rfl; exact hx ha⟩
theorem foldl_addNew_nodup (l : List α) : ∀ {acc : List α}, acc.Nodup → (l.foldl yE acc).Nodup := by
 induction l with
 | nil => intro acc h; exact h
 | cons a l ih => intro acc h; exact ih (rM h)
theorem wM (l : List α) : (zP l).Nodup := foldl_addNew_nodup l (by simp)
theorem uM (acc : List α) (x : α) : acc <+: yE acc x := by
 unfold yE; split
 ·exact List.prefix_refl _
 ·exact List.prefix_append _ _
theorem foldl_addNew_prefix (l : List α) : ∀ (acc : List α), acc <+: l.foldl yE acc := by
 induction l with
 | nil => intro acc; exact List.prefix_refl _
 | cons a l ih => intro acc; exact (uM acc a).trans (ih _)
theorem vN (l : List α) (k : Nat) : zP (l.take k) <+: zP l := by
 conv => rhs; rw [← List.take_append_drop k l]
 rw [zP, zP, List.foldl_append]
 exact foldl_addNew_prefix _ _
theorem wN (l : List α) : (zP l).length ≤ l.length := by
 have key : ∀ (l acc : List α), (l.foldl yE acc).length ≤ acc.length + l.length := by
  intro l
  induction l with
  | nil => intro acc; simp
  | cons a l ih =>
   intro acc
   rw [List.foldl_cons]
   have h1 := ih (yE acc a)
   have h2 : (yE acc a).length ≤ acc.length + 1 := by unfold yE; split <;> simp
   rw [List.length_cons]; omega
 simpa [zP] using key l []
theorem rJ {l m : List α} {x : α} (h : l <+: m) (hx : x ∈ l) : m.idxOf x = l.idxOf x := by
 obtain ⟨r, rfl⟩ := h
 rw [List.idxOf_append, if_pos hx]
theorem nC {l : List α} {x y : α} (hx : x ∈ l) (h : l.idxOf x = l.idxOf y) : x = y := by
 have h1 := List.idxOf_lt_length_of_mem hx
 have e1 := List.getElem_idxOf h1
 have e2 := List.getElem_idxOf (show l.idxOf y < l.length by omega)
 rw [← e1, ← e2]; simp only [h]
def numb (l : List α) : List Nat := l.map fun x => (zP l).idxOf x
theorem zV (l : List α) : (numb l).length = l.length := by simp [numb]
theorem uD {l : List α} {i : Nat} (h : i < l.length) : (numb l)[i]'(by rw [zV]; exact h) = (zP l).idxOf l[i] := by simp [numb]
theorem lG {l : List α} : ∀ c ∈ numb l, c < (zP l).length := by
 intro c hc
 obtain ⟨x, hx, rfl⟩ := List.mem_map.1 hc
 exact List.idxOf_lt_length_of_mem (yL.2 hx)
theorem uE {l : List α} {i j : Nat} (hi : i < l.length) (hj : j < l.length) : (numb l).getD i 0 = (numb l).getD j 0 ↔ l[i] = l[j] := by
 simp only [List.getD, List.getElem?_eq_getElem (show i < (numb l).length by rw [zV]; exact hi), List.getElem?_eq_getElem (show j < (numb l).length by rw [zV]; exact hj), Option.getD_some, uD hi, uD hj]
 exact ⟨fun h => nC (yL.2 (List.getElem_mem hi)) h, fun h => by rw [h]⟩
theorem numb_take {l : List α} {k : Nat} (hk : k < l.length) : (zP (l.take (k + 1))).idxOf l[k] = (zP l).idxOf l[k] := by
 refine (rJ (vN l (k + 1)) (yL.2 ?_)).symm
 rw [List.take_succ_eq_append_getElem hk]; exact List.mem_append_right _ (List.mem_singleton_self _)
end
def SameKer (p q : List Nat) : Prop := p.length = q.length ∧ ∀ i j, i < p.length → j < p.length → (p.getD i 0 = p.getD j 0 ↔ q.getD i 0 = q.getD j 0)
def Norm (p : List Nat) : Prop := numb p = p
theorem zG {α : Type} {l : List α} {i : Nat} {d : α} (h : i < l.length) : l.getD i d = l[i] := by simp [List.getD, List.getElem?_eq_getElem h]
theorem firsts_map_inj {α β : Type} [DecidableEq α] [DecidableEq β] (f : α → β) (l : List α) (h : ∀ x ∈ l, ∀ y ∈ l, f x = f y → x = y) : zP (l.map f) = (zP l).map f := by
 have key : ∀ (m acc : List α), (∀ x ∈ acc ++ m, ∀ y ∈ acc ++ m, f x = f y → x = y) → (m.map f).foldl yE (acc.map f) = (m.foldl yE acc).map f := by
  intro m
  induction m with
  | nil => intro acc _; rfl
  | cons a m ih =>
   intro acc hh
   rw [List.map_cons, List.foldl_cons, List.foldl_cons]
   have e : yE (acc.map f) (f a) = (yE acc a).map f := by
    unfold yE
    by_cases ha : a ∈ acc
    ·rw [if_pos ha, if_pos (List.mem_map_of_mem ha)]
    ·rw [if_neg ha, if_neg]
     ·simp
     ·intro hm
      obtain ⟨b, hb, e⟩ := List.mem_map.1 hm
      have := hh b (by simp [hb]) a (by simp) e
      subst this
      exact ha hb
   rw [e]
   refine ih _ fun x hx y hy => hh x ?_ y ?_
   ·rw [List.mem_append, tI] at hx; simp; rcases hx with (h | h) | h <;> simp [h]
   ·rw [List.mem_append, tI] at hy; simp; rcases hy with (h | h) | h <;> simp [h]
 have := key l [] (by simpa using h)
 simpa [zP] using this
theorem idxOf_map_inj {α β : Type} [DecidableEq α] [DecidableEq β] (f : α → β) (l : List α) (x : α) (hx : x ∈ l) (h : ∀ y ∈ l, f y = f x → y = x) : (l.map f).idxOf (f x) = l.idxOf x := by
 induction l with
 | nil => simp at hx
 | cons a l ih =>
  rw [List.map_cons, List.idxOf_cons, List.idxOf_cons]
  by_cases e : a = x
  ·subst e; simp
  ·have : f a ≠ f x := fun h' => e (h a (by simp) h')
   simp only [beq_eq_false_iff_ne.2 this, beq_eq_false_iff_ne.2 e, cond_false]
   rw [ih (by simpa [Ne.symm e] using hx) (fun y hy => h y (by simp [hy]))]
theorem pF {α β : Type} [DecidableEq α] [DecidableEq β] : ∀ (l : List α) (m : List β) (he : l.length = m.length), (∀ i j (hi : i < l.length) (hj : j < l.length), (l[i] = l[j] ↔ m[i]'(by omega) = m[j]'(by omega))) → numb l = numb m := by
 intro l m he h
 -- positions of first occurrences
 have key : ∀ (k : Nat) (hk : k ≤ l.length), ∃ ps : List (Fin l.length), zP (l.take k) = ps.map (fun i => l[i]) ∧ zP (m.take k) = ps.map (fun i => m[i.1]'(by omega)) := by
  intro k
  induction k with
  | zero => intro _; exact ⟨[], by simp [zP], by simp [zP]⟩
  | succ k ih =>
   intro hk
   obtain ⟨ps, h1, h2⟩ := ih (by omega)
   have hkl : k < l.length := by omega
   rw [List.take_succ_eq_append_getElem hkl, List.take_succ_eq_append_getElem (show k < m.length by omega), vI, vI, h1, h2]
   have hmem : (l[k] ∈ ps.map (fun i => l[i])) ↔ (m[k]'(by omega) ∈ ps.map (fun i => m[i.1]'(by omega))) := by
    simp only [List.mem_map]
    constructor
    ·rintro ⟨i, hi, e⟩; exact ⟨i, hi, (h i.1 k i.2 hkl).1 e⟩
    ·rintro ⟨i, hi, e⟩; exact ⟨i, hi, (h i.1 k i.2 hkl).2 e⟩
   by_cases hm : l[k] ∈ ps.map (fun i => l[i])
   ·exact ⟨ps, wZ hm, wZ (hmem.1 hm)⟩
   ·refine ⟨ps ++ [⟨k, hkl⟩], ?_, ?_⟩
    ·rw [xI hm]; simp
    ·rw [xI (fun h' => hm (hmem.2 h'))]; simp
 obtain ⟨ps, h1, h2⟩ := key l.length (Nat.le_refl _)
 rw [List.take_length] at h1
 rw [show m.take l.length = m from List.take_of_length_le (by omega)] at h2
 refine List.ext_getElem (by simp [numb, he]) fun i hi _ => ?_
 rw [zV] at hi
 rw [uD hi, uD (by omega), h1, h2]
 have aux : ∀ (qs : List (Fin l.length)), (qs.map (fun i => l[i])).idxOf l[i] = (qs.map (fun i => m[i.1]'(by omega))).idxOf (m[i]'(by omega)) := by
  intro qs
  induction qs with
  | nil => simp
  | cons a qs ih =>
   rw [List.map_cons, List.map_cons, List.idxOf_cons, List.idxOf_cons, ih]
   have := h a.1 i a.2 hi
   by_cases e : l[a] = l[i]
   ·have e' := this.1 e
    simp only [beq_iff_eq.2 e, beq_iff_eq.2 e']
   ·have e' : ¬ (m[a.1]'(by omega) = m[i]'(by omega)) := fun h' => e (this.2 h')
    simp only [beq_eq_false_iff_ne.2 e, beq_eq_false_iff_ne.2 e']
 exact aux ps
theorem qO {α : Type} [DecidableEq α] (l : List α) : Norm (numb l) := by
 refine pF _ _ (zV l) fun i j hi hj => ?_
 rw [zV] at hi hj
 have := uE (l := l) hi hj
 rw [zG (by rw [zV]; exact hi), zG (by rw [zV]; exact hj)] at this
 exact this
theorem oA {p q : List Nat} (hp : Norm p) (hq : Norm q) (h : SameKer p q) : p = q := by
 rw [← hp, ← hq]
 refine pF _ _ h.1 fun i j hi hj => ?_
 have := h.2 i j hi hj
 rw [zG hi, zG hj, zG (by rw [← h.1]; exact hi), zG (by rw [← h.1]; exact hj)] at this
 exact this
end Go.Proofs.Ytgbfaggnnfoamaa
