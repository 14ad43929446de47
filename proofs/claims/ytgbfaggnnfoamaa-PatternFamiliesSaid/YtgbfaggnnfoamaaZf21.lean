/- Part 21 of the proof: FamOrd. -/
import Derived.Test.YtgbfaggnnfoamaaZf20
set_option linter.unusedVariables false
set_option linter.unusedSimpArgs false
namespace Go.Proofs.Ytgbfaggnnfoamaa
theorem lexZ_same : ∀ (w x y : List Int), lexZ (w ++ x) (w ++ y) = lexZ x y
 | [], _, _ => rfl
 | a :: w, x, y => by simp [lexZ, lexZ_same w x y]
theorem lexZ_front : ∀ (w v x y : List Int), w.length = v.length → lexZ w v = true → lexZ (w ++ x) (v ++ y) = true
 | [], [], _, _, _, h => by simp [lexZ] at h
 | [], _ :: _, _, _, h, _ => by simp at h
 | _ :: _, [], _, _, h, _ => by simp at h
 | a :: w, b :: v, x, y, hl, h => by
  simp only [List.cons_append, lexZ, Bool.or_eq_true, Bool.and_eq_true, decide_eq_true_eq] at h ⊢
  rcases h with h | ⟨rfl, h⟩
  ·exact .inl h
  ·exact .inr ⟨rfl, lexZ_front w v x y (by simpa using hl) h⟩
theorem block_sorted (letters : Nat) (w : List Int) : (block letters w 0).Pairwise (fun a b => lexZ a b = true) := by
 rw [block, List.pairwise_map]
 refine List.Pairwise.imp ?_ (List.pairwise_lt_range' (s := 0) (n := letters - 0) (step := 1) )
 intro a b h
 rw [lexZ_same]
 simp [lexZ]; omega
theorem vF {letters : Nat} {w x : List Int} (h : x ∈ block letters w 0) : ∃ c : Int, x = w ++ [c] := by
 obtain ⟨c, _, rfl⟩ := List.mem_map.1 h
 exact ⟨_, rfl⟩
theorem lex_sorted (letters : Nat) : ∀ n, (lex letters n).Pairwise (fun a b => lexZ a b = true)
 | 0 => by simp [lex]
 | n + 1 => by
  rw [wS, List.pairwise_flatMap]
  refine ⟨fun w _ => block_sorted letters w, ?_⟩
  have ih := lex_sorted letters n
  refine List.Pairwise.imp_of_mem ?_ ih
  intro a b ha hb hab x hx y hy
  obtain ⟨c, rfl⟩ := vF hx
  obtain ⟨d, rfl⟩ := vF hy
  exact lexZ_front a b [c] [d] (by rw [(yU ha).1, (yU hb).1]) hab
def sortW (l : List (List Int)) : Prop := l.Pairwise (fun a b => lessW a b = true)
def sortP (l : List (List (List Int))) : Prop := l.Pairwise (fun a b => lessP a b = true)
theorem wL (letters : Nat) : ∀ n, sortW (upTo letters n)
 | 0 => by simp [upTo, sortW]
 | n + 1 => by
  rw [zM, sortW, List.pairwise_append]
  refine ⟨wL letters n, ?_, fun a ha b hb => ?_⟩
  ·refine List.Pairwise.imp_of_mem ?_ (lex_sorted letters n)
   intro a b ha hb h
   simp only [lessW, Bool.or_eq_true, Bool.and_eq_true, decide_eq_true_eq]
   exact .inr ⟨by rw [(yU ha).1, (yU hb).1], h⟩
  ·simp only [lessW, Bool.or_eq_true, decide_eq_true_eq]
   exact .inl (by rw [(yU hb).1]; exact wM ha)
theorem vC (letters n : Nat) : ∃ r, upTo letters (n + 1) = [] :: r ∧ ∀ u ∈ r, u ≠ [] := by
 have e := wR letters n
 refine ⟨_, e, fun u hu => ?_⟩
 obtain ⟨w, _, hx⟩ := List.mem_flatMap.1 hu
 obtain ⟨c, rfl⟩ := vF hx
 simp
def mono (f : List Int → List (List Int)) : Prop := ∀ u v, lessW u v = true → lessP (f u) (f v) = true
theorem wZ : mono oneB := fun u v h => by simp [lessP, oneB, zR, h]
theorem mono_pre : mono preB := fun u v h => by simp [lessP, preB, zR, h]
theorem mono_suf : mono sufB := fun u v h => by simp [lessP, sufB, zR, h, xN]
theorem mono_fac : mono facB := fun u v h => by simp [lessP, facB, zR, h, xN]
theorem blk_same (w x y : List (List Int)) : zR (w ++ x) (w ++ y) = zR x y := by
 induction w with
 | nil => rfl
 | cons a w ih => simp [zR, xN, ih]
theorem vI : ∀ (w v x y : List (List Int)), w.length = v.length → zR w v = true → zR (w ++ x) (v ++ y) = true
 | [], _, _, _, _, h => by simp [zR] at h
 | _ :: _, [], _, _, h, _ => by simp at h
 | a :: w, b :: v, x, y, hl, h => by
  simp only [List.cons_append, zR, Bool.or_eq_true, Bool.and_eq_true, decide_eq_true_eq] at h ⊢
  rcases h with h | ⟨rfl, h⟩
  ·exact .inl h
  ·exact .inr ⟨rfl, vI w v x y (by simpa using hl) h⟩
theorem blk_letters : ∀ u v : List Int, u.length = v.length → lexZ u v = true → zR (u.map fun c => [c]) (v.map fun c => [c]) = true
 | [], [], _, h => by simp [lexZ] at h
 | [], _ :: _, h, _ => by simp at h
 | _ :: _, [], h, _ => by simp at h
 | a :: x, b :: y, hl, h => by
  simp only [lexZ, Bool.or_eq_true, Bool.and_eq_true, decide_eq_true_eq] at h
  simp only [List.map_cons, zR, Bool.or_eq_true, Bool.and_eq_true, decide_eq_true_eq]
  rcases h with h | ⟨rfl, h⟩
  ·exact .inl (by simp [lessW, lexZ, h])
  ·exact .inr ⟨rfl, blk_letters x y (by simpa using hl) h⟩
theorem mono_piece : mono zY := fun u v h => by
 simp only [lessW, Bool.or_eq_true, Bool.and_eq_true, decide_eq_true_eq] at h
 simp only [lessP, Bool.or_eq_true, Bool.and_eq_true, decide_eq_true_eq, zY, List.length_append, List.length_map, List.length_singleton]
 rcases h with h | ⟨e, h⟩
 ·exact .inl (by omega)
 ·refine .inr ⟨by omega, ?_⟩
  rw [List.append_assoc, List.append_assoc, blk_same]
  exact vI _ _ _ _ (by simp [e]) (blk_letters u v e h)
theorem xL {f : List Int → List (List Int)} (hf : mono f) {l : List (List Int)} (h : sortW l) : sortP (l.map f) := by
 rw [sortP, List.pairwise_map]
 exact List.Pairwise.imp (fun h => hf _ _ h) h
theorem sort_drop {l : List (List Int)} (h : sortW l) (n : Nat) : sortW (l.drop n) := List.Pairwise.drop h
theorem xA {a b : List (List (List Int))} (ha : sortP a) (hb : sortP b) (h : ∀ p ∈ a, ∀ q ∈ b, lessP p q = true) : sortP (a ++ b) := by
 rw [sortP, List.pairwise_append]; exact ⟨ha, hb, h⟩
theorem wE {p q : List (List Int)} (h : p.length < q.length) : lessP p q = true := by simp [lessP, h]
theorem suf_pre {u v : List Int} (hv : v ≠ []) : lessP (sufB u) (preB v) = true := by
 have : 0 < v.length := List.length_pos_iff.2 hv
 simp [lessP, sufB, preB, zR, lessW, this]
theorem exts_sorted {bs : List (List (List Int))} {ws : List (List Int)} {n : Nat} (hb : sortP bs) (hw : sortW ws) (hl : ∀ b ∈ bs, b.length = n) : sortP (exts bs ws) := by
 rw [sortP, exts, List.pairwise_flatMap]
 refine ⟨fun b _ => ?_, ?_⟩
 ·rw [List.pairwise_map]
  refine List.Pairwise.imp ?_ hw
  intro u v h
  simp only [lessP, Bool.or_eq_true, Bool.and_eq_true, decide_eq_true_eq]
  exact .inr ⟨by simp, by rw [blk_same]; simp [zR, h]⟩
 ·refine List.Pairwise.imp_of_mem ?_ hb
  intro a b ha hb2 h x hx y hy
  obtain ⟨u, _, rfl⟩ := List.mem_map.1 hx
  obtain ⟨v, _, rfl⟩ := List.mem_map.1 hy
  have e : a.length = b.length := by rw [hl a ha, hl b hb2]
  simp only [lessP, Bool.or_eq_true, Bool.and_eq_true, decide_eq_true_eq] at h ⊢
  rcases h with h | ⟨_, h⟩
  ·omega
  ·exact .inr ⟨by simp [e], vI a b _ _ e h⟩
theorem chB_sorted {ws : List (List Int)} (hw : sortW ws) : ∀ i, sortP (chB ws i)
 | 0 => xL wZ hw
 | i + 1 => exts_sorted (chB_sorted hw i) (sort_drop hw 1) (fun _ h => wQ i h)
theorem exts_mem_len {ws : List (List Int)} {i : Nat} {p : List (List Int)} (h : p ∈ exts (chB ws i) ws) : p.length = i + 2 := by
 obtain ⟨c, hc, hb⟩ := List.mem_flatMap.1 h
 obtain ⟨u, _, rfl⟩ := List.mem_map.1 hb
 rw [List.length_append, wQ i hc]; rfl
theorem chL_mem_len {ws : List (List Int)} : ∀ {i : Nat} {p : List (List Int)}, p ∈ chL ws i → p.length ≤ i + 1
 | 0, p, h => by
  obtain ⟨u, _, rfl⟩ := List.mem_map.1 h; exact Nat.le_refl _
 | i + 1, p, h => by
  rcases List.mem_append.1 h with h | h
  ·have := chL_mem_len h; omega
  ·rw [exts_mem_len h]; omega
theorem chL_sorted {ws : List (List Int)} (hw : sortW ws) : ∀ i, sortP (chL ws i)
 | 0 => xL wZ hw
 | i + 1 => xA (chL_sorted hw i) (exts_sorted (chB_sorted hw i) hw (fun _ h => wQ i h)) (fun p hp q hq => wE (by have := chL_mem_len hp; rw [exts_mem_len hq]; omega))
theorem drop_ne {letters n : Nat} {u : List Int} (h : u ∈ (upTo letters (n + 1)).drop 1) : u ≠ [] := by
 obtain ⟨r, e, hr⟩ := vC letters n
 rw [e] at h; exact hr u (by simpa using h)
theorem famP_sorted (kind : Int) (letters k m : Nat) : sortP (famP kind letters k m) := by
 have hW : sortW (zQ letters k) := wL letters (k + 1)
 have hS : sortW (upTo letters k) := wL letters k
 have hD : sortW ((zQ letters k).drop 1) := sort_drop hW 1
 have hne : ∀ u ∈ (zQ letters k).drop 1, u ≠ [] := fun u h => drop_ne h
 have l1 : ∀ p ∈ (upTo letters k).map oneB, p.length = 1 := fun p hp => by obtain ⟨u, _, rfl⟩ := List.mem_map.1 hp; rfl
 have l2 : ∀ p ∈ ((zQ letters k).drop 1).map preB, p.length = 2 := fun p hp => by obtain ⟨u, _, rfl⟩ := List.mem_map.1 hp; rfl
 have l3 : ∀ p ∈ ((zQ letters k).drop 1).map sufB, p.length = 2 := fun p hp => by obtain ⟨u, _, rfl⟩ := List.mem_map.1 hp; rfl
 have l4 : ∀ p ∈ ((zQ letters k).drop 1).map facB, p.length = 3 := fun p hp => by obtain ⟨u, _, rfl⟩ := List.mem_map.1 hp; rfl
 have h23 : ∀ p ∈ ((zQ letters k).drop 1).map sufB, ∀ q ∈ ((zQ letters k).drop 1).map preB, lessP p q = true := fun p hp q hq => by
  obtain ⟨u, _, rfl⟩ := List.mem_map.1 hp
  obtain ⟨v, hv, rfl⟩ := List.mem_map.1 hq
  exact suf_pre (hne v hv)
 have A := xL wZ hS
 have S := xL mono_suf hD
 have P := xL mono_pre hD
 have F := xL mono_fac hD
 have AS := xA A S (fun p hp q hq => wE (by rw [l1 p hp, l3 q hq]; decide))
 have ASP := xA AS P (fun p hp q hq => by
  rcases List.mem_append.1 hp with h | h
  ·exact wE (by rw [l1 p h, l2 q hq]; decide)
  ·exact h23 p h q hq)
 unfold famP
 simp only
 split
 ·exact xL wZ hW
 split
 ·exact xA A P (fun p hp q hq => wE (by rw [l1 p hp, l2 q hq]; decide))
 split
 ·exact AS
 split
 ·exact ASP
 split
 ·refine xA ASP F (fun p hp q hq => wE ?_)
  rw [l4 q hq]
  rcases List.mem_append.1 hp with h | h
  ·rcases List.mem_append.1 h with h | h
   ·rw [l1 p h]; decide
   ·rw [l3 p h]; decide
  ·rw [l2 p h]; decide
 split
 ·exact xL mono_piece hD
 ·exact chL_sorted hW _
end Go.Proofs.Ytgbfaggnnfoamaa
