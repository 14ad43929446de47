/- Part 25 of the proof: RFamO. -/
import Derived.Test.YtgbfaggnnfoamaaZf24
set_option linter.unusedVariables false
set_option linter.unusedSimpArgs false
namespace Go.Proofs.Ytgbfaggnnfoamaa
open Go.RowKit
def okP (p : List (List Int)) : Prop := p.length ≤ 100 ∧ ∀ u ∈ p, okW u ∧ u.length ≤ 8
theorem okW_nil : okW [] := fun x hx => by simp at hx
theorem genU_cases {kind : Int} {k : Nat} {u : List Int} {p : List (List Int)} (hp : p ∈ genU kind k u) : p = oneB u ∨ p = preB u ∨ p = sufB u ∨ p = facB u ∨ p = zY u := by
 unfold genU at hp
 rw [List.mem_append] at hp
 rcases hp with hp | hp
 ·split at hp
  ·exact .inl (by simpa using hp)
  ·simp at hp
 ·by_cases hu : u = []
  ·rw [if_pos hu] at hp; simp at hp
  ·rw [if_neg hu, List.mem_append, List.mem_append, List.mem_append] at hp
   rcases hp with hp | hp | hp | hp
   ·split at hp
    ·exact .inr (.inl (by simpa using hp))
    ·simp at hp
   ·split at hp
    ·exact .inr (.inr (.inl (by simpa using hp)))
    ·simp at hp
   ·split at hp
    ·exact .inr (.inr (.inr (.inl (by simpa using hp))))
    ·simp at hp
   ·split at hp
    ·exact .inr (.inr (.inr (.inr (by simpa using hp))))
    ·simp at hp
theorem genU_ok {kind : Int} {k : Nat} {u : List Int} (h : okW u) (h8 : u.length ≤ 8) {p : List (List Int)} (hp : p ∈ genU kind k u) : okP p := by
 have hn : okW [] ∧ ([] : List Int).length ≤ 8 := ⟨okW_nil, by simp⟩
 rcases genU_cases hp with rfl | rfl | rfl | rfl | rfl
 ·refine ⟨by simp [oneB], fun x hx => ?_⟩
  simp only [oneB, List.mem_singleton] at hx
  subst hx; exact ⟨h, h8⟩
 ·refine ⟨by simp [preB], fun x hx => ?_⟩
  simp only [preB, List.mem_cons, List.not_mem_nil, or_false] at hx
  rcases hx with rfl | rfl
  ·exact ⟨h, h8⟩
  ·exact hn
 ·refine ⟨by simp [sufB], fun x hx => ?_⟩
  simp only [sufB, List.mem_cons, List.not_mem_nil, or_false] at hx
  rcases hx with rfl | rfl
  ·exact hn
  ·exact ⟨h, h8⟩
 ·refine ⟨by simp [facB], fun x hx => ?_⟩
  simp only [facB, List.mem_cons, List.not_mem_nil, or_false] at hx
  rcases hx with rfl | rfl | rfl
  ·exact hn
  ·exact ⟨h, h8⟩
  ·exact hn
 ·refine ⟨by simp [zY]; omega, fun x hx => ?_⟩
  simp only [zY, List.mem_append, List.mem_singleton, List.mem_map] at hx
  rcases hx with (rfl | ⟨c, hc, rfl⟩) | rfl
  ·exact hn
  ·refine ⟨fun y hy => ?_, by simp⟩
   simp only [List.mem_singleton] at hy
   subst hy; exact h y hc
  ·exact hn
theorem chB_blk (ws : List (List Int)) : ∀ (i : Nat) {b : List (List Int)}, b ∈ chB ws i → ∀ u ∈ b, u ∈ ws
 | 0, b, h => by
  obtain ⟨v, hv, rfl⟩ := List.mem_map.1 h
  intro u hu
  simp only [oneB, List.mem_singleton] at hu
  subst hu; exact hv
 | i + 1, b, h => by
  obtain ⟨c, hc, hb⟩ := List.mem_flatMap.1 h
  obtain ⟨v, hv, rfl⟩ := List.mem_map.1 hb
  intro u hu
  rcases List.mem_append.1 hu with hu | hu
  ·exact chB_blk ws i hc u hu
  ·simp only [List.mem_singleton] at hu
   subst hu; exact List.mem_of_mem_drop hv
theorem vP (ws : List (List Int)) : ∀ (i : Nat) {b : List (List Int)}, b ∈ allC ws i → b.length ≤ i + 1 ∧ ∀ u ∈ b, u ∈ ws
 | 0, b, h => by simp [allC] at h
 | i + 1, b, h => by
  rcases List.mem_append.1 h with h | h
  ·exact ⟨by have := (vP ws i h).1; omega, (vP ws i h).2⟩
  ·obtain ⟨c, hc, hb⟩ := List.mem_flatMap.1 h
   obtain ⟨v, hv, rfl⟩ := List.mem_map.1 hb
   refine ⟨by rw [List.length_append, wQ i hc]; simp, fun u hu => ?_⟩
   rcases List.mem_append.1 hu with hu | hu
   ·exact chB_blk ws i hc u hu
   ·simp only [List.mem_singleton] at hu
    subst hu; exact hv
theorem wO {kind : Int} {L K M : Nat} (hl : L ≤ 6) (hk : K ≤ 8) (hm : M ≤ 4) {p : List (List Int)} (hp : p ∈ refL kind L K M) : okP p := by
 have hw : ∀ u ∈ zQ L K, okW u ∧ u.length ≤ 8 := fun u hu => ⟨okB hl (n := K + 1) hu, yY hk hu⟩
 rcases List.mem_append.1 hp with hp | hp
 ·obtain ⟨u, hu, hp⟩ := List.mem_flatMap.1 hp
  exact genU_ok (hw u hu).1 (hw u hu).2 hp
 ·split at hp
  ·have h := vP _ _ (List.mem_of_mem_take hp)
   exact ⟨by omega, fun u hu => hw u (h.2 u hu)⟩
  ·simp at hp
theorem yT {kind : Int} {L K M : Nat} (h1 : 1 ≤ kind) (h7 : kind ≤ 7) (hn : ¬ 300 < (refL kind L K M).length) {ps : List (List (List Int))} (hs : sortP ps) (hp : ps.Perm (refL kind L K M)) : ps = famP kind L K M := by
 refine sorted_is hs (famP_sorted _ _ _ _) (hp.trans (vJ h1 h7 M ?_))
 by_cases hk : kind = 7
 ·refine .inl ?_
  rw [refL, if_pos hk, List.length_append, List.length_take] at hn
  omega
 ·exact .inr hk
theorem xG {kind : Int} {L K M : Nat} (h1 : 1 ≤ kind) (h7 : kind ≤ 7) (hn : ¬ 300 < (refL kind L K M).length) : (refL kind L K M).Nodup := by
 have hp : (refL kind L K M).Perm (famP kind L K M) := by
  refine vJ h1 h7 M ?_
  by_cases hk : kind = 7
  ·refine .inl ?_
   rw [refL, if_pos hk, List.length_append, List.length_take] at hn
   omega
  ·exact .inr hk
 exact hp.nodup_iff.2 (sortP_nodup (famP_sorted _ _ _ _))
theorem str_byte (u : List Int) (p : Nat) (h : p < u.length) (h' : p < (strOfNums u).size) : (strOfNums u)[p]'h' = UInt8.ofNat (u[p].toNat) := by
 have e : (strOfNums u)[p]'h' = (strOfNums u).data.toList[p]'(by rw [strOfNums_data]; simpa using h) := by rw [Array.getElem_toList]; rfl
 rw [e]
 simp only [strOfNums_data, List.getElem_map]
theorem str_ascii {u : List Int} (hu : okW u) {p : Nat} (h : p < u.length) (h' : p < (strOfNums u).size) : ((strOfNums u)[p]'h').toNat < 128 := by
 obtain ⟨a, b⟩ := hu _ (List.getElem_mem h)
 rw [str_byte u p h h', UInt8.toNat_ofNat']; omega
theorem owns_ne_iter {w : World} {B e size n : Nat} {v : Value} {xs : List Value} {k : Nat} {s : ByteArray} {pos : Nat} (h : w.ownsRow B e size v n xs) (hk : w.heap[k]? = some (.stringIter s pos)) : some k ≠ v.ownBlock := by
 rcases h.2 with ⟨rfl, _⟩ | ⟨g, cap, cur, rfl, hb, hg, _⟩
 ·simp [Value.ownBlock]
 ·intro e
  simp only [Value.ownBlock, Option.some.injEq] at e
  subst e
  rw [hk] at hg
  cases hg
end Go.Proofs.Ytgbfaggnnfoamaa
