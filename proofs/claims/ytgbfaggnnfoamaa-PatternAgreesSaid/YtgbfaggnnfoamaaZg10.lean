/- Part 10 of the proof: Many2, Inv2, KeyI. -/
import Derived.Test.YtgbfaggnnfoamaaZg9
import Derived.Maps.Own
import Derived.Maps.Views
set_option linter.unusedVariables false
set_option linter.unusedSimpArgs false
namespace Go.Proofs.Ytgbfaggnnfoamaa
open Go.RowKit
def SrcRow (w : World) (sz : Nat) (sv : Value) (m : Nat) (news : List Value) : Prop :=
 (∃ a cap, sv = .slice a 0 cap ∧ m = 0 ∧ news = []) ∨ ∃ b off cap, sv = .slice (some ⟨b, off, none⟩) m cap ∧ news.length = m * sz ∧ m ≤ maxLen ∧ ∀ j u, news[j]? = some u → w.cell? ⟨b, off + j, none⟩ = some u
theorem Row.src {B : Nat} {w : World} {v : Value} {xs : List Value} (h : Row B w v xs) : SrcRow w 1 v xs.length xs := by
 rcases h with ⟨a, cap, rfl, rfl⟩ | ⟨b, off, cap, rfl, _, h2, h3, hra⟩
 ·exact .inl ⟨a, cap, rfl, rfl, rfl⟩
 ·refine .inr ⟨b, off, cap, rfl, by omega, by omega, fun j u hj => ?_⟩
  have hjl : j < xs.length := by
   rcases Nat.lt_or_ge j xs.length with h | h
   ·exact h
   ·rw [List.getElem?_eq_none h] at hj; cases hj
  rw [List.getElem?_eq_getElem hjl] at hj
  rw [hra.2 j hjl, hj]
section
variable {w0 W W' : World} {F : Nat → Prop} {rs : List RowS} {ls ls' : List (Nat × Obj)} {ps : List (Nat × TypeId × List Value)}
end
section
variable {P : Program} {md : Region.Mode} {ops : Array Oper} {Q : Exit → Act → World → Prop} {G : Array Bool → World → Prop}
end
section
variable {P : Program} {md : Region.Mode} {ops : Array Oper} {Q : Exit → Act → World → Prop} {G : Array Bool → World → Prop}
end
section
variable {w0 W W' : World} {F : Nat → Prop} {rs : List RowS} {ls : List (Nat × Obj)}
theorem Many.far (h : Many w0 F W rs ls []) {r : Nat} (hg : W.grownBy W' (some r)) (hF : F r) (hlt : r < w0.heap.size) (hne : ∀ (j : Nat) (s : RowS), rs[j]? = some s → s.v.ownBlock ≠ some r) : Many w0 F W' rs ls [] where
 own := fun j s hs => (h.own j s hs).kept hg (.inr (hne j s hs))
 mine := h.mine
 apart := h.apart
 lit := fun p hp => ⟨zA (h.lit p hp).1 hg (fun e => by have e := Option.some.inj e; have := (h.lit p hp).2.2; omega), (h.lit p hp).2⟩
 pre := fun p hp => by cases hp
 but := h.but.step hg (fun k e => .inl (by have e := Option.some.inj e; subst e; exact hF))
end
theorem Many.start {w : World} {F : Nat → Prop} {rs : List RowS} (hown : ∀ r ∈ rs, w.ownsRow r.base r.e r.sz r.v r.n r.xs) (hF : ∀ r ∈ rs, ∀ k, r.v.ownBlock = some k → F k) (hap : rs.Pairwise (fun r s => ∀ k, r.v.ownBlock = some k → s.v.ownBlock ≠ some k)) : Many w F w rs [] [] where
 own := fun j r hr => hown r (List.mem_of_getElem? hr)
 mine := fun j r hr k hk => .inl (hF r (List.mem_of_getElem? hr) k hk)
 apart := fun i j r s hij hr hs k hk hk2 => by
  obtain ⟨hi, hri⟩ := List.getElem?_eq_some_iff.1 hr
  obtain ⟨hj, hsj⟩ := List.getElem?_eq_some_iff.1 hs
  rcases Nat.lt_or_gt_of_ne hij with h | h
  ·have := List.pairwise_iff_getElem.1 hap i j hi hj h k
   rw [hri, hsj] at this
   exact this hk hk2
  ·have := List.pairwise_iff_getElem.1 hap j i hj hi h k
   rw [hri, hsj] at this
   exact this hk2 hk
 lit := fun p hp => by simp at hp
 pre := fun p hp => by simp at hp
 but := GrownBut.refl _ _
end Go.Proofs.Ytgbfaggnnfoamaa
namespace Go.Proofs.Ytgbfaggnnfoamaa
open Go.RowKit Go.Maps
theorem oF : Keyed Try.prog 3 := int_keyed (q := .i64) (by kernel_rfl)
end Go.Proofs.Ytgbfaggnnfoamaa
