/- Rows of a known element type, and lists of them. -/
import Derived.Test.YtgbfaggnnfoamaaBase
namespace Go.Proofs.Ytgbfaggnnfoamaa
open Go.RowKit

/-- A slice value reads as the one-cell values xs; they lie in a block of elements of type e, below block B. -/
def RowT (B : Nat) (e : TypeId) (w : World) (v : Value) (xs : List Value) : Prop :=
  (v = .slice none 0 0 ∧ xs = []) ∨ ∃ b off cap cur m, v = .slice (some ⟨b, off, none⟩) xs.length cap ∧ b < B ∧ xs.length ≤ cap ∧ cap ≤ maxLen ∧ w.heap[b]? = some (.cells cur e m) ∧ ∀ i (h : i < xs.length), cur[off + i]? = some xs[i]
theorem RowT.row {B : Nat} {e : TypeId} {w : World} {v : Value} {xs : List Value} (h : RowT B e w v xs) : Row B w v xs := by
  rcases h with h | ⟨b, off, cap, cur, m, h1, h2, h3, h4, h5, h6⟩
  · exact .inl ⟨_, _, h⟩
  · exact .inr ⟨b, off, cap, h1, h2, h3, h4, lt_of_block h5, fun i hi => by rw [cell_of_row w b (off + i) _ _ _ h5]; exact h6 i hi⟩
theorem RowT.mono {B B' : Nat} {e : TypeId} {w : World} {v : Value} {xs : List Value} (h : RowT B e w v xs) (hB : B ≤ B') : RowT B' e w v xs := by
  rcases h with h | ⟨b, off, cap, cur, m, h1, h2, h3⟩
  · exact .inl h
  · exact .inr ⟨b, off, cap, cur, m, h1, by omega, h3⟩
/-- Row k of w is of another type than e. -/
def OtherType (w : World) (e : TypeId) (k : Nat) : Prop := ∃ cur e' m, w.heap[k]? = some (.cells cur e' m) ∧ e' ≠ e
theorem RowT.kept {B : Nat} {e : TypeId} {w w' : World} {v : Value} {xs : List Value} {row : Option Nat} (h : RowT B e w v xs) (hg : w.grownBy w' row) (hr : ∀ k, row = some k → B ≤ k ∨ OtherType w e k) : RowT B e w' v xs := by
  rcases h with h | ⟨b, off, cap, cur, m, h1, h2, h3, h4, h5, h6⟩
  · exact .inl h
  · refine .inr ⟨b, off, cap, cur, m, h1, h2, h3, h4, block_kept h5 hg (fun eq => ?_), h6⟩
    rcases hr b eq with hk | ⟨cur', e', m', hk, hne⟩
    · omega
    · rw [h5] at hk; simp at hk; exact hne hk.2.1.symm
theorem RowT.of_heap {B : Nat} {e : TypeId} {w w' : World} {v : Value} {xs : List Value} (h : RowT B e w v xs) (he : w'.heap = w.heap) : RowT B e w' v xs := by
  rcases h with h | ⟨b, off, cap, cur, m, h1, h2, h3, h4, h5, h6⟩
  · exact .inl h
  · exact .inr ⟨b, off, cap, cur, m, h1, h2, h3, h4, by rw [he]; exact h5, h6⟩
theorem RowT.of_owns {w : World} {base e : Nat} {v : Value} {n : Nat} {xs : List Value} (h : w.ownsRow base e 1 v n xs) : RowT w.heap.size e w v xs := by
  have hl : xs.length = n := by have := h.1; omega
  rcases h.2 with ⟨rfl, rfl⟩ | ⟨g, cap, cur, rfl, hb, hg, hnc, hcm, hcs, htake⟩
  · exact .inl ⟨rfl, List.eq_nil_of_length_eq_zero hl⟩
  · refine .inr ⟨g, 0, cap, cur, (0, 0), by rw [hl], lt_of_block hg, by omega, hcm, hg, fun i hi => ?_⟩
    have := h.cellAt i (by omega)
    rw [cell_of_row w g i _ _ _ hg] at this
    rw [Nat.zero_add, this, List.getElem?_eq_getElem hi]
theorem owns_other {w : World} {base e e' size : Nat} {v : Value} {n : Nat} {xs : List Value} (h : w.ownsRow base e size v n xs) (hne : e ≠ e') : ∀ k, v.ownBlock = some k → OtherType w e' k := by
  intro k hk
  rcases h.2 with ⟨rfl, _⟩ | ⟨g, cap, cur, rfl, _, hg, _⟩
  · simp [Value.ownBlock] at hk
  · simp [Value.ownBlock] at hk
    subst hk
    exact ⟨cur, e, (0, 0), hg, hne⟩
/-- The values svs are slices that read as the rows of ps. -/
def RowsT {α : Type} (B : Nat) (e : TypeId) (f : α → List Value) (w : World) (svs : List Value) (ps : List α) : Prop :=
  svs.length = ps.length ∧ ∀ i (h : i < svs.length) (h' : i < ps.length), RowT B e w svs[i] (f ps[i])
section
variable {α : Type} {B : Nat} {e : TypeId} {f : α → List Value} {w : World} {svs : List Value} {ps : List α}
theorem RowsT.nil : RowsT B e f w [] [] := ⟨rfl, fun i h => by simp at h⟩
theorem RowsT.kept {w' : World} {row : Option Nat} (h : RowsT B e f w svs ps) (hg : w.grownBy w' row) (hr : ∀ k, row = some k → B ≤ k ∨ OtherType w e k) : RowsT B e f w' svs ps :=
  ⟨h.1, fun i h1 h2 => (h.2 i h1 h2).kept hg hr⟩
theorem RowsT.mono {B' : Nat} (h : RowsT B e f w svs ps) (hB : B ≤ B') : RowsT B' e f w svs ps := ⟨h.1, fun i h1 h2 => (h.2 i h1 h2).mono hB⟩
theorem RowsT.snoc {sv : Value} {p : α} (h : RowsT B e f w svs ps) (hs : RowT B e w sv (f p)) : RowsT B e f w (svs ++ [sv]) (ps ++ [p]) := by
  refine ⟨by simp [h.1], fun i h1 h2 => ?_⟩
  by_cases hi : i < svs.length
  · rw [List.getElem_append_left hi, List.getElem_append_left (by rw [← h.1]; exact hi)]
    exact h.2 i hi _
  · have : i = svs.length := by simp at h1; omega
    subst this
    rw [List.getElem_append_right (Nat.le_refl _), List.getElem_append_right (by rw [h.1]; exact Nat.le_refl _)]
    simpa [h.1] using hs
end
end Go.Proofs.Ytgbfaggnnfoamaa
