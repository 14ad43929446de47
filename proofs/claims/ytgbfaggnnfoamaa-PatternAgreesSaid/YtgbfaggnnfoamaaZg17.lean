/- Part 17 of the proof: EMem0, App1. -/
import Derived.Test.YtgbfaggnnfoamaaZg16
set_option linter.unusedVariables false
set_option linter.unusedSimpArgs false
namespace Go.Proofs.Ytgbfaggnnfoamaa
open Go.RowKit
def RowX (X : Nat → Prop) (e : TypeId) (w : World) (v : Value) (xs : List Value) : Prop := RowT w.heap.size e w v xs ∧ ∀ k, v.ownBlock = some k → X k
def rC (X : Nat → Prop) (w w' : World) : Prop := ∀ k, X k → w'.heap[k]? = w.heap[k]?
theorem rC.trans {X : Nat → Prop} {a b c : World} (h : rC X a b) (h' : rC X b c) : rC X a c := fun k hk => (h' k hk).trans (h k hk)
theorem rC.refl (X : Nat → Prop) (w : World) : rC X w w := fun _ _ => rfl
theorem rC.cell {X : Nat → Prop} {w w' : World} (h : rC X w w') {b i : Nat} (hb : X b) {u : Value} (hc : w.cell? ⟨b, i, none⟩ = some u) : w'.cell? ⟨b, i, none⟩ = some u := (World.cell?_of_block (h b hb)).trans hc
theorem RowX.kept {X : Nat → Prop} {e : TypeId} {w w' : World} {v : Value} {xs : List Value} (h : RowX X e w v xs) (hk : rC X w w') (hs : w.heap.size ≤ w'.heap.size) : RowX X e w' v xs := by
 refine ⟨?_, h.2⟩
 rcases h.1 with h1 | ⟨b, off, cap, cur, m, h1, h2, h3, h4, h5, h6⟩
 ·exact .inl h1
 ·exact .inr ⟨b, off, cap, cur, m, h1, by omega, h3, h4, (hk b (h.2 b (by rw [h1]; rfl))).trans h5, h6⟩
theorem RowX.mono {X X' : Nat → Prop} {e : TypeId} {w : World} {v : Value} {xs : List Value} (h : RowX X e w v xs) (hX : ∀ k, X k → X' k) : RowX X' e w v xs := ⟨h.1, fun k hk => hX k (h.2 k hk)⟩
theorem RowX.row {X : Nat → Prop} {e : TypeId} {w : World} {v : Value} {xs : List Value} (h : RowX X e w v xs) : Row w.heap.size w v xs := h.1.row
theorem RowX.of_owns {X : Nat → Prop} {w : World} {base e n : Nat} {v : Value} {xs : List Value} (h : w.ownsRow base e 1 v n xs) (hX : ∀ k, v.ownBlock = some k → X k) : RowX X e w v xs := ⟨RowT.of_owns h, hX⟩
def vL {α : Type} (X : Nat → Prop) (e : TypeId) (f : α → List Value) (w : World) (hs : List Value) (ts : List α) : Prop :=
 hs.length = ts.length ∧ ∀ i (h : i < hs.length) (h' : i < ts.length), RowX X e w hs[i] (f ts[i])
section
variable {α : Type} {X X' : Nat → Prop} {e : TypeId} {f : α → List Value} {w w' : World} {hs : List Value} {ts : List α}
theorem vL.nil : vL X e f w [] [] := ⟨rfl, fun i h => by simp at h⟩
theorem vL.kept (h : vL X e f w hs ts) (hk : rC X w w') (hs' : w.heap.size ≤ w'.heap.size) : vL X e f w' hs ts := ⟨h.1, fun i h1 h2 => (h.2 i h1 h2).kept hk hs'⟩
theorem vL.mono (h : vL X e f w hs ts) (hX : ∀ k, X k → X' k) : vL X' e f w hs ts := ⟨h.1, fun i h1 h2 => (h.2 i h1 h2).mono hX⟩
theorem vL.snoc {v : Value} {t : α} (h : vL X e f w hs ts) (hv : RowX X e w v (f t)) : vL X e f w (hs ++ [v]) (ts ++ [t]) := by
 refine ⟨by simp [h.1], fun i h1 h2 => ?_⟩
 by_cases hi : i < hs.length
 ·rw [List.getElem_append_left hi]
  simp only [List.getElem_append_left (show i < ts.length by rw [← h.1]; exact hi)]
  exact h.2 i hi _
 ·have : i = hs.length := by simp at h1; omega
  subst this
  rw [List.getElem_append_right (Nat.le_refl _)]
  simp only [List.getElem_append_right (show ts.length ≤ hs.length by rw [h.1]; exact Nat.le_refl _)]
  simpa [h.1] using hv
end
section
variable {X : Nat → Prop} {W W' : World} {rs rs' : List RowS}
end
theorem vL.rowsT {α : Type} {X : Nat → Prop} {e : TypeId} {f : α → List Value} {w : World} {hs : List Value} {ts : List α} (h : vL X e f w hs ts) : wX w.heap.size e f w hs ts := ⟨h.1, fun i h3 h4 => (h.2 i h3 h4).1⟩
theorem oM {P : Program} {ops : Array Oper} {o : Oper} {a : Act} {w : World} {K : Act → World → Prop} {Q : Exit → Act → World → Prop} {R : Prop} (hgd : o.guard = none) (s x : Operand) (t : TypeId)
  (ho : o.op = .call { callee := .builtin .append, args := #[s, x], argTypes := #[t, t] })
  {e : TypeId} {z : Value} {bytes : Nat} (E : ElemOk P t e z bytes) (base : Nat) (v : Value) (n : Nat) (xs : List Value) (hs : a.eval s = v) (hown : w.ownsRow base e 1 v n xs)
  (u : Value) (blk : Nat) (m : Nat × Nat) (hx : a.eval x = .slice (some ⟨blk, 0, none⟩) 1 1) (hblk : w.heap[blk]? = some (.cells #[u] e m)) (h1 : u.oneCell' = true) (h63 : n + 1 ≤ maxLen) (hbytes : (n + 1) * bytes ≤ 140737488355328) (hbase : base ≤ w.heap.size)
  (h : ∀ sa sc w', w'.ownsRow base e 1 (.slice sa (n + 1) sc) (n + 1) (xs ++ [u]) → w.grownBy w' v.ownBlock → K (a.put o.dst (.slice sa (n + 1) sc)) w') :
  if Region.wanted o (yielded ops a.tmps) = true then Oper.wp P o a w K Q else R := by
 have hw : Region.wanted o (yielded ops a.tmps) = true := by simp [Region.wanted, hgd]
 rw [if_pos hw]
 obtain ⟨i, hi, hz, hsz, hby⟩ := info_parts E.hi
 refine wp_append_own w s x t ho base e i z 1 bytes E.ht hi hz hsz hby E.hz (by decide) v n xs hs hown ⟨blk, 0, none⟩ 1 1 [u] hx rfl ?_ ?_ h63 hbytes hbase ?_
 ·intro j u' hj
  match j, hj with
  | 0, hj => simp at hj; subst hj; simpa [Addr.add] using zO hblk 0 (by simp)
 ·intro u' hu; simp at hu; subst hu; exact h1
 ·intro v' w' h1 h2 _
  obtain ⟨sa, sc, rfl⟩ := sX h1
  exact h sa sc w' h1 h2
end Go.Proofs.Ytgbfaggnnfoamaa
