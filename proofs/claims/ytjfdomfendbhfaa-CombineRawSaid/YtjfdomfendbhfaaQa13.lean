/- Part 13 of the proof: ExplP, App1. -/
import Derived.Test.YtjfdomfendbhfaaQa12
set_option linter.unusedVariables false
set_option linter.unusedSimpArgs false
namespace Go.Proofs.Ytjfdomfendbhfaa
def rQ (d : DfaV) (k q x : Nat) : List Nat := (List.range x).map (fun a => (zS d k).idxOf (nx d q a)) ++ List.replicate (k - x) 0
theorem rP {d : DfaV} {k q x : Nat} (h : x ≤ k) : (rQ d k q x).length = k := by simp [rQ]; omega
theorem exRow_set {d : DfaV} {k q x : Nat} (h : x < k) : (rQ d k q x).set x ((zS d k).idxOf (nx d q x)) = rQ d k q (x + 1) := by
 unfold rQ
 rw [List.set_append_right _ _ (by simp), List.range_succ, List.map_append, show k - x = (k - (x + 1)) + 1 by omega, List.replicate_succ]
 simp
theorem exRow_zero (d : DfaV) (k q : Nat) : rQ d k q 0 = List.replicate k 0 := by simp [rQ]
theorem exRow_full {d : DfaV} {n k q : Nat} (hd : VD d n k) (hA : ∀ a, a < k → nx d q a ∈ zS d k) (hq : q < n) : zl (rQ d k q k) = uQ (zS d k) (d.next.getD q []) := by
 have hr := hd.row q hq
 refine List.ext_getElem (by rw [zl_len, rP (Nat.le_refl k), uQ, List.length_map, hr]) fun a h1 h2 => ?_
 have ha : a < k := by simpa [zl, rQ] using h1
 have e2 : (uQ (zS d k) (d.next.getD q []))[a] = sO (zS d k) ((d.next.getD q [])[a]'(by rw [hr]; exact ha)).toNat := by simp [uQ]
 rw [e2]
 have e3 : ((d.next.getD q [])[a]'(by rw [hr]; exact ha)).toNat = nx d q a := by
  show _ = (ent d.next q a).toNat
  unfold ent
  rw [zF (show a < (d.next.getD q []).length by rw [hr]; exact ha)]
 rw [e3, sO, if_pos (hA a ha)]
 simp [zl, rQ]
structure ExL (d : DfaV) (n k i : Nat) (l : List Nat) : Prop where
 acc : AccI d n k i l
 go : tW d k (n - i) i l = zS d k
theorem ExL.start {d : DfaV} {n k : Nat} (hd : VD d n k) : ExL d n k 0 [st0 d] := ⟨AccI.start hd, by rw [zS, hd.hn]; rfl⟩
theorem ExL.le {d : DfaV} {n k i : Nat} {l : List Nat} (h : ExL d n k i l) : l.length ≤ n := nT h.acc.nd h.acc.lt
theorem ExL.next {d : DfaV} {n k i : Nat} {l : List Nat} (hd : VD d n k) (h : ExL d n k i l) (hi : i < l.length) : ExL d n k (i + 1) (wD d l i k) := by
 refine ⟨h.acc.row hd hi, ?_⟩
 have := h.le
 have e : n - i = (n - (i + 1)) + 1 := by omega
 have g := h.go
 rw [e, tW, if_pos hi] at g
 exact g
theorem ExL.done {d : DfaV} {n k i : Nat} {l : List Nat} (h : ExL d n k i l) (hi : ¬ i < l.length) : l = zS d k := by
 have g := h.go
 rw [accGo_end hi] at g
 exact g
theorem nL (d : DfaV) (k : Nat) : ∀ f i l, l <+: tW d k f i l
 | 0, _, l => List.prefix_refl l
 | f + 1, i, l => by
  rw [tW]
  split
  ·exact (vH d l i k).trans (nL d k f (i + 1) _)
  ·exact List.prefix_refl l
theorem pH (d : DfaV) (l : List Nat) (i : Nat) : ∀ {a b}, a ≤ b → wD d l i a <+: wD d l i b
 | a, 0, h => by rw [show a = 0 by omega]; exact List.prefix_refl _
 | a, b + 1, h => by
  by_cases e : a = b + 1
  ·rw [e]; exact List.prefix_refl _
  ·exact (pH d l i (by omega)).trans (sY _ _)
theorem ExL.pre {d : DfaV} {n k i : Nat} {l : List Nat} (hd : VD d n k) (h : ExL d n k i l) (hi : i < l.length) {x : Nat} (hx : x ≤ k) : wD d l i x <+: zS d k := by
 have h2 := (h.next hd hi).go
 exact (pH d l i hx).trans (h2 ▸ nL d k _ _ _)
theorem ExL.idx {d : DfaV} {n k i : Nat} {l : List Nat} (hd : VD d n k) (h : ExL d n k i l) (hi : i < l.length) {x : Nat} (hx : x < k) : (wD d l i (x + 1)).idxOf (nx d (l.getD i 0) x) = (zS d k).idxOf (nx d (l.getD i 0) x) :=
 (nF (h.pre hd hi (show x + 1 ≤ k by omega)) (vK.2 (.inr ⟨x, by omega, rfl⟩))).symm
theorem ExL.done_mem {d : DfaV} {n k i : Nat} {l : List Nat} (hd : VD d n k) (h : ExL d n k i l) (hi : i < l.length) {a : Nat} (ha : a < k) : nx d (l.getD i 0) a ∈ zS d k :=
 (h.pre hd hi (show a + 1 ≤ k by omega)).subset (vK.2 (.inr ⟨a, by omega, rfl⟩))
theorem ExL.rowLen {d : DfaV} {n k i : Nat} {l : List Nat} (hd : VD d n k) (h : ExL d n k i l) (hi : i < l.length) {x : Nat} (hx : x ≤ k) : (wD d l i x).length ≤ n := by
 have h1 := (pH d l i hx).length_le
 have h2 := (h.next hd hi).le
 omega
theorem rC {l m : List Nat} (h : l <+: m) {i : Nat} (hi : i ≤ l.length) : m.take i = l.take i := by
 obtain ⟨r, rfl⟩ := h
 rw [List.take_append_of_le_length hi]
end Go.Proofs.Ytjfdomfendbhfaa
namespace Go.Proofs.Ytjfdomfendbhfaa
open Go.RowKit
theorem step_app1 {P : Program} {ops : Array Oper} {o : Oper} {a : Act} {w : World} {K : Act → World → Prop} {Q : Exit → Act → World → Prop} {R : Prop} (hgd : o.guard = none) (s x : Operand) (t : TypeId)
  (ho : o.op = .call { callee := .builtin .append, args := #[s, x], argTypes := #[t, t] })
  {e : TypeId} {z : Value} {bytes : Nat} (E : ElemOk P t e z bytes) (base : Nat) (v : Value) (n : Nat) (xs : List Value) (hs : a.eval s = v) (hown : w.ownsRow base e 1 v n xs)
  (u : Value) (blk : Nat) (m : Nat × Nat) (hx : a.eval x = .slice (some ⟨blk, 0, none⟩) 1 1) (hblk : w.heap[blk]? = some (.cells #[u] e m)) (h1 : u.oneCell' = true) (h63 : n + 1 ≤ maxLen) (hbytes : (n + 1) * bytes ≤ 140737488355328) (hbase : base ≤ w.heap.size)
  (h : ∀ sa sc w', w'.ownsRow base e 1 (.slice sa (n + 1) sc) (n + 1) (xs ++ [u]) → w.grownBy w' v.ownBlock → K (a.put o.dst (.slice sa (n + 1) sc)) w') :
  if Region.wanted o (yielded ops a.tmps) = true then Oper.wp P o a w K Q else R := by
 have hw : Region.wanted o (yielded ops a.tmps) = true := by simp [Region.wanted, hgd]
 rw [if_pos hw]
 obtain ⟨i, hi, hz, hsz, hby⟩ := info_parts E.hi
 refine wp_append_own w s x t ho base e i z 1 bytes E.ht hi hz hsz hby E.hz (by decide) v n xs hs hown ⟨blk, 0, none⟩ 1 1 [u] hx rfl ?_ ?_ h63 hbytes hbase ?_
 ·intro j u' hj
  match j, hj with
  | 0, hj => simp at hj; subst hj; simpa [Addr.add] using zI hblk 0 (by simp)
 ·intro u' hu; simp at hu; subst hu; exact h1
 ·intro v' w' h1 h2 _
  obtain ⟨sa, sc, rfl⟩ := rX h1
  exact h sa sc w' h1 h2
end Go.Proofs.Ytjfdomfendbhfaa
