/- Part 14 of the proof: Dfa0, MapNo. -/
import Derived.Test.YtgbfaggnnfoamaaZg13
import Derived.Maps.OwnSet
import Derived.Maps.OwnOps
import Derived.Deep.DeepCutAuto
import Derived.Deep.CutBlock
set_option linter.unusedVariables false
set_option linter.unusedSimpArgs false
namespace Go.Proofs.Ytgbfaggnnfoamaa
open Go.RowKit
def vU (B : Nat) (w : World) (v : Value) (d : DfaV) : Prop := ∃ fv nv, v = .agg #[.int .i64 d.letters, .int .i64 d.start, fv, nv] ∧ Row B w fv (bls d.final) ∧ Mat B w nv d.next
theorem vU.kept {B : Nat} {w w' : World} {v : Value} {d : DfaV} {row : Option Nat} (h : vU B w v d) (hg : w.grownBy w' row) (hr : ∀ k, row = some k → B ≤ k) : vU B w' v d := by
 obtain ⟨fv, nv, h1, h2, h3⟩ := h
 exact ⟨fv, nv, h1, h2.kept hg hr, h3.kept hg hr⟩
theorem vU.mono {B B' : Nat} {w : World} {v : Value} {d : DfaV} (h : vU B w v d) (hB : B ≤ B') : vU B' w v d := by
 obtain ⟨fv, nv, h1, h2, h3⟩ := h
 exact ⟨fv, nv, h1, h2.mono hB, h3.mono hB⟩
theorem validD_letters {d : DfaV} (h : d.letters < 1 ∨ 6 < d.letters) : vV d = 1 := by rw [vV, if_pos h]
theorem validD_big {d : DfaV} (h : ¬ (d.letters < 1 ∨ 6 < d.letters)) (h2 : 512 < d.final.length) : vV d = 3 := by rw [vV, if_neg h, if_pos h2]
theorem validD_shape {d : DfaV} (h : ¬ (d.letters < 1 ∨ 6 < d.letters)) (h2 : ¬ 512 < d.final.length) (h3 : d.final.length = 0 ∨ d.next.length ≠ d.final.length ∨ d.start < 0 ∨ d.final.length ≤ d.start) : vV d = 4 := by rw [vV, if_neg h, if_neg h2, if_pos h3]
theorem sR {d : DfaV} (h : ¬ (d.letters < 1 ∨ 6 < d.letters)) (h2 : ¬ 512 < d.final.length) (h3 : ¬ (d.final.length = 0 ∨ d.next.length ≠ d.final.length ∨ d.start < 0 ∨ d.final.length ≤ d.start)) {q : Nat} (hq : q < d.next.length) (hb : rowD d.letters d.final.length (d.next.getD q []) = false) : vV d = 4 := by
 rw [vV, if_neg h, if_neg h2, if_neg h3, if_neg]
 intro ha
 have := List.all_eq_true.1 ha d.next[q] (List.getElem_mem hq)
 rw [zG hq, this] at hb; cases hb
theorem validD_ok {d : DfaV} (h : ¬ (d.letters < 1 ∨ 6 < d.letters)) (h2 : ¬ 512 < d.final.length) (h3 : ¬ (d.final.length = 0 ∨ d.next.length ≠ d.final.length ∨ d.start < 0 ∨ d.final.length ≤ d.start)) (ha : ∀ q, q < d.next.length → rowD d.letters d.final.length (d.next.getD q []) = true) : vV d = 0 := by
 rw [vV, if_neg h, if_neg h2, if_neg h3, if_pos]
 rw [List.all_eq_true]
 intro r hr
 obtain ⟨q, hq, rfl⟩ := List.getElem_of_mem hr
 have := ha q hq
 rwa [zG hq] at this
theorem rowD_len {k : Int} {n : Nat} {r : List Int} (h : (r.length : Int) ≠ k) : rowD k n r = false := by simp [rowD, h]
theorem mD {k : Int} {n : Nat} {r : List Int} {y : Nat} (hy : y < r.length) (h : r.getD y 0 < 0 ∨ n ≤ r.getD y 0) : rowD k n r = false := by
 rw [← Bool.not_eq_true]
 intro hr
 have := (pW.1 hr).2 y hy
 omega
def DRows (d : DfaV) (k : Nat) : Prop := ∀ x, x < k → rowD d.letters d.final.length (d.next.getD x []) = true
end Go.Proofs.Ytgbfaggnnfoamaa
namespace Go.Proofs.Ytgbfaggnnfoamaa
open Go.RowKit Go.Maps
theorem wF : Try.prog.underlying 120 = some (.map 3 3) := by kernel_rfl
theorem vH : Try.prog.underlying 3 = some (.int .i64) := by kernel_rfl
theorem pM (w : World) : (zeroValue 3).run Try.prog w = .ok (.int .i64 0) w := by kernel_rfl
def Mid (x : Int) : Prop := -4611686018427387904 < x ∧ x < 4611686018427387904
theorem mI {x : Int} (hx : Mid x) : (Lit.int .i64 x).wf = true := by
 have h1 : IntKind.i64.min = -9223372036854775808 := rfl
 have h2 : IntKind.i64.max = 9223372036854775807 := rfl
 obtain ⟨h3, h4⟩ := hx
 simp [Lit.wf]; omega
theorem nN {x : Int} (hx : Mid x) : keyOf Try.prog 3 (.int .i64 x) = some (.int .i64 x) := keyOf_int_mk (q := .i64) (by kernel_rfl) (mI hx)
def vT (w : World) (b n : Nat) (l : List Int) : Prop :=
 ∃ D : DataW Unit, w.ownsMap Try.prog 3 (plainElem Try.prog 3) b n D ∧ size D = l.length ∧
  ∀ x : Int, Mid x → has D (.int .i64 x) = decide (x ∈ l) ∧ D.atKey (.int .i64 x) (.lit (.int .i64 0)) = .lit (.int .i64 (if x ∈ l then ((l.idxOf x : Nat) : Int) else 0))
theorem vT.made (w : World) : vT (w.alloc (.map #[] 0)) w.heap.size 0 [] := by
 refine ⟨.map [], World.ownsMap_made _ _ _ _, rfl, fun x _ => ⟨by simp [has_eq], ?_⟩⟩
 rw [WideAt.atKey_none _ (by simp)]
 simp
theorem vT.kept {w w' : World} {b n : Nat} {l : List Int} {row : Option Nat} (h : vT w b n l) (hg : w.grownBy w' row) (hne : row ≠ some b) : vT w' b n l := by
 obtain ⟨D, h1, h2, h3⟩ := h
 exact ⟨D, h1.kept hg (fun e => hne e.symm), h2, h3⟩
theorem vT.mono {w : World} {b n n' : Nat} {l : List Int} (h : vT w b n l) (hn : n ≤ n') : vT w b n' l := by
 obtain ⟨D, h1, h2, h3⟩ := h
 exact ⟨D, h1.mono hn, h2, h3⟩
theorem vT.lt {w : World} {b n : Nat} {l : List Int} (h : vT w b n l) : b < w.heap.size := by
 obtain ⟨D, h1, _⟩ := h
 exact h1.lt
theorem vT.lookup {w : World} {b n : Nat} {l : List Int} (h : vT w b n l) {x : Int} (hx : Mid x) : (Instr.lookup 120 (.map (some b)) (.int .i64 x) true).run Try.prog w = .ok (.tuple #[.int .i64 (if x ∈ l then ((l.idxOf x : Nat) : Int) else 0), .bool (decide (x ∈ l))]) w := by
 obtain ⟨D, h1, h2, h3⟩ := h
 obtain ⟨v, ps, hrun, hv⟩ := h1.look_ok oF wF (pM w) (plainElem_int vH (by decide)) (nN hx)
 obtain ⟨c, rfl, hc, _⟩ := plainElem_int_inv vH hv
 obtain ⟨e1, e2⟩ := h3 x hx
 have e3 := congrArg Prod.fst hc
 simp only [e2] at e3
 rw [hrun, e1]
 have e4 : (if x ∈ l then ((l.idxOf x : Nat) : Int) else 0) = c := by
  simp only [Lit.int.injEq, DataW.lit.injEq, true_and] at e3
  exact e3
 rw [e4]
theorem vT.len {w : World} {b n : Nat} {l : List Int} (h : vT w b n l) : (Builtin.len_ #[120] 3 #[.map (some b)]).run Try.prog w = .ok (.int .i64 (l.length : Nat)) w := by
 obtain ⟨D, h1, h2, h3⟩ := h
 have hrun := h1.len wF 3
 rw [h2] at hrun
 exact hrun
theorem qY {w : World} {ops : Array Oper} {rest : List Oper} {o : Oper} {a : Act} {Q : Exit → Act → World → Prop} (hg : o.guard = none) (m x v : Operand) (hop : o.op = Op.mapUpdate 120 m x v)
  (b n : Nat) (l : List Int) (z : Int) (hm : a.eval m = .map (some b)) (hx : a.eval x = .int .i64 z) (hv : a.eval v = .int .i64 (l.length : Nat)) (h : vT w b n l) (hn : n < maxLen) (hz : Mid z) (hnew : z ∉ l) (hll : l.length < 4611686018427387904)
  (hK : ∀ w', vT w' b (n + 1) (l ++ [z]) → w.grownBy w' (some b) → wpList Try.prog ops Q rest (a.put o.dst undef) w') :
  wpList Try.prog ops Q (o :: rest) a w := by
 obtain ⟨D, h1, h2, h3⟩ := h
 obtain ⟨w', hrun, hown, hgr⟩ := h1.update oF wF hn (nN hz) (plainElem_int vH (mI (x := ((l.length : Nat) : Int)) ⟨by omega, by omega⟩))
 have hkz : WideAt.IsKeyLit (.int .i64 z) := by simp [WideAt.IsKeyLit]
 refine wpList_plain hg fun K' hK' => ?_
 unfold Oper.wp
 simp [execOp, hop, hm, hx, hv, hrun, Result.andThen]
 refine hK' _ _ (hK w' ⟨_, hown, ?_, fun y hy => ?_⟩ hgr)
 ·rw [size_put (h1.tidy oF), (h3 z hz).1, decide_eq_false hnew, h2]; simp
 ·by_cases e : y = z
  ·subst e
   refine ⟨by rw [has_put_same h1.isMap hkz]; simp, ?_⟩
   rw [atKey_put_same h1.isMap hkz, if_pos (by simp), List.idxOf_append, if_neg hnew]
   simp
  ·have hne : (Lit.int .i64 y) ≠ Lit.int .i64 z := by intro h; injection h with _ h; exact e h
   obtain ⟨e1, e2⟩ := h3 y hy
   refine ⟨by rw [has_put_other hne, e1]; simp [e], ?_⟩
   rw [atKey_put_other hne, e2]
   by_cases hyl : y ∈ l
   ·rw [if_pos hyl, if_pos (by simp [hyl]), List.idxOf_append, if_pos hyl]
   ·rw [if_neg hyl, if_neg (by simp [hyl, e])]
def vZ (l : List Nat) (k : Nat) : List Nat := l.take k ++ List.replicate (l.length - k) 0
theorem fillTo_zero (l : List Nat) : vZ l 0 = List.replicate l.length 0 := by simp [vZ]
theorem fillTo_end (l : List Nat) : vZ l l.length = l := by simp [vZ]
theorem fillTo_length {l : List Nat} {k : Nat} (h : k ≤ l.length) : (vZ l k).length = l.length := by simp [vZ]; omega
theorem fillTo_set {l : List Nat} {k : Nat} (h : k < l.length) : (vZ l k).set k (l.getD k 0) = vZ l (k + 1) := by
 have hl : (l.take k).length = k := by simp; omega
 unfold vZ
 rw [List.set_append_right _ _ (by omega), hl, Nat.sub_self, yW (d := 0) h, show l.length - k = (l.length - (k + 1)) + 1 by omega, List.replicate_succ, List.set_cons_zero, List.append_assoc]
 rfl
def NumOk (w : World) (p : List Nat) (e : Ending) (w' : World) : Prop :=
 ∃ g, e = .returned (.slice (some ⟨g, 0, none⟩) p.length p.length) ∧ w.heap.size ≤ g ∧ Arr w' g 3 (nats p) ∧ w.grownBy w' none
end Go.Proofs.Ytgbfaggnnfoamaa
