/- Part 32 of the proof: MapStr. -/
import Derived.Test.YtdjhoadoiknaoaaDoorZq31
import Derived.StringKeys
set_option linter.unusedVariables false
set_option linter.unusedSimpArgs false
namespace Go.Proofs.YtdjhoadoiknaoaaDoor
open Go.RowKit Go.Maps
theorem mapstr_under : Tryd.prog.underlying 141 = some (.map 9 3) := by kernel_rfl
theorem str_under : Tryd.prog.underlying 9 = some .string := by kernel_rfl
theorem key_string : Keyed Tryd.prog 9 := string_keyed str_under
def wJ (w : World) (b n : Nat) : Prop := ∃ D : DataW Unit, w.ownsMap Tryd.prog 9 (plainElem Tryd.prog 3) b n D
theorem wJ.made (w : World) : wJ (w.alloc (.map #[] 0)) w.heap.size 0 := ⟨.map [], World.ownsMap_made _ _ _ _⟩
theorem wJ.kept {w w' : World} {b n : Nat} {row : Option Nat} (h : wJ w b n) (hg : w.grownBy w' row) (hne : row ≠ some b) : wJ w' b n := by
 obtain ⟨D, h1⟩ := h
 exact ⟨D, h1.kept hg (fun e => hne e.symm)⟩
theorem wJ.mono {w : World} {b n n' : Nat} (h : wJ w b n) (hn : n ≤ n') : wJ w b n' := by
 obtain ⟨D, h1⟩ := h
 exact ⟨D, h1.mono hn⟩
theorem wJ.lt {w : World} {b n : Nat} (h : wJ w b n) : b < w.heap.size := by
 obtain ⟨D, h1⟩ := h
 exact h1.lt
theorem wJ.lookup {w : World} {b n : Nat} (h : wJ w b n) {s : ByteArray} (hs : s.size ≤ maxLen) : ∃ (c : Int) (ok : Bool), (Instr.lookup 141 (.map (some b)) (.string s) true).run Tryd.prog w = .ok (.tuple #[.int .i64 c, .bool ok]) w := by
 obtain ⟨D, h1⟩ := h
 obtain ⟨v, ps, hrun, hv⟩ := h1.look_ok key_string mapstr_under (zero_int w) (plainElem_int rB (by decide)) (Go.WideMaps.keyOf_string_mk str_under hs)
 obtain ⟨c, rfl, hc, _⟩ := plainElem_int_inv rB hv
 exact ⟨c, _, hrun⟩
set_option maxRecDepth 100000 in
theorem step_putStr {w : World} {ops : Array Oper} {rest : List Oper} {o : Oper} {a : Act} {Q : Exit → Act → World → Prop} (hg : o.guard = none) (m x v : Operand) (hop : o.op = Op.mapUpdate 141 m x v)
  (b n : Nat) (s : ByteArray) (z : Int) (hm : a.eval m = .map (some b)) (hx : a.eval x = .string s) (hv : a.eval v = .int .i64 z) (h : wJ w b n) (hn : n < maxLen) (hs : s.size ≤ maxLen) (hz : Mid z)
  (hK : ∀ w', wJ w' b (n + 1) → w.grownBy w' (some b) → wpList Tryd.prog ops Q rest (a.put o.dst undef) w') :
  wpList Tryd.prog ops Q (o :: rest) a w := by
 obtain ⟨D, h1⟩ := h
 obtain ⟨w', hrun, hown, hgr⟩ := h1.update key_string mapstr_under hn (Go.WideMaps.keyOf_string_mk str_under hs) (plainElem_int rB (mid_wf (x := z) hz))
 refine wpList_plain hg fun K' hK' => ?_
 unfold Oper.wp
 simp [execOp, hop, hm, hx, hv, hrun, Result.andThen]
 exact hK' _ _ (hK w' ⟨_, hown⟩ hgr)
end Go.Proofs.YtdjhoadoiknaoaaDoor
