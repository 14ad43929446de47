/- Part 16 of the proof: SigKey. -/
import Derived.Test.YtjfdomfendbhfaaQb15
import Derived.DeepKeys4
set_option linter.unusedVariables false
set_option linter.unusedSimpArgs false
namespace Go.Proofs.Ytjfdomfendbhfaa
open Go.RowKit Go.Maps
theorem jC : Try.prog.underlying 176 = some (.array 7 3) := by kernel_rfl
theorem sigmap_under : Try.prog.underlying 174 = some (.map 176 3) := by kernel_rfl
theorem sig_keyed : Keyed Try.prog 176 := Keyed.of_law (deep_law_laid (m := 5) (by kernel_rfl) (by decide) (of_decide_eq_true (by kernel_rfl)) (by kernel_rfl) (by kernel_rfl))
theorem nat_wf {x : Nat} (hx : x < 4611686018427387904) : (Lit.int .i64 (x : Int)).wf = true := mid_wf (x := (x : Int)) ⟨by omega, by omega⟩
theorem tC (d : Nat) {x : Nat} (hx : x < 4611686018427387904) : Try.prog.keyLits (d + 1) 3 [.int .i64 (x : Int)] = some [.int .i64 (x : Int)] := by
 unfold Program.keyLits
 rw [tM]
 simp [nat_wf hx]
def sigV (L : List Nat) : Value := .agg #[.int .i64 ((L.getD 0 0 : Nat) : Int), .int .i64 ((L.getD 1 0 : Nat) : Int), .int .i64 ((L.getD 2 0 : Nat) : Int), .int .i64 ((L.getD 3 0 : Nat) : Int), .int .i64 ((L.getD 4 0 : Nat) : Int), .int .i64 ((L.getD 5 0 : Nat) : Int), .int .i64 ((L.getD 6 0 : Nat) : Int)]
def SigOk (L : List Nat) : Prop := L.length = 7 ∧ ∀ x ∈ L, x < 4611686018427387904
theorem sig_cells : Try.prog.cellsOf 176 = 7 := by kernel_rfl
theorem int_cells : Try.prog.cellsOf 3 = 1 := by kernel_rfl
theorem sig_some {x0 x1 x2 x3 x4 x5 x6 : Nat} (h0 : x0 < 4611686018427387904) (h1 : x1 < 4611686018427387904) (h2 : x2 < 4611686018427387904) (h3 : x3 < 4611686018427387904) (h4 : x4 < 4611686018427387904) (h5 : x5 < 4611686018427387904) (h6 : x6 < 4611686018427387904) :
  (keyOf Try.prog 176 (.agg #[.int .i64 (x0 : Int), .int .i64 (x1 : Int), .int .i64 (x2 : Int), .int .i64 (x3 : Int), .int .i64 (x4 : Int), .int .i64 (x5 : Int), .int .i64 (x6 : Int)])).isSome = true := by
 have hk : Try.prog.keyType 176 = true := by kernel_rfl
 unfold keyOf
 rw [jC]
 simp only [hk, Bool.true_and]
 have hf : (Value.agg #[.int .i64 (x0 : Int), .int .i64 (x1 : Int), .int .i64 (x2 : Int), .int .i64 (x3 : Int), .int .i64 (x4 : Int), .int .i64 (x5 : Int), .int .i64 (x6 : Int)]).formed Try.prog 176 = true := by
  simp [Value.formed, jC, sig_cells]
 rw [if_pos hf]
 have hl : Try.prog.keyLits (Try.prog.types.size + 1) 176 (Value.agg #[.int .i64 (x0 : Int), .int .i64 (x1 : Int), .int .i64 (x2 : Int), .int .i64 (x3 : Int), .int .i64 (x4 : Int), .int .i64 (x5 : Int), .int .i64 (x6 : Int)]).cells.toList = some [.int .i64 (x0 : Int), .int .i64 (x1 : Int), .int .i64 (x2 : Int), .int .i64 (x3 : Int), .int .i64 (x4 : Int), .int .i64 (x5 : Int), .int .i64 (x6 : Int)] := by
  have hz : Try.prog.types.size = (Try.prog.types.size - 1) + 1 := by kernel_rfl
  rw [hz]
  unfold Program.keyLits
  rw [jC]
  simp [Value.cells, sig_cells, int_cells, List.range, List.range.loop, tC _ h0, tC _ h1, tC _ h2, tC _ h3, tC _ h4, tC _ h5, tC _ h6]
 rw [hl]; rfl
theorem sig_key : KeyK 174 176 SigOk sigV where
 key := sig_keyed
 und := sigmap_under
 of := fun L h => by
  have hg : ∀ i, L.getD i 0 < 4611686018427387904 := fun i => by
   by_cases hi : i < L.length
   ·rw [zI hi]; exact h.2 _ (List.getElem_mem hi)
   ·rw [List.getD, List.getElem?_eq_none (by omega)]; simp
  exact sig_some (hg 0) (hg 1) (hg 2) (hg 3) (hg 4) (hg 5) (hg 6)
 inj := fun L M hL hM e => by
  simp only [sigV, Value.agg.injEq] at e
  have e := congrArg Array.toList e
  simp only [List.cons.injEq, Value.int.injEq, true_and, and_true] at e
  refine List.ext_getElem (by rw [hL.1, hM.1]) fun i h1 h2 => ?_
  rw [← zI (d := 0) h1, ← zI (d := 0) h2]
  have : i < 7 := by rw [← hL.1]; exact h1
  match i, this with
  | 0, _ => omega
  | 1, _ => omega
  | 2, _ => omega
  | 3, _ => omega
  | 4, _ => omega
  | 5, _ => omega
  | 6, _ => omega
end Go.Proofs.Ytjfdomfendbhfaa
