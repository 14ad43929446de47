/- The law CountingRaw: for every input the call returns true and leaves its arguments as they were. -/
import Derived.Test.YtobakifdllameaaRows
import Derived.Test.YtobakifdllameaaQb24
import Derived.HandedShaped
import Derived.Shelf.Vars
import Derived.ChangeArms
import Derived.WalkKit
import Derived.ProofKit
import Derived.OpenShut
import Derived.ShutString
import Derived.ChangeOld
import Derived.Below
namespace Go.Proofs.Ytobakifdllameaa.countingRaw
open Go.ChangeShapes Go.WideShapes Go.ChangeAt Go.RowKit
open Go.ChangeMaps (open_string shut_string)
set_option linter.unusedVariables false
set_option linter.unusedSimpArgs false

theorem own : ownKnob Try.prog.godebug = none := by kernel_rfl
theorem laidOut : laidOutB Try.prog = true := by kernel_rfl

set_option maxRecDepth 100000 in
theorem lifted (os : Os) (started : os.Started) (H : Type) (enc : TypeId × Value → H) :
    ReturnsInHanded {} Try.checked os 4 .any (Rows.countingRawSpec.pre6 enc Try.prog Try.f4 Rows.countingRawRow.domain false) (Rows.countingRawSpec.post enc Try.prog Try.f4 false true false false) := by
  refine returnsInHanded_of_change_shaped own started (by kernel_rfl) Try.func4 (Rows.countingRawSpec.witness6 (enc := enc) (C := Try.checked) (os := os) false ⟨#[], #[.agg #[.slice none 0 0, .slice none 0 0, .slice none 0 0], .string ByteArray.empty], []⟩ 8 (by kernel_rfl) (by kernel_rfl) (by kernel_rfl) (by kernel_rfl)) ?_
  intro W base args ds gs before hval0 hW hcnd _ hsh _
  have hval : ∀ (j : Nat) t v, Try.f4.params[j]? = some t → args[j]? = some v → Value.okWide Try.prog W .any base t v := hval0
  have hW' := hW
  obtain ⟨p, q, hA0, hV, rfl, hfz, hnd⟩ := hW
  have hA : DataW.TrodAll enc Try.prog W 0 (fun _ => true) true Try.f4.params.toList args.toList ds p := hA0
  rw [Try.params4] at hA hval
  obtain ⟨v0, vs0, d0, ds0, p0, q0, hargs, rfl, rfl, h0, r0⟩ := trodAll_cons hA
  obtain ⟨v1, vs1, d1, ds1, p1, q1, rfl, rfl, rfl, h1, r1⟩ := trodAll_cons r0
  obtain ⟨rfl, rfl, rfl⟩ := trodAll_nil r1
  obtain rfl : args = #[v0, v1] := by cases args; simp_all
  obtain ⟨rfl, rfl⟩ := trodVars_none hV
  obtain ⟨c0, rfl, n0⟩ := okWide_struct Try.underlying28 (hval 0 28 v0 rfl rfl)
  have k0 := h0
  have lt0 : ∀ x ∈ p0, x.block < W.heap.size := by obtain ⟨m, hm⟩ := k0; exact DataW.trod_lt m _ _ _ hm
  obtain ⟨x0, y0, u0, g0, hc0, w0⟩ : ∃ (x0 : Value) (y0 : Value) (u0 : Value) (g0 : CntV), c0 = #[x0, y0, u0] ∧ (Row W.heap.size W x0 (ints g0.idx) ∧ Row W.heap.size W y0 (ints g0.per) ∧ Row W.heap.size W u0 (bls g0.acc)) := by
    obtain ⟨fuel, hf⟩ := h0
    obtain ⟨x0, y0, u0, g0, hcs, hr⟩ := trod_cnt hf
    exact ⟨x0, y0, u0, g0, Array.toList_inj.1 (by simpa [Value.cells] using hcs), hr⟩
  subst hc0
  obtain ⟨a1, rfl, rfl, rfl, w1⟩ := open_string Try.underlying9 (hval 1 9 v1 rfl rfl) h1
  clear hA0 hval0
  refine (ctraw_walk W.heap.size W x0 y0 u0 g0 a1 (Nat.le_refl _) w0.1 w0.2.1 w0.2.2 w1).mono fun e W' ⟨he, hgr⟩ => ?_
  have bel := below_of_grown hgr
  subst he
  exact ⟨_, rfl, _, _, _, [], _, [], hW', trodAll_mk1 (shut_bool Try.underlying4 _), (trodAll_cons_mk (Below.trod laidOut (by kernel_rfl) (of_decide_eq_true (by kernel_rfl)) k0 bel lt0) (trodAll_cons_mk (shut_string Try.underlying9 w1) trodAll_mk0)), rfl, bel.frame _, fun h => by cases h⟩

theorem over : Rows.countingRawRow.holds Try.pinned (OpenSpec.ofChange Rows.countingRawSpec) :=
  OpenClaim.holds_of_wide 4 Try.f4 rfl rfl rfl rfl rfl rfl rfl ⟨rfl, rfl, rfl, rfl, rfl⟩ rfl rfl rfl rfl rfl (by kernel_rfl) Try.func4 (by kernel_rfl)
    (of_decide_eq_true (by kernel_rfl)) (by unfold Func.isWrapper; first | (rw [if_pos (by decide +kernel)]; kernel_rfl) | (rw [if_neg (by decide +kernel)]; exact ⟨rfl, rfl⟩))
    (fun os started H enc _ => lifted os started H enc)

theorem proved : Rows.CountingRawSaid := over
#print axioms proved
end Go.Proofs.Ytobakifdllameaa.countingRaw
