/- The law CombineErrors: for every input the call returns true and leaves its arguments as they were. -/
import Derived.Test.YtjfdomfendbhfaaRows
import Derived.Test.YtjfdomfendbhfaaQg26
import Derived.HandedShaped
import Derived.Shelf.Vars
import Derived.ChangeArms
import Derived.WalkKit
import Derived.ProofKit
import Derived.OpenShut
import Derived.ShutString
import Derived.ChangeOld
import Derived.Below
namespace Go.Proofs.Ytjfdomfendbhfaa.combineErrors
open Go.ChangeShapes Go.WideShapes Go.ChangeAt Go.RowKit
open Go.ChangeMaps (open_string shut_string)
set_option linter.unusedVariables false
set_option linter.unusedSimpArgs false

theorem own : ownKnob Try.prog.godebug = none := by kernel_rfl
theorem laidOut : laidOutB Try.prog = true := by kernel_rfl

set_option maxRecDepth 100000 in
theorem lifted (os : Os) (started : os.Started) (H : Type) (enc : TypeId × Value → H) :
    ReturnsInHanded {} Try.checked os 8 .any (Rows.combineErrorsSpec.pre6 enc Try.prog Try.f8 Rows.combineErrorsRow.domain false) (Rows.combineErrorsSpec.post enc Try.prog Try.f8 false true false false) := by
  refine returnsInHanded_of_change_shaped own started (by kernel_rfl) Try.func8 (Rows.combineErrorsSpec.witness6 (enc := enc) (C := Try.checked) (os := os) false ⟨#[], #[.agg #[.int .i64 0, .int .i64 0, .slice none 0 0, .slice none 0 0], .slice none 0 0, .int .i64 0, .int .i64 0], []⟩ 8 (by kernel_rfl) (by kernel_rfl) (by kernel_rfl) (by kernel_rfl)) ?_
  intro W base args ds gs before hval0 hW hcnd _ hsh _
  have hval : ∀ (j : Nat) t v, Try.f8.params[j]? = some t → args[j]? = some v → Value.okWide Try.prog W .any base t v := hval0
  have hW' := hW
  obtain ⟨p, q, hA0, hV, rfl, hfz, hnd⟩ := hW
  have hA : DataW.TrodAll enc Try.prog W 0 (fun _ => true) true Try.f8.params.toList args.toList ds p := hA0
  rw [Try.params8] at hA hval
  obtain ⟨v0, vs0, d0, ds0, p0, q0, hargs, rfl, rfl, h0, r0⟩ := trodAll_cons hA
  obtain ⟨v1, vs1, d1, ds1, p1, q1, rfl, rfl, rfl, h1, r1⟩ := trodAll_cons r0
  obtain ⟨v2, vs2, d2, ds2, p2, q2, rfl, rfl, rfl, h2, r2⟩ := trodAll_cons r1
  obtain ⟨v3, vs3, d3, ds3, p3, q3, rfl, rfl, rfl, h3, r3⟩ := trodAll_cons r2
  obtain ⟨rfl, rfl, rfl⟩ := trodAll_nil r3
  obtain rfl : args = #[v0, v1, v2, v3] := by cases args; simp_all
  obtain ⟨rfl, rfl⟩ := trodVars_none hV
  obtain ⟨c0, rfl, n0⟩ := okWide_struct Try.underlying42 (hval 0 42 v0 rfl rfl)
  have k0 := h0
  have lt0 : ∀ x ∈ p0, x.block < W.heap.size := by obtain ⟨m, hm⟩ := k0; exact DataW.trod_lt m _ _ _ hm
  obtain ⟨f0, n0, d0, hc0, w0⟩ : ∃ (f0 : Value) (n0 : Value) (d0 : DfaV), c0 = #[.int .i64 d0.letters, .int .i64 d0.start, f0, n0] ∧ (Row W.heap.size W f0 (bls d0.final) ∧ Mat W.heap.size W n0 d0.next) := by
    obtain ⟨fuel, hf⟩ := h0
    obtain ⟨f0, n0, d0, hcs, hr⟩ := trod_dfa hf
    exact ⟨f0, n0, d0, Array.toList_inj.1 (by simpa [Value.cells] using hcs), hr⟩
  subst hc0
  obtain ⟨a1, len1, cap1, rfl⟩ := okWide_slice Try.underlying22 (hval 1 22 v1 rfl rfl)
  have k1 := h1
  have lt1 : ∀ x ∈ p1, x.block < W.heap.size := by obtain ⟨m, hm⟩ := k1; exact DataW.trod_lt m _ _ _ hm
  obtain ⟨z1, w1⟩ : ∃ z, PatsIn W.heap.size W (.slice a1 len1 cap1) z := by
    obtain ⟨fuel, hf⟩ := h1
    obtain ⟨v, m, hcs, hm⟩ := open_pats hf
    simp [Value.cells] at hcs
    subst hcs
    exact ⟨m, hm⟩
  obtain ⟨a2, rfl, rfl, rfl, w2⟩ := open_int Try.underlying3 (hval 2 3 v2 rfl rfl) h2
  obtain ⟨a3, rfl, rfl, rfl, w3⟩ := open_int Try.underlying3 (hval 3 3 v3 rfl rfl) h3
  clear hA0 hval0
  refine (combineErrors_walk W _ _ d0 z1 a2 a3 ⟨_, _, rfl, w0.1, w0.2⟩ w1 (someLen_of_shaped hsh)).mono fun e W' ⟨he, hgr⟩ => ?_
  have bel := below_of_grown hgr
  subst he
  exact ⟨_, rfl, _, _, _, [], _, [], hW', trodAll_mk1 (shut_bool Try.underlying4 _), (trodAll_cons_mk (Below.trod laidOut (by kernel_rfl) (of_decide_eq_true (by kernel_rfl)) k0 bel lt0) (trodAll_cons_mk (Below.trod laidOut (by kernel_rfl) (of_decide_eq_true (by kernel_rfl)) k1 bel lt1) (trodAll_cons_mk (shut_int Try.underlying3 w2) (trodAll_cons_mk (shut_int Try.underlying3 w3) trodAll_mk0)))), rfl, bel.frame _, fun h => by cases h⟩

theorem over : Rows.combineErrorsRow.holds Try.pinned (OpenSpec.ofChange Rows.combineErrorsSpec) :=
  OpenClaim.holds_of_wide 8 Try.f8 rfl rfl rfl rfl rfl rfl rfl ⟨rfl, rfl, rfl, rfl, rfl⟩ rfl rfl rfl rfl rfl (by kernel_rfl) Try.func8 (by kernel_rfl)
    (of_decide_eq_true (by kernel_rfl)) (by unfold Func.isWrapper; first | (rw [if_pos (by decide +kernel)]; kernel_rfl) | (rw [if_neg (by decide +kernel)]; exact ⟨rfl, rfl⟩))
    (fun os started H enc _ => lifted os started H enc)

theorem proved : Rows.CombineErrorsSaid := over
#print axioms proved
end Go.Proofs.Ytjfdomfendbhfaa.combineErrors
