/-
  No cell of these rows narrows 'for every input' (looked for: loops, veiled, ifaces, maps, wideKeys, modest, calm, conditions, laid).
  DERIVED. THE GIVEN ROWS OF THIS SEAT. 3 by the template 'for every input the law returns true; each argument reads behind the call as it read before'; 0 by the template 'total and deterministic' (their statements: YtobakifdllameaaTotals.lean).
  GIVEN WITH THE SEED: the statements are not yours to turn. If you find one false, say at which input.
  Laid BY PROGRAM, IN A SANDBOX (cutbox-rows.mjs): the forced cells as the released guide's own fill.sh prints them over the translation 64eab1bb0e4ab0a0… (all of the seat's roots in one cut). By AI agents, Wed Nov 11 2026. No macro, syntax, notation, axiom, sorry.
-/
import Derived.Test.YtobakifdllameaaChecked
import GoSem.Claim
import GoSem.ClaimJoined
import GoSem.ClaimMapViews
import Derived.JoinedTies
import Derived.KernelRfl
namespace Go.Proofs.Ytobakifdllameaa
/- THE CELL 'sum', in the pinned program and in every row, IS THE sha256 OF THE DUMP (.gsa) THAT YtobakifdllameaaProg.lean LOADS. Nothing in Lean hashes anything: it is a label: what it is worth is what the hold of that sum in a sandbox is worth. -/
noncomputable def Try.pinned : Pinned := { name := "ytobakifdllameaa", sum := "64eab1bb0e4ab0a08e7bc8e59af935ceeef76c25398ebbd75645e5bfd03bb434", checked := Try.checked }
namespace Rows
def none {H : Type} : Left H := { results := [], args := [] }

/-- 'semigrouplaw37.CountingOrder': WHATEVER THE INPUT: true; the input reads as it did. -/
def countingOrderSpec : ChangeSpec := { name := "countingOrder", fn := fun _ => fun
  | [d1, d2, d3] => { results := [.lit (.bool true)], args := [d1, d2, d3] }
  | _ => none }
def countingOrderRow : OpenClaim := { program := "ytobakifdllameaa", sum := "64eab1bb0e4ab0a08e7bc8e59af935ceeef76c25398ebbd75645e5bfd03bb434", func := "semigroup/semigrouplaw37.CountingOrder", spec := "countingOrder", unfollowed := true, recurses := true, plainKeys := false, apart := false }
def CountingOrderSaid : Prop := countingOrderRow.holds Try.pinned (OpenSpec.ofChange countingOrderSpec)

/-- ITS FALSE NEIGHBOUR: 'it returns false'. Refute it at one input. -/
def countingOrderWrong : ChangeSpec := { name := "countingOrder", fn := fun _ => fun
  | [d1, d2, d3] => { results := [.lit (.bool false)], args := [d1, d2, d3] }
  | _ => none }
def CountingOrderWrongFalsely : Prop := countingOrderRow.holds Try.pinned (OpenSpec.ofChange countingOrderWrong)

/-- 'semigrouplaw37.CountingRaw': WHATEVER THE INPUT: true; the input reads as it did. -/
def countingRawSpec : ChangeSpec := { name := "countingRaw", fn := fun _ => fun
  | [d1, d2] => { results := [.lit (.bool true)], args := [d1, d2] }
  | _ => none }
def countingRawRow : OpenClaim := { program := "ytobakifdllameaa", sum := "64eab1bb0e4ab0a08e7bc8e59af935ceeef76c25398ebbd75645e5bfd03bb434", func := "semigroup/semigrouplaw37.CountingRaw", spec := "countingRaw", unfollowed := true, recurses := true, plainKeys := false, apart := false }
def CountingRawSaid : Prop := countingRawRow.holds Try.pinned (OpenSpec.ofChange countingRawSpec)

/-- ITS FALSE NEIGHBOUR: 'it returns false'. Refute it at one input. -/
def countingRawWrong : ChangeSpec := { name := "countingRaw", fn := fun _ => fun
  | [d1, d2] => { results := [.lit (.bool false)], args := [d1, d2] }
  | _ => none }
def CountingRawWrongFalsely : Prop := countingRawRow.holds Try.pinned (OpenSpec.ofChange countingRawWrong)

/-- 'semigrouplaw37.CountingAgrees': WHATEVER THE INPUT: true; the input reads as it did. -/
def countingAgreesSpec : ChangeSpec := { name := "countingAgrees", fn := fun _ => fun
  | [d1, d2] => { results := [.lit (.bool true)], args := [d1, d2] }
  | _ => none }
def countingAgreesRow : OpenClaim := { program := "ytobakifdllameaa", sum := "64eab1bb0e4ab0a08e7bc8e59af935ceeef76c25398ebbd75645e5bfd03bb434", func := "semigroup/semigrouplaw37.CountingAgrees", spec := "countingAgrees", unfollowed := true, recurses := true, plainKeys := false, apart := false }
def CountingAgreesSaid : Prop := countingAgreesRow.holds Try.pinned (OpenSpec.ofChange countingAgreesSpec)

/-- ITS FALSE NEIGHBOUR: 'it returns false'. Refute it at one input. -/
def countingAgreesWrong : ChangeSpec := { name := "countingAgrees", fn := fun _ => fun
  | [d1, d2] => { results := [.lit (.bool false)], args := [d1, d2] }
  | _ => none }
def CountingAgreesWrongFalsely : Prop := countingAgreesRow.holds Try.pinned (OpenSpec.ofChange countingAgreesWrong)

/- THE SECOND FORM. 'bulk': how many values and letters a reading holds, each counted each time it is reached (what is shared counts as often as it is met; a slice's spare places count too). A statement '..UptoSaid' is the law's where the arguments, and the package variables that the reading takes, are together of bulk at most 1048576: NARROWER than '..Said'. Prove '..Said' where nothing that the law and all that it calls make is longer than what came in: it says more and counts as full. Else prove '..UptoSaid'. A law counts once. -/
mutual
def uptoBulk {H : Type} : DataW H → Nat
  | .lit (.string bytes) => bytes.length + 1
  | .lit _ => 1
  | .nil => 1
  | .ptr d => uptoBulk d + 1
  | .slice elems spare => uptoBulkAll elems + uptoBulkAll spare + 1
  | .agg parts => uptoBulkAll parts + 1
  | .iface _ d => uptoBulk d + 1
  | .map entries => uptoBulkEntries entries + 1
  | .held _ => 1
def uptoBulkAll {H : Type} : List (DataW H) → Nat
  | [] => 0
  | d :: r => uptoBulk d + uptoBulkAll r
def uptoBulkEntries {H : Type} : List (Lit × DataW H) → Nat
  | [] => 0
  | x :: r => uptoBulkEntry x + uptoBulkEntries r
def uptoBulkEntry {H : Type} : Lit × DataW H → Nat
  | (.string bytes, d) => bytes.length + uptoBulk d + 1
  | (_, d) => uptoBulk d + 1
 end
def uptoSmall : (H : Type) → List (DataW H) → Bool := fun _ ds => decide (uptoBulkAll ds ≤ 1048576)
def OpenSpec.upto (s : _root_.Go.ChangeSpec) : _root_.Go.OpenSpec := { _root_.Go.OpenSpec.ofChange s with cond := some uptoSmall }

/-- 'semigrouplaw37.CountingOrder', WHERE WHAT IT READS IS OF BULK AT MOST 1048576: true; the input reads as it did. -/
def countingOrderUptoRow : OpenClaim := { program := "ytobakifdllameaa", sum := "64eab1bb0e4ab0a08e7bc8e59af935ceeef76c25398ebbd75645e5bfd03bb434", func := "semigroup/semigrouplaw37.CountingOrder", spec := "countingOrder", unfollowed := true, recurses := true, plainKeys := false, apart := false, narrowed := true }
def CountingOrderUptoSaid : Prop := countingOrderUptoRow.holds Try.pinned (OpenSpec.upto countingOrderSpec)

/-- 'semigrouplaw37.CountingRaw', WHERE WHAT IT READS IS OF BULK AT MOST 1048576: true; the input reads as it did. -/
def countingRawUptoRow : OpenClaim := { program := "ytobakifdllameaa", sum := "64eab1bb0e4ab0a08e7bc8e59af935ceeef76c25398ebbd75645e5bfd03bb434", func := "semigroup/semigrouplaw37.CountingRaw", spec := "countingRaw", unfollowed := true, recurses := true, plainKeys := false, apart := false, narrowed := true }
def CountingRawUptoSaid : Prop := countingRawUptoRow.holds Try.pinned (OpenSpec.upto countingRawSpec)

/-- 'semigrouplaw37.CountingAgrees', WHERE WHAT IT READS IS OF BULK AT MOST 1048576: true; the input reads as it did. -/
def countingAgreesUptoRow : OpenClaim := { program := "ytobakifdllameaa", sum := "64eab1bb0e4ab0a08e7bc8e59af935ceeef76c25398ebbd75645e5bfd03bb434", func := "semigroup/semigrouplaw37.CountingAgrees", spec := "countingAgrees", unfollowed := true, recurses := true, plainKeys := false, apart := false, narrowed := true }
def CountingAgreesUptoSaid : Prop := countingAgreesUptoRow.holds Try.pinned (OpenSpec.upto countingAgreesSpec)

end Rows
end Go.Proofs.Ytobakifdllameaa
