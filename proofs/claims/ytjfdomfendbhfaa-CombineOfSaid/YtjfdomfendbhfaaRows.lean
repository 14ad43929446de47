/-
  No cell of these rows narrows 'for every input' (looked for: loops, veiled, ifaces, maps, wideKeys, modest, calm, conditions, laid).
  DERIVED. THE GIVEN ROWS OF THIS SEAT. 6 by the template 'for every input the law returns true; each argument reads behind the call as it read before'; 0 by the template 'total and deterministic' (their statements: YtjfdomfendbhfaaTotals.lean).
  GIVEN WITH THE SEED: the statements are not yours to turn. If you find one false, say at which input.
  Laid BY PROGRAM, IN A SANDBOX (cutbox-rows.mjs): the forced cells as the released guide's own fill.sh prints them over the translation 3d68dcd35035931e… (all of the seat's roots in one cut). By AI agents, Wed Nov 11 2026. No macro, syntax, notation, axiom, sorry.
-/
import Derived.Test.YtjfdomfendbhfaaChecked
import GoSem.Claim
import GoSem.ClaimJoined
import GoSem.ClaimMapViews
import Derived.JoinedTies
import Derived.KernelRfl
namespace Go.Proofs.Ytjfdomfendbhfaa
/- THE CELL 'sum', in the pinned program and in every row, IS THE sha256 OF THE DUMP (.gsa) THAT YtjfdomfendbhfaaProg.lean LOADS. Nothing in Lean hashes anything: it is a label: what it is worth is what the hold of that sum in a sandbox is worth. -/
noncomputable def Try.pinned : Pinned := { name := "ytjfdomfendbhfaa", sum := "3d68dcd35035931eacffda68e1f0e034cec3840dd58f6300154016fbb5ffcba0", checked := Try.checked }
namespace Rows
def none {H : Type} : Left H := { results := [], args := [] }

/-- 'semigrouplaw34.CombineRaw': WHATEVER THE INPUT: true; the input reads as it did. -/
def combineRawSpec : ChangeSpec := { name := "combineRaw", fn := fun _ => fun
  | [d1, d2, d3] => { results := [.lit (.bool true)], args := [d1, d2, d3] }
  | _ => none }
def combineRawRow : OpenClaim := { program := "ytjfdomfendbhfaa", sum := "3d68dcd35035931eacffda68e1f0e034cec3840dd58f6300154016fbb5ffcba0", func := "semigroup/semigrouplaw34.CombineRaw", spec := "combineRaw", inPlace := ["internal/bytealg.IndexByteString", "internal/bytealg.IndexString"], unfollowed := true, recurses := true, named := ["internal/bytealg.MaxLen"], plainKeys := false, apart := false }
def CombineRawSaid : Prop := combineRawRow.holds Try.pinned (OpenSpec.ofChange combineRawSpec)

/-- ITS FALSE NEIGHBOUR: 'it returns false'. Refute it at one input. -/
def combineRawWrong : ChangeSpec := { name := "combineRaw", fn := fun _ => fun
  | [d1, d2, d3] => { results := [.lit (.bool false)], args := [d1, d2, d3] }
  | _ => none }
def CombineRawWrongFalsely : Prop := combineRawRow.holds Try.pinned (OpenSpec.ofChange combineRawWrong)

/-- 'semigrouplaw34.CombineOf': WHATEVER THE INPUT: true; the input reads as it did. -/
def combineOfSpec : ChangeSpec := { name := "combineOf", fn := fun _ => fun
  | [d] => { results := [.lit (.bool true)], args := [d] }
  | _ => none }
def combineOfRow : OpenClaim := { program := "ytjfdomfendbhfaa", sum := "3d68dcd35035931eacffda68e1f0e034cec3840dd58f6300154016fbb5ffcba0", func := "semigroup/semigrouplaw34.CombineOf", spec := "combineOf", inPlace := ["internal/bytealg.IndexByteString", "internal/bytealg.IndexString"], unfollowed := true, recurses := true, named := ["internal/bytealg.MaxLen"], plainKeys := false, apart := false }
def CombineOfSaid : Prop := combineOfRow.holds Try.pinned (OpenSpec.ofChange combineOfSpec)

/-- ITS FALSE NEIGHBOUR: 'it returns false'. Refute it at one input. -/
def combineOfWrong : ChangeSpec := { name := "combineOf", fn := fun _ => fun
  | [d] => { results := [.lit (.bool false)], args := [d] }
  | _ => none }
def CombineOfWrongFalsely : Prop := combineOfRow.holds Try.pinned (OpenSpec.ofChange combineOfWrong)

/-- 'semigrouplaw34.CombineRefused': WHATEVER THE INPUT: true; the input reads as it did. -/
def combineRefusedSpec : ChangeSpec := { name := "combineRefused", fn := fun _ => fun
  | [d] => { results := [.lit (.bool true)], args := [d] }
  | _ => none }
def combineRefusedRow : OpenClaim := { program := "ytjfdomfendbhfaa", sum := "3d68dcd35035931eacffda68e1f0e034cec3840dd58f6300154016fbb5ffcba0", func := "semigroup/semigrouplaw34.CombineRefused", spec := "combineRefused", inPlace := ["internal/bytealg.IndexByteString", "internal/bytealg.IndexString"], unfollowed := true, recurses := true, named := ["internal/bytealg.MaxLen"], plainKeys := false, apart := false }
def CombineRefusedSaid : Prop := combineRefusedRow.holds Try.pinned (OpenSpec.ofChange combineRefusedSpec)

/-- ITS FALSE NEIGHBOUR: 'it returns false'. Refute it at one input. -/
def combineRefusedWrong : ChangeSpec := { name := "combineRefused", fn := fun _ => fun
  | [d] => { results := [.lit (.bool false)], args := [d] }
  | _ => none }
def CombineRefusedWrongFalsely : Prop := combineRefusedRow.holds Try.pinned (OpenSpec.ofChange combineRefusedWrong)

/-- 'semigrouplaw34.CombineMade': WHATEVER THE INPUT: true; the input reads as it did. -/
def combineMadeSpec : ChangeSpec := { name := "combineMade", fn := fun _ => fun
  | [d1, d2, d3, d4] => { results := [.lit (.bool true)], args := [d1, d2, d3, d4] }
  | _ => none }
def combineMadeRow : OpenClaim := { program := "ytjfdomfendbhfaa", sum := "3d68dcd35035931eacffda68e1f0e034cec3840dd58f6300154016fbb5ffcba0", func := "semigroup/semigrouplaw34.CombineMade", spec := "combineMade", inPlace := ["internal/bytealg.IndexByteString", "internal/bytealg.IndexString"], unfollowed := true, recurses := true, named := ["internal/bytealg.MaxLen"], plainKeys := false, apart := false }
def CombineMadeSaid : Prop := combineMadeRow.holds Try.pinned (OpenSpec.ofChange combineMadeSpec)

/-- ITS FALSE NEIGHBOUR: 'it returns false'. Refute it at one input. -/
def combineMadeWrong : ChangeSpec := { name := "combineMade", fn := fun _ => fun
  | [d1, d2, d3, d4] => { results := [.lit (.bool false)], args := [d1, d2, d3, d4] }
  | _ => none }
def CombineMadeWrongFalsely : Prop := combineMadeRow.holds Try.pinned (OpenSpec.ofChange combineMadeWrong)

/-- 'semigrouplaw34.CombineAgrees': WHATEVER THE INPUT: true; the input reads as it did. -/
def combineAgreesSpec : ChangeSpec := { name := "combineAgrees", fn := fun _ => fun
  | [d1, d2] => { results := [.lit (.bool true)], args := [d1, d2] }
  | _ => none }
def combineAgreesRow : OpenClaim := { program := "ytjfdomfendbhfaa", sum := "3d68dcd35035931eacffda68e1f0e034cec3840dd58f6300154016fbb5ffcba0", func := "semigroup/semigrouplaw34.CombineAgrees", spec := "combineAgrees", inPlace := ["internal/bytealg.IndexByteString", "internal/bytealg.IndexString"], unfollowed := true, recurses := true, named := ["internal/bytealg.MaxLen"], plainKeys := false, apart := false }
def CombineAgreesSaid : Prop := combineAgreesRow.holds Try.pinned (OpenSpec.ofChange combineAgreesSpec)

/-- ITS FALSE NEIGHBOUR: 'it returns false'. Refute it at one input. -/
def combineAgreesWrong : ChangeSpec := { name := "combineAgrees", fn := fun _ => fun
  | [d1, d2] => { results := [.lit (.bool false)], args := [d1, d2] }
  | _ => none }
def CombineAgreesWrongFalsely : Prop := combineAgreesRow.holds Try.pinned (OpenSpec.ofChange combineAgreesWrong)

/-- 'semigrouplaw34.CombineErrors': WHATEVER THE INPUT: true; the input reads as it did. -/
def combineErrorsSpec : ChangeSpec := { name := "combineErrors", fn := fun _ => fun
  | [d1, d2, d3, d4] => { results := [.lit (.bool true)], args := [d1, d2, d3, d4] }
  | _ => none }
def combineErrorsRow : OpenClaim := { program := "ytjfdomfendbhfaa", sum := "3d68dcd35035931eacffda68e1f0e034cec3840dd58f6300154016fbb5ffcba0", func := "semigroup/semigrouplaw34.CombineErrors", spec := "combineErrors", inPlace := ["internal/bytealg.MakeNoZero", "internal/bytealg.IndexByteString", "internal/bytealg.IndexString"], unfollowed := true, recurses := true, named := ["internal/bytealg.MaxLen"], plainKeys := false, apart := false }
def CombineErrorsSaid : Prop := combineErrorsRow.holds Try.pinned (OpenSpec.ofChange combineErrorsSpec)

/-- ITS FALSE NEIGHBOUR: 'it returns false'. Refute it at one input. -/
def combineErrorsWrong : ChangeSpec := { name := "combineErrors", fn := fun _ => fun
  | [d1, d2, d3, d4] => { results := [.lit (.bool false)], args := [d1, d2, d3, d4] }
  | _ => none }
def CombineErrorsWrongFalsely : Prop := combineErrorsRow.holds Try.pinned (OpenSpec.ofChange combineErrorsWrong)

/- THE SECOND FORM. 'bulk': how many values and letters a reading holds, each counted each time it is reached (what is shared counts as often as it is met; a slice's spare places count too). A statement '..UptoSaid' is the law's where the arguments, and the package variables that the reading takes, are together of bulk at most 1048576: NARROWER than '..Said'. Prove '..Said' where nothing that the law and all that it calls make is longer than what came in: it says more and counts as full. Else prove '..UptoSaid'. A law counts once. -/
mutual
def uptoBulk {H : Type} : DataW H → Nat
  | .lit (.string bytes) => bytes.length + 1
  | .lit _ => 1
  | .nil => 1
  | .ptr d => uptoBulk d + 1
  | .slice elems spare => uptoBulkAll elems + uptoBulkAll spare + 1
  | .agg parts => uptoBulkAll parts + 1
  | .iface _ d => uptoBulk d + 1
  | .map entries => uptoBulkEntries entries + 1
  | .held _ => 1
def uptoBulkAll {H : Type} : List (DataW H) → Nat
  | [] => 0
  | d :: r => uptoBulk d + uptoBulkAll r
def uptoBulkEntries {H : Type} : List (Lit × DataW H) → Nat
  | [] => 0
  | x :: r => uptoBulkEntry x + uptoBulkEntries r
def uptoBulkEntry {H : Type} : Lit × DataW H → Nat
  | (.string bytes, d) => bytes.length + uptoBulk d + 1
  | (_, d) => uptoBulk d + 1
 end
def uptoSmall : (H : Type) → List (DataW H) → Bool := fun _ ds => decide (uptoBulkAll ds ≤ 1048576)
def OpenSpec.upto (s : _root_.Go.ChangeSpec) : _root_.Go.OpenSpec := { _root_.Go.OpenSpec.ofChange s with cond := some uptoSmall }

/-- 'semigrouplaw34.CombineRaw', WHERE WHAT IT READS IS OF BULK AT MOST 1048576: true; the input reads as it did. -/
def combineRawUptoRow : OpenClaim := { program := "ytjfdomfendbhfaa", sum := "3d68dcd35035931eacffda68e1f0e034cec3840dd58f6300154016fbb5ffcba0", func := "semigroup/semigrouplaw34.CombineRaw", spec := "combineRaw", inPlace := ["internal/bytealg.IndexByteString", "internal/bytealg.IndexString"], unfollowed := true, recurses := true, named := ["internal/bytealg.MaxLen"], plainKeys := false, apart := false, narrowed := true }
def CombineRawUptoSaid : Prop := combineRawUptoRow.holds Try.pinned (OpenSpec.upto combineRawSpec)

/-- 'semigrouplaw34.CombineOf', WHERE WHAT IT READS IS OF BULK AT MOST 1048576: true; the input reads as it did. -/
def combineOfUptoRow : OpenClaim := { program := "ytjfdomfendbhfaa", sum := "3d68dcd35035931eacffda68e1f0e034cec3840dd58f6300154016fbb5ffcba0", func := "semigroup/semigrouplaw34.CombineOf", spec := "combineOf", inPlace := ["internal/bytealg.IndexByteString", "internal/bytealg.IndexString"], unfollowed := true, recurses := true, named := ["internal/bytealg.MaxLen"], plainKeys := false, apart := false, narrowed := true }
def CombineOfUptoSaid : Prop := combineOfUptoRow.holds Try.pinned (OpenSpec.upto combineOfSpec)

/-- 'semigrouplaw34.CombineRefused', WHERE WHAT IT READS IS OF BULK AT MOST 1048576: true; the input reads as it did. -/
def combineRefusedUptoRow : OpenClaim := { program := "ytjfdomfendbhfaa", sum := "3d68dcd35035931eacffda68e1f0e034cec3840dd58f6300154016fbb5ffcba0", func := "semigroup/semigrouplaw34.CombineRefused", spec := "combineRefused", inPlace := ["internal/bytealg.IndexByteString", "internal/bytealg.IndexString"], unfollowed := true, recurses := true, named := ["internal/bytealg.MaxLen"], plainKeys := false, apart := false, narrowed := true }
def CombineRefusedUptoSaid : Prop := combineRefusedUptoRow.holds Try.pinned (OpenSpec.upto combineRefusedSpec)

/-- 'semigrouplaw34.CombineMade', WHERE WHAT IT READS IS OF BULK AT MOST 1048576: true; the input reads as it did. -/
def combineMadeUptoRow : OpenClaim := { program := "ytjfdomfendbhfaa", sum := "3d68dcd35035931eacffda68e1f0e034cec3840dd58f6300154016fbb5ffcba0", func := "semigroup/semigrouplaw34.CombineMade", spec := "combineMade", inPlace := ["internal/bytealg.IndexByteString", "internal/bytealg.IndexString"], unfollowed := true, recurses := true, named := ["internal/bytealg.MaxLen"], plainKeys := false, apart := false, narrowed := true }
def CombineMadeUptoSaid : Prop := combineMadeUptoRow.holds Try.pinned (OpenSpec.upto combineMadeSpec)

/-- 'semigrouplaw34.CombineAgrees', WHERE WHAT IT READS IS OF BULK AT MOST 1048576: true; the input reads as it did. -/
def combineAgreesUptoRow : OpenClaim := { program := "ytjfdomfendbhfaa", sum := "3d68dcd35035931eacffda68e1f0e034cec3840dd58f6300154016fbb5ffcba0", func := "semigroup/semigrouplaw34.CombineAgrees", spec := "combineAgrees", inPlace := ["internal/bytealg.IndexByteString", "internal/bytealg.IndexString"], unfollowed := true, recurses := true, named := ["internal/bytealg.MaxLen"], plainKeys := false, apart := false, narrowed := true }
def CombineAgreesUptoSaid : Prop := combineAgreesUptoRow.holds Try.pinned (OpenSpec.upto combineAgreesSpec)

/-- 'semigrouplaw34.CombineErrors', WHERE WHAT IT READS IS OF BULK AT MOST 1048576: true; the input reads as it did. -/
def combineErrorsUptoRow : OpenClaim := { program := "ytjfdomfendbhfaa", sum := "3d68dcd35035931eacffda68e1f0e034cec3840dd58f6300154016fbb5ffcba0", func := "semigroup/semigrouplaw34.CombineErrors", spec := "combineErrors", inPlace := ["internal/bytealg.MakeNoZero", "internal/bytealg.IndexByteString", "internal/bytealg.IndexString"], unfollowed := true, recurses := true, named := ["internal/bytealg.MaxLen"], plainKeys := false, apart := false, narrowed := true }
def CombineErrorsUptoSaid : Prop := combineErrorsUptoRow.holds Try.pinned (OpenSpec.upto combineErrorsSpec)

end Rows
end Go.Proofs.Ytjfdomfendbhfaa
