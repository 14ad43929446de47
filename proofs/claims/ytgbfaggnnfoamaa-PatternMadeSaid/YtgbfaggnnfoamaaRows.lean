/-
  No cell of these rows narrows 'for every input' (looked for: loops, veiled, ifaces, maps, wideKeys, modest, calm, conditions, laid).
  DERIVED. THE GIVEN ROWS OF THIS SEAT. 7 by the template 'for every input the law returns true; each argument reads behind the call as it read before'; 0 by the template 'total and deterministic' (their statements: YtgbfaggnnfoamaaTotals.lean).
  GIVEN WITH THE SEED: the statements are not yours to turn. If you find one false, say at which input.
  Laid BY PROGRAM, IN A SANDBOX (cutbox-rows.mjs): the forced cells as the released guide's own fill.sh prints them over the translation 0def8925fd22b304… (all of the seat's roots in one cut). By AI agents, Wed Nov 11 2026. No macro, syntax, notation, axiom, sorry.
-/
import Derived.Test.YtgbfaggnnfoamaaChecked
import GoSem.Claim
import GoSem.ClaimJoined
import GoSem.ClaimMapViews
import Derived.JoinedTies
import Derived.KernelRfl
namespace Go.Proofs.Ytgbfaggnnfoamaa
/- THE CELL 'sum', in the pinned program and in every row, IS THE sha256 OF THE DUMP (.gsa) THAT YtgbfaggnnfoamaaProg.lean LOADS. Nothing in Lean hashes anything: it is a label: what it is worth is what the hold of that sum in a sandbox is worth. -/
noncomputable def Try.pinned : Pinned := { name := "ytgbfaggnnfoamaa", sum := "0def8925fd22b3045a55cee939e54c22e4729c07a7701c963435aa388e28ec1e", checked := Try.checked }
namespace Rows
def none {H : Type} : Left H := { results := [], args := [] }

/-- 'semigrouplaw33.PatternFamilies': WHATEVER THE INPUT: true; the input reads as it did. -/
def patternFamiliesSpec : ChangeSpec := { name := "patternFamilies", fn := fun _ => fun
  | [d1, d2, d3, d4, d5] => { results := [.lit (.bool true)], args := [d1, d2, d3, d4, d5] }
  | _ => none }
def patternFamiliesRow : OpenClaim := { program := "ytgbfaggnnfoamaa", sum := "0def8925fd22b3045a55cee939e54c22e4729c07a7701c963435aa388e28ec1e", func := "semigroup/semigrouplaw33.PatternFamilies", spec := "patternFamilies", inPlace := ["internal/bytealg.MakeNoZero", "internal/bytealg.IndexByteString", "internal/bytealg.IndexString"], named := ["internal/bytealg.MaxLen"], plainKeys := false, apart := false }
def PatternFamiliesSaid : Prop := patternFamiliesRow.holds Try.pinned (OpenSpec.ofChange patternFamiliesSpec)

/-- ITS FALSE NEIGHBOUR: 'it returns false'. Refute it at one input. -/
def patternFamiliesWrong : ChangeSpec := { name := "patternFamilies", fn := fun _ => fun
  | [d1, d2, d3, d4, d5] => { results := [.lit (.bool false)], args := [d1, d2, d3, d4, d5] }
  | _ => none }
def PatternFamiliesWrongFalsely : Prop := patternFamiliesRow.holds Try.pinned (OpenSpec.ofChange patternFamiliesWrong)

/-- 'semigrouplaw33.PatternBuilt': WHATEVER THE INPUT: true; the input reads as it did. -/
def patternBuiltSpec : ChangeSpec := { name := "patternBuilt", fn := fun _ => fun
  | [d1, d2] => { results := [.lit (.bool true)], args := [d1, d2] }
  | _ => none }
def patternBuiltRow : OpenClaim := { program := "ytgbfaggnnfoamaa", sum := "0def8925fd22b3045a55cee939e54c22e4729c07a7701c963435aa388e28ec1e", func := "semigroup/semigrouplaw33.PatternBuilt", spec := "patternBuilt", inPlace := ["internal/bytealg.IndexByteString", "internal/bytealg.IndexString", "internal/bytealg.MakeNoZero"], named := ["internal/bytealg.MaxLen"], plainKeys := false, apart := false }
def PatternBuiltSaid : Prop := patternBuiltRow.holds Try.pinned (OpenSpec.ofChange patternBuiltSpec)

/-- ITS FALSE NEIGHBOUR: 'it returns false'. Refute it at one input. -/
def patternBuiltWrong : ChangeSpec := { name := "patternBuilt", fn := fun _ => fun
  | [d1, d2] => { results := [.lit (.bool false)], args := [d1, d2] }
  | _ => none }
def PatternBuiltWrongFalsely : Prop := patternBuiltRow.holds Try.pinned (OpenSpec.ofChange patternBuiltWrong)

/-- 'semigrouplaw33.PatternWeaker': WHATEVER THE INPUT: true; the input reads as it did. -/
def patternWeakerSpec : ChangeSpec := { name := "patternWeaker", fn := fun _ => fun
  | [d1, d2, d3] => { results := [.lit (.bool true)], args := [d1, d2, d3] }
  | _ => none }
def patternWeakerRow : OpenClaim := { program := "ytgbfaggnnfoamaa", sum := "0def8925fd22b3045a55cee939e54c22e4729c07a7701c963435aa388e28ec1e", func := "semigroup/semigrouplaw33.PatternWeaker", spec := "patternWeaker", inPlace := ["internal/bytealg.IndexByteString", "internal/bytealg.IndexString", "internal/bytealg.MakeNoZero"], named := ["internal/bytealg.MaxLen"], plainKeys := false, apart := false }
def PatternWeakerSaid : Prop := patternWeakerRow.holds Try.pinned (OpenSpec.ofChange patternWeakerSpec)

/-- ITS FALSE NEIGHBOUR: 'it returns false'. Refute it at one input. -/
def patternWeakerWrong : ChangeSpec := { name := "patternWeaker", fn := fun _ => fun
  | [d1, d2, d3] => { results := [.lit (.bool false)], args := [d1, d2, d3] }
  | _ => none }
def PatternWeakerWrongFalsely : Prop := patternWeakerRow.holds Try.pinned (OpenSpec.ofChange patternWeakerWrong)

/-- 'semigrouplaw33.PatternReversed': WHATEVER THE INPUT: true; the input reads as it did. -/
def patternReversedSpec : ChangeSpec := { name := "patternReversed", fn := fun _ => fun
  | [d1, d2] => { results := [.lit (.bool true)], args := [d1, d2] }
  | _ => none }
def patternReversedRow : OpenClaim := { program := "ytgbfaggnnfoamaa", sum := "0def8925fd22b3045a55cee939e54c22e4729c07a7701c963435aa388e28ec1e", func := "semigroup/semigrouplaw33.PatternReversed", spec := "patternReversed", inPlace := ["internal/bytealg.IndexByteString", "internal/bytealg.IndexString", "internal/bytealg.MakeNoZero"], named := ["internal/bytealg.MaxLen"], plainKeys := false, apart := false }
def PatternReversedSaid : Prop := patternReversedRow.holds Try.pinned (OpenSpec.ofChange patternReversedSpec)

/-- ITS FALSE NEIGHBOUR: 'it returns false'. Refute it at one input. -/
def patternReversedWrong : ChangeSpec := { name := "patternReversed", fn := fun _ => fun
  | [d1, d2] => { results := [.lit (.bool false)], args := [d1, d2] }
  | _ => none }
def PatternReversedWrongFalsely : Prop := patternReversedRow.holds Try.pinned (OpenSpec.ofChange patternReversedWrong)

/-- 'semigrouplaw33.PatternRaw': WHATEVER THE INPUT: true; the input reads as it did. -/
def patternRawSpec : ChangeSpec := { name := "patternRaw", fn := fun _ => fun
  | [d1, d2, d3] => { results := [.lit (.bool true)], args := [d1, d2, d3] }
  | _ => none }
def patternRawRow : OpenClaim := { program := "ytgbfaggnnfoamaa", sum := "0def8925fd22b3045a55cee939e54c22e4729c07a7701c963435aa388e28ec1e", func := "semigroup/semigrouplaw33.PatternRaw", spec := "patternRaw", inPlace := ["internal/bytealg.IndexByteString", "internal/bytealg.IndexString", "internal/bytealg.MakeNoZero"], unfollowed := true, recurses := true, named := ["internal/bytealg.MaxLen"], plainKeys := false, apart := false }
def PatternRawSaid : Prop := patternRawRow.holds Try.pinned (OpenSpec.ofChange patternRawSpec)

/-- ITS FALSE NEIGHBOUR: 'it returns false'. Refute it at one input. -/
def patternRawWrong : ChangeSpec := { name := "patternRaw", fn := fun _ => fun
  | [d1, d2, d3] => { results := [.lit (.bool false)], args := [d1, d2, d3] }
  | _ => none }
def PatternRawWrongFalsely : Prop := patternRawRow.holds Try.pinned (OpenSpec.ofChange patternRawWrong)

/-- 'semigrouplaw33.PatternMade': WHATEVER THE INPUT: true; the input reads as it did. -/
def patternMadeSpec : ChangeSpec := { name := "patternMade", fn := fun _ => fun
  | [d] => { results := [.lit (.bool true)], args := [d] }
  | _ => none }
def patternMadeRow : OpenClaim := { program := "ytgbfaggnnfoamaa", sum := "0def8925fd22b3045a55cee939e54c22e4729c07a7701c963435aa388e28ec1e", func := "semigroup/semigrouplaw33.PatternMade", spec := "patternMade", inPlace := ["internal/bytealg.IndexByteString", "internal/bytealg.IndexString", "internal/bytealg.MakeNoZero"], unfollowed := true, recurses := true, named := ["internal/bytealg.MaxLen"], plainKeys := false, apart := false }
def PatternMadeSaid : Prop := patternMadeRow.holds Try.pinned (OpenSpec.ofChange patternMadeSpec)

/-- ITS FALSE NEIGHBOUR: 'it returns false'. Refute it at one input. -/
def patternMadeWrong : ChangeSpec := { name := "patternMade", fn := fun _ => fun
  | [d] => { results := [.lit (.bool false)], args := [d] }
  | _ => none }
def PatternMadeWrongFalsely : Prop := patternMadeRow.holds Try.pinned (OpenSpec.ofChange patternMadeWrong)

/-- 'semigrouplaw33.PatternAgrees': WHATEVER THE INPUT: true; the input reads as it did. -/
def patternAgreesSpec : ChangeSpec := { name := "patternAgrees", fn := fun _ => fun
  | [d1, d2] => { results := [.lit (.bool true)], args := [d1, d2] }
  | _ => none }
def patternAgreesRow : OpenClaim := { program := "ytgbfaggnnfoamaa", sum := "0def8925fd22b3045a55cee939e54c22e4729c07a7701c963435aa388e28ec1e", func := "semigroup/semigrouplaw33.PatternAgrees", spec := "patternAgrees", inPlace := ["internal/bytealg.IndexByteString", "internal/bytealg.IndexString", "internal/bytealg.MakeNoZero"], unfollowed := true, recurses := true, named := ["internal/bytealg.MaxLen"], plainKeys := false, apart := false }
def PatternAgreesSaid : Prop := patternAgreesRow.holds Try.pinned (OpenSpec.ofChange patternAgreesSpec)

/-- ITS FALSE NEIGHBOUR: 'it returns false'. Refute it at one input. -/
def patternAgreesWrong : ChangeSpec := { name := "patternAgrees", fn := fun _ => fun
  | [d1, d2] => { results := [.lit (.bool false)], args := [d1, d2] }
  | _ => none }
def PatternAgreesWrongFalsely : Prop := patternAgreesRow.holds Try.pinned (OpenSpec.ofChange patternAgreesWrong)

/- THE SECOND FORM. 'bulk': how many values and letters a reading holds, each counted each time it is reached (what is shared counts as often as it is met; a slice's spare places count too). A statement '..UptoSaid' is the law's where the arguments, and the package variables that the reading takes, are together of bulk at most 1048576: NARROWER than '..Said'. Prove '..Said' where nothing that the law and all that it calls make is longer than what came in: it says more and counts as full. Else prove '..UptoSaid'. A law counts once. -/
mutual
def uptoBulk {H : Type} : DataW H → Nat
  | .lit (.string bytes) => bytes.length + 1
  | .lit _ => 1
  | .nil => 1
  | .ptr d => uptoBulk d + 1
  | .slice elems spare => uptoBulkAll elems + uptoBulkAll spare + 1
  | .agg parts => uptoBulkAll parts + 1
  | .iface _ d => uptoBulk d + 1
  | .map entries => uptoBulkEntries entries + 1
  | .held _ => 1
def uptoBulkAll {H : Type} : List (DataW H) → Nat
  | [] => 0
  | d :: r => uptoBulk d + uptoBulkAll r
def uptoBulkEntries {H : Type} : List (Lit × DataW H) → Nat
  | [] => 0
  | x :: r => uptoBulkEntry x + uptoBulkEntries r
def uptoBulkEntry {H : Type} : Lit × DataW H → Nat
  | (.string bytes, d) => bytes.length + uptoBulk d + 1
  | (_, d) => uptoBulk d + 1
 end
def uptoSmall : (H : Type) → List (DataW H) → Bool := fun _ ds => decide (uptoBulkAll ds ≤ 1048576)
def OpenSpec.upto (s : _root_.Go.ChangeSpec) : _root_.Go.OpenSpec := { _root_.Go.OpenSpec.ofChange s with cond := some uptoSmall }

/-- 'semigrouplaw33.PatternFamilies', WHERE WHAT IT READS IS OF BULK AT MOST 1048576: true; the input reads as it did. -/
def patternFamiliesUptoRow : OpenClaim := { program := "ytgbfaggnnfoamaa", sum := "0def8925fd22b3045a55cee939e54c22e4729c07a7701c963435aa388e28ec1e", func := "semigroup/semigrouplaw33.PatternFamilies", spec := "patternFamilies", inPlace := ["internal/bytealg.MakeNoZero", "internal/bytealg.IndexByteString", "internal/bytealg.IndexString"], named := ["internal/bytealg.MaxLen"], plainKeys := false, apart := false, narrowed := true }
def PatternFamiliesUptoSaid : Prop := patternFamiliesUptoRow.holds Try.pinned (OpenSpec.upto patternFamiliesSpec)

/-- 'semigrouplaw33.PatternBuilt', WHERE WHAT IT READS IS OF BULK AT MOST 1048576: true; the input reads as it did. -/
def patternBuiltUptoRow : OpenClaim := { program := "ytgbfaggnnfoamaa", sum := "0def8925fd22b3045a55cee939e54c22e4729c07a7701c963435aa388e28ec1e", func := "semigroup/semigrouplaw33.PatternBuilt", spec := "patternBuilt", inPlace := ["internal/bytealg.IndexByteString", "internal/bytealg.IndexString", "internal/bytealg.MakeNoZero"], named := ["internal/bytealg.MaxLen"], plainKeys := false, apart := false, narrowed := true }
def PatternBuiltUptoSaid : Prop := patternBuiltUptoRow.holds Try.pinned (OpenSpec.upto patternBuiltSpec)

/-- 'semigrouplaw33.PatternWeaker', WHERE WHAT IT READS IS OF BULK AT MOST 1048576: true; the input reads as it did. -/
def patternWeakerUptoRow : OpenClaim := { program := "ytgbfaggnnfoamaa", sum := "0def8925fd22b3045a55cee939e54c22e4729c07a7701c963435aa388e28ec1e", func := "semigroup/semigrouplaw33.PatternWeaker", spec := "patternWeaker", inPlace := ["internal/bytealg.IndexByteString", "internal/bytealg.IndexString", "internal/bytealg.MakeNoZero"], named := ["internal/bytealg.MaxLen"], plainKeys := false, apart := false, narrowed := true }
def PatternWeakerUptoSaid : Prop := patternWeakerUptoRow.holds Try.pinned (OpenSpec.upto patternWeakerSpec)

/-- 'semigrouplaw33.PatternReversed', WHERE WHAT IT READS IS OF BULK AT MOST 1048576: true; the input reads as it did. -/
def patternReversedUptoRow : OpenClaim := { program := "ytgbfaggnnfoamaa", sum := "0def8925fd22b3045a55cee939e54c22e4729c07a7701c963435aa388e28ec1e", func := "semigroup/semigrouplaw33.PatternReversed", spec := "patternReversed", inPlace := ["internal/bytealg.IndexByteString", "internal/bytealg.IndexString", "internal/bytealg.MakeNoZero"], named := ["internal/bytealg.MaxLen"], plainKeys := false, apart := false, narrowed := true }
def PatternReversedUptoSaid : Prop := patternReversedUptoRow.holds Try.pinned (OpenSpec.upto patternReversedSpec)

/-- 'semigrouplaw33.PatternRaw', WHERE WHAT IT READS IS OF BULK AT MOST 1048576: true; the input reads as it did. -/
def patternRawUptoRow : OpenClaim := { program := "ytgbfaggnnfoamaa", sum := "0def8925fd22b3045a55cee939e54c22e4729c07a7701c963435aa388e28ec1e", func := "semigroup/semigrouplaw33.PatternRaw", spec := "patternRaw", inPlace := ["internal/bytealg.IndexByteString", "internal/bytealg.IndexString", "internal/bytealg.MakeNoZero"], unfollowed := true, recurses := true, named := ["internal/bytealg.MaxLen"], plainKeys := false, apart := false, narrowed := true }
def PatternRawUptoSaid : Prop := patternRawUptoRow.holds Try.pinned (OpenSpec.upto patternRawSpec)

/-- 'semigrouplaw33.PatternMade', WHERE WHAT IT READS IS OF BULK AT MOST 1048576: true; the input reads as it did. -/
def patternMadeUptoRow : OpenClaim := { program := "ytgbfaggnnfoamaa", sum := "0def8925fd22b3045a55cee939e54c22e4729c07a7701c963435aa388e28ec1e", func := "semigroup/semigrouplaw33.PatternMade", spec := "patternMade", inPlace := ["internal/bytealg.IndexByteString", "internal/bytealg.IndexString", "internal/bytealg.MakeNoZero"], unfollowed := true, recurses := true, named := ["internal/bytealg.MaxLen"], plainKeys := false, apart := false, narrowed := true }
def PatternMadeUptoSaid : Prop := patternMadeUptoRow.holds Try.pinned (OpenSpec.upto patternMadeSpec)

/-- 'semigrouplaw33.PatternAgrees', WHERE WHAT IT READS IS OF BULK AT MOST 1048576: true; the input reads as it did. -/
def patternAgreesUptoRow : OpenClaim := { program := "ytgbfaggnnfoamaa", sum := "0def8925fd22b3045a55cee939e54c22e4729c07a7701c963435aa388e28ec1e", func := "semigroup/semigrouplaw33.PatternAgrees", spec := "patternAgrees", inPlace := ["internal/bytealg.IndexByteString", "internal/bytealg.IndexString", "internal/bytealg.MakeNoZero"], unfollowed := true, recurses := true, named := ["internal/bytealg.MaxLen"], plainKeys := false, apart := false, narrowed := true }
def PatternAgreesUptoSaid : Prop := patternAgreesUptoRow.holds Try.pinned (OpenSpec.upto patternAgreesSpec)

end Rows
end Go.Proofs.Ytgbfaggnnfoamaa
