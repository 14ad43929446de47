/-
  NARROWER THAN 'FOR EVERY INPUT', by the rows' own cells (each row's printed sentence says how): PointlikeAperiodic: laid · PointlikeSets: laid · PointlikeRounds: laid · PointlikeResumes: laid · PointlikeAgainst: laid · PointlikeDerives: laid · PointlikeClosed: laid · PointlikeRaw: laid.
  DERIVED. THE GIVEN ROWS OF THIS SEAT. 8 by the template 'for every input the law returns true; each argument reads behind the call as it read before'; 0 by the template 'total and deterministic' (their statements: YtdjhoadoiknaoaaDoorTotals.lean).
  GIVEN WITH THE SEED: the statements are not yours to turn. If you find one false, say at which input.
  Laid BY PROGRAM, IN A SANDBOX (cutbox-rows.mjs): the forced cells as the released guide's own fill.sh prints them over the translation 7df934320f85c8eb… (all of the seat's roots in one cut). By AI agents, Wed Nov 11 2026. No macro, syntax, notation, axiom, sorry.
-/
import Derived.Test.YtdjhoadoiknaoaaDoorChecked
import GoSem.Claim
import GoSem.ClaimJoined
import GoSem.ClaimMapViews
import Derived.JoinedTies
import Derived.KernelRfl
namespace Go.Proofs.YtdjhoadoiknaoaaDoor
/- THE CELL 'sum', in the pinned program and in every row, IS THE sha256 OF THE DUMP (.gsa) THAT YtdjhoadoiknaoaaDoorProg.lean LOADS. Nothing in Lean hashes anything: it is a label: what it is worth is what the hold of that sum in a sandbox is worth. -/
noncomputable def Tryd.pinned : Pinned := { name := "ytdjhoadoiknaoaadoor", sum := "7df934320f85c8eb0a9ea64ae2055a9f0c8e129a75f304f0d05575a47c0e2768", checked := Tryd.checked }
namespace Rows
def none {H : Type} : Left H := { results := [], args := [] }

/- WHAT THE LISTED PACKAGE-LEVEL VARIABLES READ AS WHEN THE CALL BEGINS. Each datum BY PROGRAM (the guide's laid-datum.mjs) off the statement by which the dump's own 'gosem.cut.vars' lays the variable. In a bare row this is a premise. The card (YtdjhoadoiknaoaaDoorCards.lean) ties it to the program's text. -/
def laid_math_bits_deBruijn32tab {H : Type} : DataW H := .agg [.lit (.int .u8 0), .lit (.int .u8 1), .lit (.int .u8 28), .lit (.int .u8 2), .lit (.int .u8 29), .lit (.int .u8 14), .lit (.int .u8 24), .lit (.int .u8 3), .lit (.int .u8 30), .lit (.int .u8 22), .lit (.int .u8 20), .lit (.int .u8 15), .lit (.int .u8 25), .lit (.int .u8 17), .lit (.int .u8 4), .lit (.int .u8 8), .lit (.int .u8 31), .lit (.int .u8 27), .lit (.int .u8 13), .lit (.int .u8 23), .lit (.int .u8 21), .lit (.int .u8 19), .lit (.int .u8 16), .lit (.int .u8 7), .lit (.int .u8 26), .lit (.int .u8 12), .lit (.int .u8 18), .lit (.int .u8 6), .lit (.int .u8 11), .lit (.int .u8 5), .lit (.int .u8 10), .lit (.int .u8 9)]
def laid_math_bits_deBruijn64tab {H : Type} : DataW H := .agg [.lit (.int .u8 0), .lit (.int .u8 1), .lit (.int .u8 56), .lit (.int .u8 2), .lit (.int .u8 57), .lit (.int .u8 49), .lit (.int .u8 28), .lit (.int .u8 3), .lit (.int .u8 61), .lit (.int .u8 58), .lit (.int .u8 42), .lit (.int .u8 50), .lit (.int .u8 38), .lit (.int .u8 29), .lit (.int .u8 17), .lit (.int .u8 4), .lit (.int .u8 62), .lit (.int .u8 47), .lit (.int .u8 59), .lit (.int .u8 36), .lit (.int .u8 45), .lit (.int .u8 43), .lit (.int .u8 51), .lit (.int .u8 22), .lit (.int .u8 53), .lit (.int .u8 39), .lit (.int .u8 33), .lit (.int .u8 30), .lit (.int .u8 24), .lit (.int .u8 18), .lit (.int .u8 12), .lit (.int .u8 5), .lit (.int .u8 63), .lit (.int .u8 55), .lit (.int .u8 48), .lit (.int .u8 27), .lit (.int .u8 60), .lit (.int .u8 41), .lit (.int .u8 37), .lit (.int .u8 16), .lit (.int .u8 46), .lit (.int .u8 35), .lit (.int .u8 44), .lit (.int .u8 21), .lit (.int .u8 52), .lit (.int .u8 32), .lit (.int .u8 23), .lit (.int .u8 11), .lit (.int .u8 54), .lit (.int .u8 26), .lit (.int .u8 40), .lit (.int .u8 15), .lit (.int .u8 34), .lit (.int .u8 20), .lit (.int .u8 31), .lit (.int .u8 10), .lit (.int .u8 25), .lit (.int .u8 14), .lit (.int .u8 19), .lit (.int .u8 9), .lit (.int .u8 13), .lit (.int .u8 8), .lit (.int .u8 7), .lit (.int .u8 6)]

/-- 'semigrouplaw40.PointlikeAperiodic': WHATEVER THE INPUT: true; the input reads as it did. -/
def pointlikeAperiodicSpec : ChangeSpec := { name := "pointlikeAperiodic", fn := fun _ => fun
  | [d1, d2] => { results := [.lit (.bool true)], args := [d1, d2] }
  | _ => none }
def pointlikeAperiodicRow : OpenClaim := { program := "ytdjhoadoiknaoaadoor", sum := "7df934320f85c8eb0a9ea64ae2055a9f0c8e129a75f304f0d05575a47c0e2768", func := "semigroup/semigrouplaw40.PointlikeAperiodic", spec := "pointlikeAperiodic", unfollowed := true, recurses := true, named := ["math/bits.deBruijn32tab", "math/bits.deBruijn64tab"], apart := false, laid := [("math/bits.deBruijn32tab", laid_math_bits_deBruijn32tab), ("math/bits.deBruijn64tab", laid_math_bits_deBruijn64tab)] }
def PointlikeAperiodicSaid : Prop := pointlikeAperiodicRow.holds Tryd.pinned (OpenSpec.ofChange pointlikeAperiodicSpec)

/-- ITS FALSE NEIGHBOUR: 'it returns false'. Refute it at one input. -/
def pointlikeAperiodicWrong : ChangeSpec := { name := "pointlikeAperiodic", fn := fun _ => fun
  | [d1, d2] => { results := [.lit (.bool false)], args := [d1, d2] }
  | _ => none }
def PointlikeAperiodicWrongFalsely : Prop := pointlikeAperiodicRow.holds Tryd.pinned (OpenSpec.ofChange pointlikeAperiodicWrong)

/-- 'semigrouplaw40.PointlikeSets': WHATEVER THE INPUT: true; the input reads as it did. -/
def pointlikeSetsSpec : ChangeSpec := { name := "pointlikeSets", fn := fun _ => fun
  | [d1, d2, d3] => { results := [.lit (.bool true)], args := [d1, d2, d3] }
  | _ => none }
def pointlikeSetsRow : OpenClaim := { program := "ytdjhoadoiknaoaadoor", sum := "7df934320f85c8eb0a9ea64ae2055a9f0c8e129a75f304f0d05575a47c0e2768", func := "semigroup/semigrouplaw40.PointlikeSets", spec := "pointlikeSets", unfollowed := true, recurses := true, named := ["math/bits.deBruijn32tab", "math/bits.deBruijn64tab"], apart := false, laid := [("math/bits.deBruijn32tab", laid_math_bits_deBruijn32tab), ("math/bits.deBruijn64tab", laid_math_bits_deBruijn64tab)] }
def PointlikeSetsSaid : Prop := pointlikeSetsRow.holds Tryd.pinned (OpenSpec.ofChange pointlikeSetsSpec)

/-- ITS FALSE NEIGHBOUR: 'it returns false'. Refute it at one input. -/
def pointlikeSetsWrong : ChangeSpec := { name := "pointlikeSets", fn := fun _ => fun
  | [d1, d2, d3] => { results := [.lit (.bool false)], args := [d1, d2, d3] }
  | _ => none }
def PointlikeSetsWrongFalsely : Prop := pointlikeSetsRow.holds Tryd.pinned (OpenSpec.ofChange pointlikeSetsWrong)

/-- 'semigrouplaw40.PointlikeRounds': WHATEVER THE INPUT: true; the input reads as it did. -/
def pointlikeRoundsSpec : ChangeSpec := { name := "pointlikeRounds", fn := fun _ => fun
  | [d1, d2] => { results := [.lit (.bool true)], args := [d1, d2] }
  | _ => none }
def pointlikeRoundsRow : OpenClaim := { program := "ytdjhoadoiknaoaadoor", sum := "7df934320f85c8eb0a9ea64ae2055a9f0c8e129a75f304f0d05575a47c0e2768", func := "semigroup/semigrouplaw40.PointlikeRounds", spec := "pointlikeRounds", unfollowed := true, recurses := true, named := ["math/bits.deBruijn32tab", "math/bits.deBruijn64tab"], apart := false, laid := [("math/bits.deBruijn32tab", laid_math_bits_deBruijn32tab), ("math/bits.deBruijn64tab", laid_math_bits_deBruijn64tab)] }
def PointlikeRoundsSaid : Prop := pointlikeRoundsRow.holds Tryd.pinned (OpenSpec.ofChange pointlikeRoundsSpec)

/-- ITS FALSE NEIGHBOUR: 'it returns false'. Refute it at one input. -/
def pointlikeRoundsWrong : ChangeSpec := { name := "pointlikeRounds", fn := fun _ => fun
  | [d1, d2] => { results := [.lit (.bool false)], args := [d1, d2] }
  | _ => none }
def PointlikeRoundsWrongFalsely : Prop := pointlikeRoundsRow.holds Tryd.pinned (OpenSpec.ofChange pointlikeRoundsWrong)

/-- 'semigrouplaw40.PointlikeResumes': WHATEVER THE INPUT: true; the input reads as it did. -/
def pointlikeResumesSpec : ChangeSpec := { name := "pointlikeResumes", fn := fun _ => fun
  | [d1, d2] => { results := [.lit (.bool true)], args := [d1, d2] }
  | _ => none }
def pointlikeResumesRow : OpenClaim := { program := "ytdjhoadoiknaoaadoor", sum := "7df934320f85c8eb0a9ea64ae2055a9f0c8e129a75f304f0d05575a47c0e2768", func := "semigroup/semigrouplaw40.PointlikeResumes", spec := "pointlikeResumes", unfollowed := true, recurses := true, named := ["math/bits.deBruijn32tab", "math/bits.deBruijn64tab"], apart := false, laid := [("math/bits.deBruijn32tab", laid_math_bits_deBruijn32tab), ("math/bits.deBruijn64tab", laid_math_bits_deBruijn64tab)] }
def PointlikeResumesSaid : Prop := pointlikeResumesRow.holds Tryd.pinned (OpenSpec.ofChange pointlikeResumesSpec)

/-- ITS FALSE NEIGHBOUR: 'it returns false'. Refute it at one input. -/
def pointlikeResumesWrong : ChangeSpec := { name := "pointlikeResumes", fn := fun _ => fun
  | [d1, d2] => { results := [.lit (.bool false)], args := [d1, d2] }
  | _ => none }
def PointlikeResumesWrongFalsely : Prop := pointlikeResumesRow.holds Tryd.pinned (OpenSpec.ofChange pointlikeResumesWrong)

/-- 'semigrouplaw40.PointlikeAgainst': WHATEVER THE INPUT: true; the input reads as it did. -/
def pointlikeAgainstSpec : ChangeSpec := { name := "pointlikeAgainst", fn := fun _ => fun
  | [d1, d2, d3] => { results := [.lit (.bool true)], args := [d1, d2, d3] }
  | _ => none }
def pointlikeAgainstRow : OpenClaim := { program := "ytdjhoadoiknaoaadoor", sum := "7df934320f85c8eb0a9ea64ae2055a9f0c8e129a75f304f0d05575a47c0e2768", func := "semigroup/semigrouplaw40.PointlikeAgainst", spec := "pointlikeAgainst", unfollowed := true, recurses := true, named := ["math/bits.deBruijn32tab", "math/bits.deBruijn64tab"], apart := false, laid := [("math/bits.deBruijn32tab", laid_math_bits_deBruijn32tab), ("math/bits.deBruijn64tab", laid_math_bits_deBruijn64tab)] }
def PointlikeAgainstSaid : Prop := pointlikeAgainstRow.holds Tryd.pinned (OpenSpec.ofChange pointlikeAgainstSpec)

/-- ITS FALSE NEIGHBOUR: 'it returns false'. Refute it at one input. -/
def pointlikeAgainstWrong : ChangeSpec := { name := "pointlikeAgainst", fn := fun _ => fun
  | [d1, d2, d3] => { results := [.lit (.bool false)], args := [d1, d2, d3] }
  | _ => none }
def PointlikeAgainstWrongFalsely : Prop := pointlikeAgainstRow.holds Tryd.pinned (OpenSpec.ofChange pointlikeAgainstWrong)

/-- 'semigrouplaw40.PointlikeDerives': WHATEVER THE INPUT: true; the input reads as it did. -/
def pointlikeDerivesSpec : ChangeSpec := { name := "pointlikeDerives", fn := fun _ => fun
  | [d1, d2, d3, d4, d5] => { results := [.lit (.bool true)], args := [d1, d2, d3, d4, d5] }
  | _ => none }
def pointlikeDerivesRow : OpenClaim := { program := "ytdjhoadoiknaoaadoor", sum := "7df934320f85c8eb0a9ea64ae2055a9f0c8e129a75f304f0d05575a47c0e2768", func := "semigroup/semigrouplaw40.PointlikeDerives", spec := "pointlikeDerives", unfollowed := true, recurses := true, named := ["math/bits.deBruijn32tab", "math/bits.deBruijn64tab"], apart := false, laid := [("math/bits.deBruijn32tab", laid_math_bits_deBruijn32tab), ("math/bits.deBruijn64tab", laid_math_bits_deBruijn64tab)] }
def PointlikeDerivesSaid : Prop := pointlikeDerivesRow.holds Tryd.pinned (OpenSpec.ofChange pointlikeDerivesSpec)

/-- ITS FALSE NEIGHBOUR: 'it returns false'. Refute it at one input. -/
def pointlikeDerivesWrong : ChangeSpec := { name := "pointlikeDerives", fn := fun _ => fun
  | [d1, d2, d3, d4, d5] => { results := [.lit (.bool false)], args := [d1, d2, d3, d4, d5] }
  | _ => none }
def PointlikeDerivesWrongFalsely : Prop := pointlikeDerivesRow.holds Tryd.pinned (OpenSpec.ofChange pointlikeDerivesWrong)

/-- 'semigrouplaw40.PointlikeClosed': WHATEVER THE INPUT: true; the input reads as it did. -/
def pointlikeClosedSpec : ChangeSpec := { name := "pointlikeClosed", fn := fun _ => fun
  | [d1, d2] => { results := [.lit (.bool true)], args := [d1, d2] }
  | _ => none }
def pointlikeClosedRow : OpenClaim := { program := "ytdjhoadoiknaoaadoor", sum := "7df934320f85c8eb0a9ea64ae2055a9f0c8e129a75f304f0d05575a47c0e2768", func := "semigroup/semigrouplaw40.PointlikeClosed", spec := "pointlikeClosed", unfollowed := true, recurses := true, named := ["math/bits.deBruijn32tab", "math/bits.deBruijn64tab"], apart := false, laid := [("math/bits.deBruijn32tab", laid_math_bits_deBruijn32tab), ("math/bits.deBruijn64tab", laid_math_bits_deBruijn64tab)] }
def PointlikeClosedSaid : Prop := pointlikeClosedRow.holds Tryd.pinned (OpenSpec.ofChange pointlikeClosedSpec)

/-- ITS FALSE NEIGHBOUR: 'it returns false'. Refute it at one input. -/
def pointlikeClosedWrong : ChangeSpec := { name := "pointlikeClosed", fn := fun _ => fun
  | [d1, d2] => { results := [.lit (.bool false)], args := [d1, d2] }
  | _ => none }
def PointlikeClosedWrongFalsely : Prop := pointlikeClosedRow.holds Tryd.pinned (OpenSpec.ofChange pointlikeClosedWrong)

/-- 'semigrouplaw40.PointlikeRaw': WHATEVER THE INPUT: true; the input reads as it did. -/
def pointlikeRawSpec : ChangeSpec := { name := "pointlikeRaw", fn := fun _ => fun
  | [d1, d2, d3, d4, d5, d6] => { results := [.lit (.bool true)], args := [d1, d2, d3, d4, d5, d6] }
  | _ => none }
def pointlikeRawRow : OpenClaim := { program := "ytdjhoadoiknaoaadoor", sum := "7df934320f85c8eb0a9ea64ae2055a9f0c8e129a75f304f0d05575a47c0e2768", func := "semigroup/semigrouplaw40.PointlikeRaw", spec := "pointlikeRaw", unfollowed := true, recurses := true, named := ["math/bits.deBruijn32tab", "math/bits.deBruijn64tab"], apart := false, laid := [("math/bits.deBruijn32tab", laid_math_bits_deBruijn32tab), ("math/bits.deBruijn64tab", laid_math_bits_deBruijn64tab)] }
def PointlikeRawSaid : Prop := pointlikeRawRow.holds Tryd.pinned (OpenSpec.ofChange pointlikeRawSpec)

/-- ITS FALSE NEIGHBOUR: 'it returns false'. Refute it at one input. -/
def pointlikeRawWrong : ChangeSpec := { name := "pointlikeRaw", fn := fun _ => fun
  | [d1, d2, d3, d4, d5, d6] => { results := [.lit (.bool false)], args := [d1, d2, d3, d4, d5, d6] }
  | _ => none }
def PointlikeRawWrongFalsely : Prop := pointlikeRawRow.holds Tryd.pinned (OpenSpec.ofChange pointlikeRawWrong)

/- THE SECOND FORM. 'bulk': how many values and letters a reading holds, each counted each time it is reached (what is shared counts as often as it is met; a slice's spare places count too). A statement '..UptoSaid' is the law's where the arguments, and the package variables that the reading takes, are together of bulk at most 1048576: NARROWER than '..Said'. Prove '..Said' where nothing that the law and all that it calls make is longer than what came in: it says more and counts as full. Else prove '..UptoSaid'. A law counts once. -/
mutual
def uptoBulk {H : Type} : DataW H → Nat
  | .lit (.string bytes) => bytes.length + 1
  | .lit _ => 1
  | .nil => 1
  | .ptr d => uptoBulk d + 1
  | .slice elems spare => uptoBulkAll elems + uptoBulkAll spare + 1
  | .agg parts => uptoBulkAll parts + 1
  | .iface _ d => uptoBulk d + 1
  | .map entries => uptoBulkEntries entries + 1
  | .held _ => 1
def uptoBulkAll {H : Type} : List (DataW H) → Nat
  | [] => 0
  | d :: r => uptoBulk d + uptoBulkAll r
def uptoBulkEntries {H : Type} : List (Lit × DataW H) → Nat
  | [] => 0
  | x :: r => uptoBulkEntry x + uptoBulkEntries r
def uptoBulkEntry {H : Type} : Lit × DataW H → Nat
  | (.string bytes, d) => bytes.length + uptoBulk d + 1
  | (_, d) => uptoBulk d + 1
 end
def uptoSmall : (H : Type) → List (DataW H) → Bool := fun _ ds => decide (uptoBulkAll ds ≤ 1048576)
def OpenSpec.upto (s : _root_.Go.ChangeSpec) : _root_.Go.OpenSpec := { _root_.Go.OpenSpec.ofChange s with cond := some uptoSmall }

/-- 'semigrouplaw40.PointlikeAperiodic', WHERE WHAT IT READS IS OF BULK AT MOST 1048576: true; the input reads as it did. -/
def pointlikeAperiodicUptoRow : OpenClaim := { program := "ytdjhoadoiknaoaadoor", sum := "7df934320f85c8eb0a9ea64ae2055a9f0c8e129a75f304f0d05575a47c0e2768", func := "semigroup/semigrouplaw40.PointlikeAperiodic", spec := "pointlikeAperiodic", unfollowed := true, recurses := true, named := ["math/bits.deBruijn32tab", "math/bits.deBruijn64tab"], apart := false, laid := [("math/bits.deBruijn32tab", laid_math_bits_deBruijn32tab), ("math/bits.deBruijn64tab", laid_math_bits_deBruijn64tab)], narrowed := true }
def PointlikeAperiodicUptoSaid : Prop := pointlikeAperiodicUptoRow.holds Tryd.pinned (OpenSpec.upto pointlikeAperiodicSpec)

/-- 'semigrouplaw40.PointlikeSets', WHERE WHAT IT READS IS OF BULK AT MOST 1048576: true; the input reads as it did. -/
def pointlikeSetsUptoRow : OpenClaim := { program := "ytdjhoadoiknaoaadoor", sum := "7df934320f85c8eb0a9ea64ae2055a9f0c8e129a75f304f0d05575a47c0e2768", func := "semigroup/semigrouplaw40.PointlikeSets", spec := "pointlikeSets", unfollowed := true, recurses := true, named := ["math/bits.deBruijn32tab", "math/bits.deBruijn64tab"], apart := false, laid := [("math/bits.deBruijn32tab", laid_math_bits_deBruijn32tab), ("math/bits.deBruijn64tab", laid_math_bits_deBruijn64tab)], narrowed := true }
def PointlikeSetsUptoSaid : Prop := pointlikeSetsUptoRow.holds Tryd.pinned (OpenSpec.upto pointlikeSetsSpec)

/-- 'semigrouplaw40.PointlikeRounds', WHERE WHAT IT READS IS OF BULK AT MOST 1048576: true; the input reads as it did. -/
def pointlikeRoundsUptoRow : OpenClaim := { program := "ytdjhoadoiknaoaadoor", sum := "7df934320f85c8eb0a9ea64ae2055a9f0c8e129a75f304f0d05575a47c0e2768", func := "semigroup/semigrouplaw40.PointlikeRounds", spec := "pointlikeRounds", unfollowed := true, recurses := true, named := ["math/bits.deBruijn32tab", "math/bits.deBruijn64tab"], apart := false, laid := [("math/bits.deBruijn32tab", laid_math_bits_deBruijn32tab), ("math/bits.deBruijn64tab", laid_math_bits_deBruijn64tab)], narrowed := true }
def PointlikeRoundsUptoSaid : Prop := pointlikeRoundsUptoRow.holds Tryd.pinned (OpenSpec.upto pointlikeRoundsSpec)

/-- 'semigrouplaw40.PointlikeResumes', WHERE WHAT IT READS IS OF BULK AT MOST 1048576: true; the input reads as it did. -/
def pointlikeResumesUptoRow : OpenClaim := { program := "ytdjhoadoiknaoaadoor", sum := "7df934320f85c8eb0a9ea64ae2055a9f0c8e129a75f304f0d05575a47c0e2768", func := "semigroup/semigrouplaw40.PointlikeResumes", spec := "pointlikeResumes", unfollowed := true, recurses := true, named := ["math/bits.deBruijn32tab", "math/bits.deBruijn64tab"], apart := false, laid := [("math/bits.deBruijn32tab", laid_math_bits_deBruijn32tab), ("math/bits.deBruijn64tab", laid_math_bits_deBruijn64tab)], narrowed := true }
def PointlikeResumesUptoSaid : Prop := pointlikeResumesUptoRow.holds Tryd.pinned (OpenSpec.upto pointlikeResumesSpec)

/-- 'semigrouplaw40.PointlikeAgainst', WHERE WHAT IT READS IS OF BULK AT MOST 1048576: true; the input reads as it did. -/
def pointlikeAgainstUptoRow : OpenClaim := { program := "ytdjhoadoiknaoaadoor", sum := "7df934320f85c8eb0a9ea64ae2055a9f0c8e129a75f304f0d05575a47c0e2768", func := "semigroup/semigrouplaw40.PointlikeAgainst", spec := "pointlikeAgainst", unfollowed := true, recurses := true, named := ["math/bits.deBruijn32tab", "math/bits.deBruijn64tab"], apart := false, laid := [("math/bits.deBruijn32tab", laid_math_bits_deBruijn32tab), ("math/bits.deBruijn64tab", laid_math_bits_deBruijn64tab)], narrowed := true }
def PointlikeAgainstUptoSaid : Prop := pointlikeAgainstUptoRow.holds Tryd.pinned (OpenSpec.upto pointlikeAgainstSpec)

/-- 'semigrouplaw40.PointlikeDerives', WHERE WHAT IT READS IS OF BULK AT MOST 1048576: true; the input reads as it did. -/
def pointlikeDerivesUptoRow : OpenClaim := { program := "ytdjhoadoiknaoaadoor", sum := "7df934320f85c8eb0a9ea64ae2055a9f0c8e129a75f304f0d05575a47c0e2768", func := "semigroup/semigrouplaw40.PointlikeDerives", spec := "pointlikeDerives", unfollowed := true, recurses := true, named := ["math/bits.deBruijn32tab", "math/bits.deBruijn64tab"], apart := false, laid := [("math/bits.deBruijn32tab", laid_math_bits_deBruijn32tab), ("math/bits.deBruijn64tab", laid_math_bits_deBruijn64tab)], narrowed := true }
def PointlikeDerivesUptoSaid : Prop := pointlikeDerivesUptoRow.holds Tryd.pinned (OpenSpec.upto pointlikeDerivesSpec)

/-- 'semigrouplaw40.PointlikeClosed', WHERE WHAT IT READS IS OF BULK AT MOST 1048576: true; the input reads as it did. -/
def pointlikeClosedUptoRow : OpenClaim := { program := "ytdjhoadoiknaoaadoor", sum := "7df934320f85c8eb0a9ea64ae2055a9f0c8e129a75f304f0d05575a47c0e2768", func := "semigroup/semigrouplaw40.PointlikeClosed", spec := "pointlikeClosed", unfollowed := true, recurses := true, named := ["math/bits.deBruijn32tab", "math/bits.deBruijn64tab"], apart := false, laid := [("math/bits.deBruijn32tab", laid_math_bits_deBruijn32tab), ("math/bits.deBruijn64tab", laid_math_bits_deBruijn64tab)], narrowed := true }
def PointlikeClosedUptoSaid : Prop := pointlikeClosedUptoRow.holds Tryd.pinned (OpenSpec.upto pointlikeClosedSpec)

/-- 'semigrouplaw40.PointlikeRaw', WHERE WHAT IT READS IS OF BULK AT MOST 1048576: true; the input reads as it did. -/
def pointlikeRawUptoRow : OpenClaim := { program := "ytdjhoadoiknaoaadoor", sum := "7df934320f85c8eb0a9ea64ae2055a9f0c8e129a75f304f0d05575a47c0e2768", func := "semigroup/semigrouplaw40.PointlikeRaw", spec := "pointlikeRaw", unfollowed := true, recurses := true, named := ["math/bits.deBruijn32tab", "math/bits.deBruijn64tab"], apart := false, laid := [("math/bits.deBruijn32tab", laid_math_bits_deBruijn32tab), ("math/bits.deBruijn64tab", laid_math_bits_deBruijn64tab)], narrowed := true }
def PointlikeRawUptoSaid : Prop := pointlikeRawUptoRow.holds Tryd.pinned (OpenSpec.upto pointlikeRawSpec)

end Rows
end Go.Proofs.YtdjhoadoiknaoaaDoor
