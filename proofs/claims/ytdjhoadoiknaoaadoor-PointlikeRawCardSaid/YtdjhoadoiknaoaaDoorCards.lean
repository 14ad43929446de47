/-
  DERIVED. GIVEN WITH THE SEED: THE CARDS: each row of YtdjhoadoiknaoaaDoorRows.lean that lists a variable, with what it lists TIED to the program's text (the seventh form; the later family's looks); each row that meets fmt, with fmt's text TOLD by the authors' own Lean function (tested against real Go, not proved from fmt's source: count such statements apart). THE CARD IS WHAT COUNTS. Prove the row's statement (the work); the ties are given (YtdjhoadoiknaoaaDoorTie.lean); close each card by the builder's one call (the guide's Derived/Test/ToyasCard.lean, 'card_holds'). Laid BY PROGRAM, IN A SANDBOX (cutbox-door.mjs). By AI agents, Wed Nov 11 2026. No macro, syntax, notation, axiom, sorry.
-/
import Derived.Test.YtdjhoadoiknaoaaDoorRows
import GoSem.ClaimSeven
namespace Go.Proofs.YtdjhoadoiknaoaaDoor
namespace Rows

/-- THE TIED CARD OF 'semigrouplaw40.PointlikeAperiodic'. -/
def pointlikeAperiodicCard : Claim7 := { stood := { row := pointlikeAperiodicRow, standIns := [], harness := (true, "85df02bc8df6df78b6bffed266354adae157b790364d9d699fe72e7846b48334"), looks := false }, kinds := [], alts := [], laidByText := true, laidKinds := [.data, .data], laidTests := true, laidLooks := .later }
def PointlikeAperiodicCardSaid : Prop := Claim7.holds Tryd.pinned (.plain (OpenSpec.ofChange pointlikeAperiodicSpec)) pointlikeAperiodicCard

/-- THE TIED CARD OF 'semigrouplaw40.PointlikeSets'. -/
def pointlikeSetsCard : Claim7 := { stood := { row := pointlikeSetsRow, standIns := [], harness := (true, "85df02bc8df6df78b6bffed266354adae157b790364d9d699fe72e7846b48334"), looks := false }, kinds := [], alts := [], laidByText := true, laidKinds := [.data, .data], laidTests := true, laidLooks := .later }
def PointlikeSetsCardSaid : Prop := Claim7.holds Tryd.pinned (.plain (OpenSpec.ofChange pointlikeSetsSpec)) pointlikeSetsCard

/-- THE TIED CARD OF 'semigrouplaw40.PointlikeRounds'. -/
def pointlikeRoundsCard : Claim7 := { stood := { row := pointlikeRoundsRow, standIns := [], harness := (true, "85df02bc8df6df78b6bffed266354adae157b790364d9d699fe72e7846b48334"), looks := false }, kinds := [], alts := [], laidByText := true, laidKinds := [.data, .data], laidTests := true, laidLooks := .later }
def PointlikeRoundsCardSaid : Prop := Claim7.holds Tryd.pinned (.plain (OpenSpec.ofChange pointlikeRoundsSpec)) pointlikeRoundsCard

/-- THE TIED CARD OF 'semigrouplaw40.PointlikeResumes'. -/
def pointlikeResumesCard : Claim7 := { stood := { row := pointlikeResumesRow, standIns := [], harness := (true, "85df02bc8df6df78b6bffed266354adae157b790364d9d699fe72e7846b48334"), looks := false }, kinds := [], alts := [], laidByText := true, laidKinds := [.data, .data], laidTests := true, laidLooks := .later }
def PointlikeResumesCardSaid : Prop := Claim7.holds Tryd.pinned (.plain (OpenSpec.ofChange pointlikeResumesSpec)) pointlikeResumesCard

/-- THE TIED CARD OF 'semigrouplaw40.PointlikeAgainst'. -/
def pointlikeAgainstCard : Claim7 := { stood := { row := pointlikeAgainstRow, standIns := [], harness := (true, "85df02bc8df6df78b6bffed266354adae157b790364d9d699fe72e7846b48334"), looks := false }, kinds := [], alts := [], laidByText := true, laidKinds := [.data, .data], laidTests := true, laidLooks := .later }
def PointlikeAgainstCardSaid : Prop := Claim7.holds Tryd.pinned (.plain (OpenSpec.ofChange pointlikeAgainstSpec)) pointlikeAgainstCard

/-- THE TIED CARD OF 'semigrouplaw40.PointlikeDerives'. -/
def pointlikeDerivesCard : Claim7 := { stood := { row := pointlikeDerivesRow, standIns := [], harness := (true, "85df02bc8df6df78b6bffed266354adae157b790364d9d699fe72e7846b48334"), looks := false }, kinds := [], alts := [], laidByText := true, laidKinds := [.data, .data], laidTests := true, laidLooks := .later }
def PointlikeDerivesCardSaid : Prop := Claim7.holds Tryd.pinned (.plain (OpenSpec.ofChange pointlikeDerivesSpec)) pointlikeDerivesCard

/-- THE TIED CARD OF 'semigrouplaw40.PointlikeClosed'. -/
def pointlikeClosedCard : Claim7 := { stood := { row := pointlikeClosedRow, standIns := [], harness := (true, "85df02bc8df6df78b6bffed266354adae157b790364d9d699fe72e7846b48334"), looks := false }, kinds := [], alts := [], laidByText := true, laidKinds := [.data, .data], laidTests := true, laidLooks := .later }
def PointlikeClosedCardSaid : Prop := Claim7.holds Tryd.pinned (.plain (OpenSpec.ofChange pointlikeClosedSpec)) pointlikeClosedCard

/-- THE TIED CARD OF 'semigrouplaw40.PointlikeRaw'. -/
def pointlikeRawCard : Claim7 := { stood := { row := pointlikeRawRow, standIns := [], harness := (true, "85df02bc8df6df78b6bffed266354adae157b790364d9d699fe72e7846b48334"), looks := false }, kinds := [], alts := [], laidByText := true, laidKinds := [.data, .data], laidTests := true, laidLooks := .later }
def PointlikeRawCardSaid : Prop := Claim7.holds Tryd.pinned (.plain (OpenSpec.ofChange pointlikeRawSpec)) pointlikeRawCard

/-- THE SECOND FORM's CARD OF 'semigrouplaw40.PointlikeAperiodic'. -/
def pointlikeAperiodicUptoCard : Claim7 := { stood := { row := pointlikeAperiodicUptoRow, standIns := [], harness := (true, "85df02bc8df6df78b6bffed266354adae157b790364d9d699fe72e7846b48334"), looks := false }, kinds := [], alts := [], laidByText := true, laidKinds := [.data, .data], laidTests := true, laidLooks := .later }
def PointlikeAperiodicUptoCardSaid : Prop := Claim7.holds Tryd.pinned (.plain (OpenSpec.upto pointlikeAperiodicSpec)) pointlikeAperiodicUptoCard

/-- THE SECOND FORM's CARD OF 'semigrouplaw40.PointlikeSets'. -/
def pointlikeSetsUptoCard : Claim7 := { stood := { row := pointlikeSetsUptoRow, standIns := [], harness := (true, "85df02bc8df6df78b6bffed266354adae157b790364d9d699fe72e7846b48334"), looks := false }, kinds := [], alts := [], laidByText := true, laidKinds := [.data, .data], laidTests := true, laidLooks := .later }
def PointlikeSetsUptoCardSaid : Prop := Claim7.holds Tryd.pinned (.plain (OpenSpec.upto pointlikeSetsSpec)) pointlikeSetsUptoCard

/-- THE SECOND FORM's CARD OF 'semigrouplaw40.PointlikeRounds'. -/
def pointlikeRoundsUptoCard : Claim7 := { stood := { row := pointlikeRoundsUptoRow, standIns := [], harness := (true, "85df02bc8df6df78b6bffed266354adae157b790364d9d699fe72e7846b48334"), looks := false }, kinds := [], alts := [], laidByText := true, laidKinds := [.data, .data], laidTests := true, laidLooks := .later }
def PointlikeRoundsUptoCardSaid : Prop := Claim7.holds Tryd.pinned (.plain (OpenSpec.upto pointlikeRoundsSpec)) pointlikeRoundsUptoCard

/-- THE SECOND FORM's CARD OF 'semigrouplaw40.PointlikeResumes'. -/
def pointlikeResumesUptoCard : Claim7 := { stood := { row := pointlikeResumesUptoRow, standIns := [], harness := (true, "85df02bc8df6df78b6bffed266354adae157b790364d9d699fe72e7846b48334"), looks := false }, kinds := [], alts := [], laidByText := true, laidKinds := [.data, .data], laidTests := true, laidLooks := .later }
def PointlikeResumesUptoCardSaid : Prop := Claim7.holds Tryd.pinned (.plain (OpenSpec.upto pointlikeResumesSpec)) pointlikeResumesUptoCard

/-- THE SECOND FORM's CARD OF 'semigrouplaw40.PointlikeAgainst'. -/
def pointlikeAgainstUptoCard : Claim7 := { stood := { row := pointlikeAgainstUptoRow, standIns := [], harness := (true, "85df02bc8df6df78b6bffed266354adae157b790364d9d699fe72e7846b48334"), looks := false }, kinds := [], alts := [], laidByText := true, laidKinds := [.data, .data], laidTests := true, laidLooks := .later }
def PointlikeAgainstUptoCardSaid : Prop := Claim7.holds Tryd.pinned (.plain (OpenSpec.upto pointlikeAgainstSpec)) pointlikeAgainstUptoCard

/-- THE SECOND FORM's CARD OF 'semigrouplaw40.PointlikeDerives'. -/
def pointlikeDerivesUptoCard : Claim7 := { stood := { row := pointlikeDerivesUptoRow, standIns := [], harness := (true, "85df02bc8df6df78b6bffed266354adae157b790364d9d699fe72e7846b48334"), looks := false }, kinds := [], alts := [], laidByText := true, laidKinds := [.data, .data], laidTests := true, laidLooks := .later }
def PointlikeDerivesUptoCardSaid : Prop := Claim7.holds Tryd.pinned (.plain (OpenSpec.upto pointlikeDerivesSpec)) pointlikeDerivesUptoCard

/-- THE SECOND FORM's CARD OF 'semigrouplaw40.PointlikeClosed'. -/
def pointlikeClosedUptoCard : Claim7 := { stood := { row := pointlikeClosedUptoRow, standIns := [], harness := (true, "85df02bc8df6df78b6bffed266354adae157b790364d9d699fe72e7846b48334"), looks := false }, kinds := [], alts := [], laidByText := true, laidKinds := [.data, .data], laidTests := true, laidLooks := .later }
def PointlikeClosedUptoCardSaid : Prop := Claim7.holds Tryd.pinned (.plain (OpenSpec.upto pointlikeClosedSpec)) pointlikeClosedUptoCard

/-- THE SECOND FORM's CARD OF 'semigrouplaw40.PointlikeRaw'. -/
def pointlikeRawUptoCard : Claim7 := { stood := { row := pointlikeRawUptoRow, standIns := [], harness := (true, "85df02bc8df6df78b6bffed266354adae157b790364d9d699fe72e7846b48334"), looks := false }, kinds := [], alts := [], laidByText := true, laidKinds := [.data, .data], laidTests := true, laidLooks := .later }
def PointlikeRawUptoCardSaid : Prop := Claim7.holds Tryd.pinned (.plain (OpenSpec.upto pointlikeRawSpec)) pointlikeRawUptoCard
end Rows
end Go.Proofs.YtdjhoadoiknaoaaDoor
