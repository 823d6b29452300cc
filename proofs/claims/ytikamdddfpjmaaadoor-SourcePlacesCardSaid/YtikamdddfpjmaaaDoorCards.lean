/-
  DERIVED. GIVEN WITH THE SEED: THE CARDS: each row of YtikamdddfpjmaaaDoorRows.lean that lists a variable, with what it lists TIED to the program's text (the seventh form; the later family's looks); each row that meets fmt, with fmt's text TOLD by the authors' own Lean function (tested against real Go, not proved from fmt's source: count such statements apart). THE CARD IS WHAT COUNTS. Prove the row's statement (the work); the ties are given (YtikamdddfpjmaaaDoorTie.lean); close each card by the builder's one call (the guide's Derived/Test/ToyasCard.lean, 'card_holds'). Laid BY PROGRAM, IN A SANDBOX (cutbox-door.mjs). By AI agents, Wed Nov 11 2026. No macro, syntax, notation, axiom, sorry.
-/
import Derived.Test.YtikamdddfpjmaaaDoorRows
import GoSem.ClaimSeven
namespace Go.Proofs.YtikamdddfpjmaaaDoor
namespace Rows

/-- THE TIED CARD OF 'provenancelaw1.SourcePlaces'. -/
def sourcePlacesCard : Claim7 := { stood := { row := sourcePlacesRow, standIns := [], harness := (true, "b01393df1fd797dd8ae066e83a182b1e5c041bbc5e72af76a47566f70028fb56"), looks := false }, kinds := [], alts := [], laidByText := true, laidKinds := [.data, .pinned], laidTests := true, laidLooks := .later }
def SourcePlacesCardSaid : Prop := Claim7.holds Tryd.pinned (.plain (OpenSpec.ofChange sourcePlacesSpec)) sourcePlacesCard

/-- THE SECOND FORM's CARD OF 'provenancelaw1.SourcePlaces'. -/
def sourcePlacesUptoCard : Claim7 := { stood := { row := sourcePlacesUptoRow, standIns := [], harness := (true, "b01393df1fd797dd8ae066e83a182b1e5c041bbc5e72af76a47566f70028fb56"), looks := false }, kinds := [], alts := [], laidByText := true, laidKinds := [.data, .pinned], laidTests := true, laidLooks := .later }
def SourcePlacesUptoCardSaid : Prop := Claim7.holds Tryd.pinned (.plain (OpenSpec.upto sourcePlacesSpec)) sourcePlacesUptoCard
end Rows
end Go.Proofs.YtikamdddfpjmaaaDoor
