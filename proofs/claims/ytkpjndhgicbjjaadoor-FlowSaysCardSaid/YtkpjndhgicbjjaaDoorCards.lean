/-
  DERIVED. GIVEN WITH THE SEED: THE CARDS: each row of YtkpjndhgicbjjaaDoorRows.lean that lists a variable, with what it lists TIED to the program's text (the seventh form; the later family's looks); each row that meets fmt, with fmt's text TOLD by the authors' own Lean function (tested against real Go, not proved from fmt's source: count such statements apart). THE CARD IS WHAT COUNTS. Prove the row's statement (the work); the ties are given (YtkpjndhgicbjjaaDoorTie.lean); close each card by the builder's one call (the guide's Derived/Test/ToyasCard.lean, 'card_holds'). Laid BY PROGRAM, IN A SANDBOX (cutbox-door.mjs). By AI agents, Wed Nov 11 2026. No macro, syntax, notation, axiom, sorry.
-/
import Derived.Test.YtkpjndhgicbjjaaDoorRows
import GoSem.ClaimSeven
namespace Go.Proofs.YtkpjndhgicbjjaaDoor
namespace Rows

/-- THE TIED CARD OF 'provenancelaw2.FlowSays'. -/
def flowSaysCard : Claim7 := { stood := { row := flowSaysRow, standIns := [], harness := (true, "e72c7fd4ddf53d12361ea53f70e2eda68175c0af4580d29dda7cb0822af980e1"), looks := false }, kinds := [], alts := [], laidByText := true, laidKinds := [.data, .data], laidTests := true, laidLooks := .later }
def FlowSaysCardSaid : Prop := Claim7.holds Tryd.pinned (.plain (OpenSpec.ofChange flowSaysSpec)) flowSaysCard

/-- THE SECOND FORM's CARD OF 'provenancelaw2.FlowSays'. -/
def flowSaysUptoCard : Claim7 := { stood := { row := flowSaysUptoRow, standIns := [], harness := (true, "e72c7fd4ddf53d12361ea53f70e2eda68175c0af4580d29dda7cb0822af980e1"), looks := false }, kinds := [], alts := [], laidByText := true, laidKinds := [.data, .data], laidTests := true, laidLooks := .later }
def FlowSaysUptoCardSaid : Prop := Claim7.holds Tryd.pinned (.plain (OpenSpec.upto flowSaysSpec)) flowSaysUptoCard
end Rows
end Go.Proofs.YtkpjndhgicbjjaaDoor
