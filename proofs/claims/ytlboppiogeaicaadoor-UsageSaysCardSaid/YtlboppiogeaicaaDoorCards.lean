/-
  DERIVED. GIVEN WITH THE SEED: THE CARDS: each row of YtlboppiogeaicaaDoorRows.lean that lists a variable, with what it lists TIED to the program's text (the seventh form; the later family's looks); each row that meets fmt, with fmt's text TOLD by the authors' own Lean function (tested against real Go, not proved from fmt's source: count such statements apart). THE CARD IS WHAT COUNTS. Prove the row's statement (the work); the ties are given (YtlboppiogeaicaaDoorTie.lean); close each card by the builder's one call (the guide's Derived/Test/ToyasCard.lean, 'card_holds'). Laid BY PROGRAM, IN A SANDBOX (cutbox-door.mjs). By AI agents, Wed Nov 11 2026. No macro, syntax, notation, axiom, sorry.
-/
import Derived.Test.YtlboppiogeaicaaDoorRows
import GoSem.ClaimSeven
namespace Go.Proofs.YtlboppiogeaicaaDoor
namespace Rows

/-- THE TIED CARD OF 'provenancelaw2.CoreChecks'. -/
def coreChecksCard : Claim7 := { stood := { row := coreChecksRow, standIns := [], harness := (true, "927759bd2341c6203cfce216d124bf8dd9196f0e5b0056a61003d4d5d5667e37"), looks := false }, kinds := [], alts := [], laidByText := true, laidKinds := [.data], laidTests := true, laidLooks := .later }
def CoreChecksCardSaid : Prop := Claim7.holds Tryd.pinned (.plain (OpenSpec.ofChange coreChecksSpec)) coreChecksCard

/-- THE TIED CARD OF 'provenancelaw2.CoreSizes'. -/
def coreSizesCard : Claim7 := { stood := { row := coreSizesRow, standIns := [], harness := (true, "927759bd2341c6203cfce216d124bf8dd9196f0e5b0056a61003d4d5d5667e37"), looks := false }, kinds := [], alts := [], laidByText := true, laidKinds := [.data], laidTests := true, laidLooks := .later }
def CoreSizesCardSaid : Prop := Claim7.holds Tryd.pinned (.plain (OpenSpec.ofChange coreSizesSpec)) coreSizesCard

/-- THE TIED CARD OF 'provenancelaw2.CoreFree'. -/
def coreFreeCard : Claim7 := { stood := { row := coreFreeRow, standIns := [], harness := (true, "927759bd2341c6203cfce216d124bf8dd9196f0e5b0056a61003d4d5d5667e37"), looks := false }, kinds := [], alts := [], laidByText := true, laidKinds := [.data], laidTests := true, laidLooks := .later }
def CoreFreeCardSaid : Prop := Claim7.holds Tryd.pinned (.plain (OpenSpec.ofChange coreFreeSpec)) coreFreeCard

/-- THE TIED CARD OF 'provenancelaw2.CoreSame'. -/
def coreSameCard : Claim7 := { stood := { row := coreSameRow, standIns := [], harness := (true, "927759bd2341c6203cfce216d124bf8dd9196f0e5b0056a61003d4d5d5667e37"), looks := false }, kinds := [], alts := [], laidByText := true, laidKinds := [.data], laidTests := true, laidLooks := .later }
def CoreSameCardSaid : Prop := Claim7.holds Tryd.pinned (.plain (OpenSpec.ofChange coreSameSpec)) coreSameCard

/-- THE TIED CARD OF 'provenancelaw2.FlatChecks'. -/
def flatChecksCard : Claim7 := { stood := { row := flatChecksRow, standIns := [], harness := (true, "927759bd2341c6203cfce216d124bf8dd9196f0e5b0056a61003d4d5d5667e37"), looks := false }, kinds := [], alts := [], laidByText := true, laidKinds := [.data], laidTests := true, laidLooks := .later }
def FlatChecksCardSaid : Prop := Claim7.holds Tryd.pinned (.plain (OpenSpec.ofChange flatChecksSpec)) flatChecksCard

/-- THE TIED CARD OF 'provenancelaw2.PuritySays'. -/
def puritySaysCard : Claim7 := { stood := { row := puritySaysRow, standIns := [], harness := (true, "927759bd2341c6203cfce216d124bf8dd9196f0e5b0056a61003d4d5d5667e37"), looks := false }, kinds := [], alts := [], laidByText := true, laidKinds := [.data], laidTests := true, laidLooks := .later }
def PuritySaysCardSaid : Prop := Claim7.holds Tryd.pinned (.plain (OpenSpec.ofChange puritySaysSpec)) puritySaysCard

/-- THE TIED CARD OF 'provenancelaw2.FlowSays'. -/
def flowSaysCard : Claim7 := { stood := { row := flowSaysRow, standIns := [], harness := (true, "927759bd2341c6203cfce216d124bf8dd9196f0e5b0056a61003d4d5d5667e37"), looks := false }, kinds := [], alts := [], laidByText := true, laidKinds := [.data, .data], laidTests := true, laidLooks := .later }
def FlowSaysCardSaid : Prop := Claim7.holds Tryd.pinned (.plain (OpenSpec.ofChange flowSaysSpec)) flowSaysCard

/-- THE TIED CARD OF 'provenancelaw2.UsageSays'. -/
def usageSaysCard : Claim7 := { stood := { row := usageSaysRow, standIns := [], harness := (true, "927759bd2341c6203cfce216d124bf8dd9196f0e5b0056a61003d4d5d5667e37"), looks := false }, kinds := [], alts := [], laidByText := true, laidKinds := [.data], laidTests := true, laidLooks := .later }
def UsageSaysCardSaid : Prop := Claim7.holds Tryd.pinned (.plain (OpenSpec.ofChange usageSaysSpec)) usageSaysCard

/-- THE SECOND FORM's CARD OF 'provenancelaw2.CoreChecks'. -/
def coreChecksUptoCard : Claim7 := { stood := { row := coreChecksUptoRow, standIns := [], harness := (true, "927759bd2341c6203cfce216d124bf8dd9196f0e5b0056a61003d4d5d5667e37"), looks := false }, kinds := [], alts := [], laidByText := true, laidKinds := [.data], laidTests := true, laidLooks := .later }
def CoreChecksUptoCardSaid : Prop := Claim7.holds Tryd.pinned (.plain (OpenSpec.upto coreChecksSpec)) coreChecksUptoCard

/-- THE SECOND FORM's CARD OF 'provenancelaw2.CoreSizes'. -/
def coreSizesUptoCard : Claim7 := { stood := { row := coreSizesUptoRow, standIns := [], harness := (true, "927759bd2341c6203cfce216d124bf8dd9196f0e5b0056a61003d4d5d5667e37"), looks := false }, kinds := [], alts := [], laidByText := true, laidKinds := [.data], laidTests := true, laidLooks := .later }
def CoreSizesUptoCardSaid : Prop := Claim7.holds Tryd.pinned (.plain (OpenSpec.upto coreSizesSpec)) coreSizesUptoCard

/-- THE SECOND FORM's CARD OF 'provenancelaw2.CoreFree'. -/
def coreFreeUptoCard : Claim7 := { stood := { row := coreFreeUptoRow, standIns := [], harness := (true, "927759bd2341c6203cfce216d124bf8dd9196f0e5b0056a61003d4d5d5667e37"), looks := false }, kinds := [], alts := [], laidByText := true, laidKinds := [.data], laidTests := true, laidLooks := .later }
def CoreFreeUptoCardSaid : Prop := Claim7.holds Tryd.pinned (.plain (OpenSpec.upto coreFreeSpec)) coreFreeUptoCard

/-- THE SECOND FORM's CARD OF 'provenancelaw2.CoreSame'. -/
def coreSameUptoCard : Claim7 := { stood := { row := coreSameUptoRow, standIns := [], harness := (true, "927759bd2341c6203cfce216d124bf8dd9196f0e5b0056a61003d4d5d5667e37"), looks := false }, kinds := [], alts := [], laidByText := true, laidKinds := [.data], laidTests := true, laidLooks := .later }
def CoreSameUptoCardSaid : Prop := Claim7.holds Tryd.pinned (.plain (OpenSpec.upto coreSameSpec)) coreSameUptoCard

/-- THE SECOND FORM's CARD OF 'provenancelaw2.FlatChecks'. -/
def flatChecksUptoCard : Claim7 := { stood := { row := flatChecksUptoRow, standIns := [], harness := (true, "927759bd2341c6203cfce216d124bf8dd9196f0e5b0056a61003d4d5d5667e37"), looks := false }, kinds := [], alts := [], laidByText := true, laidKinds := [.data], laidTests := true, laidLooks := .later }
def FlatChecksUptoCardSaid : Prop := Claim7.holds Tryd.pinned (.plain (OpenSpec.upto flatChecksSpec)) flatChecksUptoCard

/-- THE SECOND FORM's CARD OF 'provenancelaw2.PuritySays'. -/
def puritySaysUptoCard : Claim7 := { stood := { row := puritySaysUptoRow, standIns := [], harness := (true, "927759bd2341c6203cfce216d124bf8dd9196f0e5b0056a61003d4d5d5667e37"), looks := false }, kinds := [], alts := [], laidByText := true, laidKinds := [.data], laidTests := true, laidLooks := .later }
def PuritySaysUptoCardSaid : Prop := Claim7.holds Tryd.pinned (.plain (OpenSpec.upto puritySaysSpec)) puritySaysUptoCard

/-- THE SECOND FORM's CARD OF 'provenancelaw2.FlowSays'. -/
def flowSaysUptoCard : Claim7 := { stood := { row := flowSaysUptoRow, standIns := [], harness := (true, "927759bd2341c6203cfce216d124bf8dd9196f0e5b0056a61003d4d5d5667e37"), looks := false }, kinds := [], alts := [], laidByText := true, laidKinds := [.data, .data], laidTests := true, laidLooks := .later }
def FlowSaysUptoCardSaid : Prop := Claim7.holds Tryd.pinned (.plain (OpenSpec.upto flowSaysSpec)) flowSaysUptoCard

/-- THE SECOND FORM's CARD OF 'provenancelaw2.UsageSays'. -/
def usageSaysUptoCard : Claim7 := { stood := { row := usageSaysUptoRow, standIns := [], harness := (true, "927759bd2341c6203cfce216d124bf8dd9196f0e5b0056a61003d4d5d5667e37"), looks := false }, kinds := [], alts := [], laidByText := true, laidKinds := [.data], laidTests := true, laidLooks := .later }
def UsageSaysUptoCardSaid : Prop := Claim7.holds Tryd.pinned (.plain (OpenSpec.upto usageSaysSpec)) usageSaysUptoCard
end Rows
end Go.Proofs.YtlboppiogeaicaaDoor
