/-
  DERIVED. GIVEN WITH THE SEED: THE CARDS: each row of YtaponemcbnnebaaDoorRows.lean that lists a variable, with what it lists TIED to the program's text (the seventh form; the later family's looks); each row that meets fmt, with fmt's text TOLD by the authors' own Lean function (tested against real Go, not proved from fmt's source: count such statements apart). THE CARD IS WHAT COUNTS. Prove the row's statement (the work); the ties are given (YtaponemcbnnebaaDoorTie.lean); close each card by the builder's one call (the guide's Derived/Test/ToyasCard.lean, 'card_holds'). Laid BY PROGRAM, IN A SANDBOX (cutbox-door.mjs). By AI agents, Wed Nov 11 2026. No macro, syntax, notation, axiom, sorry.
-/
import Derived.Test.YtaponemcbnnebaaDoorRows
import GoSem.ClaimSeven
namespace Go.Proofs.YtaponemcbnnebaaDoor
namespace Rows

/-- THE TIED CARD OF 'provenancelaw1.UnifyValid'. -/
def unifyValidCard : Claim7 := { stood := { row := unifyValidRow, standIns := [], harness := (true, "a3c23f7301dc804002cef7468e6e6b139fd2eda461b74bd20f9befca34fc94ac"), looks := false }, kinds := [], alts := [], laidByText := true, laidKinds := [.data], laidTests := true, laidLooks := .later }
def UnifyValidCardSaid : Prop := Claim7.holds Tryd.pinned (.plain (OpenSpec.ofChange unifyValidSpec)) unifyValidCard

/-- THE TIED CARD OF 'provenancelaw1.KindsOfVars'. -/
def kindsOfVarsCard : Claim7 := { stood := { row := kindsOfVarsRow, standIns := [], harness := (true, "a3c23f7301dc804002cef7468e6e6b139fd2eda461b74bd20f9befca34fc94ac"), looks := false }, kinds := [], alts := [], laidByText := true, laidKinds := [.data], laidTests := true, laidLooks := .later }
def KindsOfVarsCardSaid : Prop := Claim7.holds Tryd.pinned (.plain (OpenSpec.ofChange kindsOfVarsSpec)) kindsOfVarsCard

/-- THE TIED CARD OF 'provenancelaw1.KindsSolved'. -/
def kindsSolvedCard : Claim7 := { stood := { row := kindsSolvedRow, standIns := [], harness := (true, "a3c23f7301dc804002cef7468e6e6b139fd2eda461b74bd20f9befca34fc94ac"), looks := false }, kinds := [], alts := [], laidByText := true, laidKinds := [.data], laidTests := true, laidLooks := .later }
def KindsSolvedCardSaid : Prop := Claim7.holds Tryd.pinned (.plain (OpenSpec.ofChange kindsSolvedSpec)) kindsSolvedCard

/-- THE SECOND FORM's CARD OF 'provenancelaw1.UnifyValid'. -/
def unifyValidUptoCard : Claim7 := { stood := { row := unifyValidUptoRow, standIns := [], harness := (true, "a3c23f7301dc804002cef7468e6e6b139fd2eda461b74bd20f9befca34fc94ac"), looks := false }, kinds := [], alts := [], laidByText := true, laidKinds := [.data], laidTests := true, laidLooks := .later }
def UnifyValidUptoCardSaid : Prop := Claim7.holds Tryd.pinned (.plain (OpenSpec.upto unifyValidSpec)) unifyValidUptoCard

/-- THE SECOND FORM's CARD OF 'provenancelaw1.KindsOfVars'. -/
def kindsOfVarsUptoCard : Claim7 := { stood := { row := kindsOfVarsUptoRow, standIns := [], harness := (true, "a3c23f7301dc804002cef7468e6e6b139fd2eda461b74bd20f9befca34fc94ac"), looks := false }, kinds := [], alts := [], laidByText := true, laidKinds := [.data], laidTests := true, laidLooks := .later }
def KindsOfVarsUptoCardSaid : Prop := Claim7.holds Tryd.pinned (.plain (OpenSpec.upto kindsOfVarsSpec)) kindsOfVarsUptoCard

/-- THE SECOND FORM's CARD OF 'provenancelaw1.KindsSolved'. -/
def kindsSolvedUptoCard : Claim7 := { stood := { row := kindsSolvedUptoRow, standIns := [], harness := (true, "a3c23f7301dc804002cef7468e6e6b139fd2eda461b74bd20f9befca34fc94ac"), looks := false }, kinds := [], alts := [], laidByText := true, laidKinds := [.data], laidTests := true, laidLooks := .later }
def KindsSolvedUptoCardSaid : Prop := Claim7.holds Tryd.pinned (.plain (OpenSpec.upto kindsSolvedSpec)) kindsSolvedUptoCard
end Rows
end Go.Proofs.YtaponemcbnnebaaDoor
