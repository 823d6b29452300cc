/-
  No cell of these rows narrows 'for every input' (looked for: loops, veiled, ifaces, maps, wideKeys, modest, calm, conditions, laid).
  DERIVED. THE GIVEN ROWS OF THIS SEAT. 3 by the template 'for every input the law returns true; each argument reads behind the call as it read before'; 0 by the template 'total and deterministic' (their statements: YtlcclcakdfmgkaaTotals.lean).
  GIVEN WITH THE SEED: the statements are not yours to turn. If you find one false, say at which input.
  Laid BY PROGRAM, IN A SANDBOX (cutbox-rows.mjs): the forced cells as the released guide's own fill.sh prints them over the translation 67be237edde0bc4e… (all of the seat's roots in one cut). By AI agents, Wed Nov 11 2026. No macro, syntax, notation, axiom, sorry.
-/
import Derived.Test.YtlcclcakdfmgkaaChecked
import GoSem.Claim
import GoSem.ClaimJoined
import GoSem.ClaimMapViews
import Derived.JoinedTies
import Derived.KernelRfl
namespace Go.Proofs.Ytlcclcakdfmgkaa
/- THE CELL 'sum', in the pinned program and in every row, IS THE sha256 OF THE DUMP (.gsa) THAT YtlcclcakdfmgkaaProg.lean LOADS. Nothing in Lean hashes anything: it is a label: what it is worth is what the hold of that sum in a sandbox is worth. -/
noncomputable def Try.pinned : Pinned := { name := "ytlcclcakdfmgkaa", sum := "67be237edde0bc4e3ab4508d97cb5267fced54ddb7e1ace43a9aad8ebc6c0b11", checked := Try.checked }
namespace Rows
def none {H : Type} : Left H := { results := [], args := [] }

/-- 'provenancelaw1.StoreScript': WHATEVER THE INPUT: true; the input reads as it did. -/
def storeScriptSpec : ChangeSpec := { name := "storeScript", fn := fun _ => fun
  | [d1, d2] => { results := [.lit (.bool true)], args := [d1, d2] }
  | _ => none }
def storeScriptRow : OpenClaim := { program := "ytlcclcakdfmgkaa", sum := "67be237edde0bc4e3ab4508d97cb5267fced54ddb7e1ace43a9aad8ebc6c0b11", func := "provenance/provenancelaw1.StoreScript", spec := "storeScript", apart := false }
def StoreScriptSaid : Prop := storeScriptRow.holds Try.pinned (OpenSpec.ofChange storeScriptSpec)

/-- ITS FALSE NEIGHBOUR: 'it returns false'. Refute it at one input. -/
def storeScriptWrong : ChangeSpec := { name := "storeScript", fn := fun _ => fun
  | [d1, d2] => { results := [.lit (.bool false)], args := [d1, d2] }
  | _ => none }
def StoreScriptWrongFalsely : Prop := storeScriptRow.holds Try.pinned (OpenSpec.ofChange storeScriptWrong)

/-- 'provenancelaw1.LayoutBlocks': WHATEVER THE INPUT: true; the input reads as it did. -/
def layoutBlocksSpec : ChangeSpec := { name := "layoutBlocks", fn := fun _ => fun
  | [d] => { results := [.lit (.bool true)], args := [d] }
  | _ => none }
def layoutBlocksRow : OpenClaim := { program := "ytlcclcakdfmgkaa", sum := "67be237edde0bc4e3ab4508d97cb5267fced54ddb7e1ace43a9aad8ebc6c0b11", func := "provenance/provenancelaw1.LayoutBlocks", spec := "layoutBlocks", unfollowed := true, recurses := true, apart := false }
def LayoutBlocksSaid : Prop := layoutBlocksRow.holds Try.pinned (OpenSpec.ofChange layoutBlocksSpec)

/-- ITS FALSE NEIGHBOUR: 'it returns false'. Refute it at one input. -/
def layoutBlocksWrong : ChangeSpec := { name := "layoutBlocks", fn := fun _ => fun
  | [d] => { results := [.lit (.bool false)], args := [d] }
  | _ => none }
def LayoutBlocksWrongFalsely : Prop := layoutBlocksRow.holds Try.pinned (OpenSpec.ofChange layoutBlocksWrong)

/-- 'provenancelaw1.PrinterChecks': WHATEVER THE INPUT: true; the input reads as it did. -/
def printerChecksSpec : ChangeSpec := { name := "printerChecks", fn := fun _ => fun
  | [d] => { results := [.lit (.bool true)], args := [d] }
  | _ => none }
def printerChecksRow : OpenClaim := { program := "ytlcclcakdfmgkaa", sum := "67be237edde0bc4e3ab4508d97cb5267fced54ddb7e1ace43a9aad8ebc6c0b11", func := "provenance/provenancelaw1.PrinterChecks", spec := "printerChecks", inPlace := ["internal/bytealg.IndexByteString"], unfollowed := true, recurses := true, apart := false }
def PrinterChecksSaid : Prop := printerChecksRow.holds Try.pinned (OpenSpec.ofChange printerChecksSpec)

/-- ITS FALSE NEIGHBOUR: 'it returns false'. Refute it at one input. -/
def printerChecksWrong : ChangeSpec := { name := "printerChecks", fn := fun _ => fun
  | [d] => { results := [.lit (.bool false)], args := [d] }
  | _ => none }
def PrinterChecksWrongFalsely : Prop := printerChecksRow.holds Try.pinned (OpenSpec.ofChange printerChecksWrong)

/- THE SECOND FORM. 'bulk': how many values and letters a reading holds, each counted each time it is reached (what is shared counts as often as it is met; a slice's spare places count too). A statement '..UptoSaid' is the law's where the arguments, and the package variables that the reading takes, are together of bulk at most 1048576: NARROWER than '..Said'. Prove '..Said' where nothing that the law and all that it calls make is longer than what came in: it says more and counts as full. Else prove '..UptoSaid'. A law counts once. -/
mutual
def uptoBulk {H : Type} : DataW H → Nat
  | .lit (.string bytes) => bytes.length + 1
  | .lit _ => 1
  | .nil => 1
  | .ptr d => uptoBulk d + 1
  | .slice elems spare => uptoBulkAll elems + uptoBulkAll spare + 1
  | .agg parts => uptoBulkAll parts + 1
  | .iface _ d => uptoBulk d + 1
  | .map entries => uptoBulkEntries entries + 1
  | .held _ => 1
def uptoBulkAll {H : Type} : List (DataW H) → Nat
  | [] => 0
  | d :: r => uptoBulk d + uptoBulkAll r
def uptoBulkEntries {H : Type} : List (Lit × DataW H) → Nat
  | [] => 0
  | x :: r => uptoBulkEntry x + uptoBulkEntries r
def uptoBulkEntry {H : Type} : Lit × DataW H → Nat
  | (.string bytes, d) => bytes.length + uptoBulk d + 1
  | (_, d) => uptoBulk d + 1
 end
def uptoSmall : (H : Type) → List (DataW H) → Bool := fun _ ds => decide (uptoBulkAll ds ≤ 1048576)
def OpenSpec.upto (s : _root_.Go.ChangeSpec) : _root_.Go.OpenSpec := { _root_.Go.OpenSpec.ofChange s with cond := some uptoSmall }

/-- 'provenancelaw1.StoreScript', WHERE WHAT IT READS IS OF BULK AT MOST 1048576: true; the input reads as it did. -/
def storeScriptUptoRow : OpenClaim := { program := "ytlcclcakdfmgkaa", sum := "67be237edde0bc4e3ab4508d97cb5267fced54ddb7e1ace43a9aad8ebc6c0b11", func := "provenance/provenancelaw1.StoreScript", spec := "storeScript", apart := false, narrowed := true }
def StoreScriptUptoSaid : Prop := storeScriptUptoRow.holds Try.pinned (OpenSpec.upto storeScriptSpec)

/-- 'provenancelaw1.LayoutBlocks', WHERE WHAT IT READS IS OF BULK AT MOST 1048576: true; the input reads as it did. -/
def layoutBlocksUptoRow : OpenClaim := { program := "ytlcclcakdfmgkaa", sum := "67be237edde0bc4e3ab4508d97cb5267fced54ddb7e1ace43a9aad8ebc6c0b11", func := "provenance/provenancelaw1.LayoutBlocks", spec := "layoutBlocks", unfollowed := true, recurses := true, apart := false, narrowed := true }
def LayoutBlocksUptoSaid : Prop := layoutBlocksUptoRow.holds Try.pinned (OpenSpec.upto layoutBlocksSpec)

/-- 'provenancelaw1.PrinterChecks', WHERE WHAT IT READS IS OF BULK AT MOST 1048576: true; the input reads as it did. -/
def printerChecksUptoRow : OpenClaim := { program := "ytlcclcakdfmgkaa", sum := "67be237edde0bc4e3ab4508d97cb5267fced54ddb7e1ace43a9aad8ebc6c0b11", func := "provenance/provenancelaw1.PrinterChecks", spec := "printerChecks", inPlace := ["internal/bytealg.IndexByteString"], unfollowed := true, recurses := true, apart := false, narrowed := true }
def PrinterChecksUptoSaid : Prop := printerChecksUptoRow.holds Try.pinned (OpenSpec.upto printerChecksSpec)

end Rows
end Go.Proofs.Ytlcclcakdfmgkaa
