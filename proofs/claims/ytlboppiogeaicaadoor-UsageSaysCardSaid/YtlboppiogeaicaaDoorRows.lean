/-
  NARROWER THAN 'FOR EVERY INPUT', by the rows' own cells (each row's printed sentence says how): CoreChecks: laid · CoreSizes: laid · CoreFree: laid · CoreSame: laid · FlatChecks: laid · PuritySays: laid · FlowSays: laid · UsageSays: laid.
  DERIVED. THE GIVEN ROWS OF THIS SEAT. 8 by the template 'for every input the law returns true; each argument reads behind the call as it read before'; 0 by the template 'total and deterministic' (their statements: YtlboppiogeaicaaDoorTotals.lean).
  GIVEN WITH THE SEED: the statements are not yours to turn. If you find one false, say at which input.
  Laid BY PROGRAM, IN A SANDBOX (cutbox-rows.mjs): the forced cells as the released guide's own fill.sh prints them over the translation 06fc7663de1dc8f4… (all of the seat's roots in one cut). By AI agents, Wed Nov 11 2026. No macro, syntax, notation, axiom, sorry.
-/
import Derived.Test.YtlboppiogeaicaaDoorChecked
import GoSem.Claim
import GoSem.ClaimJoined
import GoSem.ClaimMapViews
import Derived.JoinedTies
import Derived.KernelRfl
namespace Go.Proofs.YtlboppiogeaicaaDoor
/- THE CELL 'sum', in the pinned program and in every row, IS THE sha256 OF THE DUMP (.gsa) THAT YtlboppiogeaicaaDoorProg.lean LOADS. Nothing in Lean hashes anything: it is a label: what it is worth is what the hold of that sum in a sandbox is worth. -/
noncomputable def Tryd.pinned : Pinned := { name := "ytlboppiogeaicaadoor", sum := "06fc7663de1dc8f4d654e8f448499376053cbce3d8414abf7d8228ae4d59bdef", checked := Tryd.checked }
namespace Rows
def none {H : Type} : Left H := { results := [], args := [] }

/- WHAT THE LISTED PACKAGE-LEVEL VARIABLES READ AS WHEN THE CALL BEGINS. Each datum BY PROGRAM (the guide's laid-datum.mjs) off the statement by which the dump's own 'gosem.cut.vars' lays the variable. In a bare row this is a premise. The card (YtlboppiogeaicaaDoorCards.lean) ties it to the program's text. -/
def laid_provenance_core_arity {H : Type} : DataW H := .agg [.lit (.int .i64 2), .lit (.int .i64 2), .lit (.int .i64 2), .lit (.int .i64 2), .lit (.int .i64 2), .lit (.int .i64 2), .lit (.int .i64 2), .lit (.int .i64 1), .lit (.int .i64 2), .lit (.int .i64 1), .lit (.int .i64 2), .lit (.int .i64 3)]
def laid_math_bits_deBruijn64tab {H : Type} : DataW H := .agg [.lit (.int .u8 0), .lit (.int .u8 1), .lit (.int .u8 56), .lit (.int .u8 2), .lit (.int .u8 57), .lit (.int .u8 49), .lit (.int .u8 28), .lit (.int .u8 3), .lit (.int .u8 61), .lit (.int .u8 58), .lit (.int .u8 42), .lit (.int .u8 50), .lit (.int .u8 38), .lit (.int .u8 29), .lit (.int .u8 17), .lit (.int .u8 4), .lit (.int .u8 62), .lit (.int .u8 47), .lit (.int .u8 59), .lit (.int .u8 36), .lit (.int .u8 45), .lit (.int .u8 43), .lit (.int .u8 51), .lit (.int .u8 22), .lit (.int .u8 53), .lit (.int .u8 39), .lit (.int .u8 33), .lit (.int .u8 30), .lit (.int .u8 24), .lit (.int .u8 18), .lit (.int .u8 12), .lit (.int .u8 5), .lit (.int .u8 63), .lit (.int .u8 55), .lit (.int .u8 48), .lit (.int .u8 27), .lit (.int .u8 60), .lit (.int .u8 41), .lit (.int .u8 37), .lit (.int .u8 16), .lit (.int .u8 46), .lit (.int .u8 35), .lit (.int .u8 44), .lit (.int .u8 21), .lit (.int .u8 52), .lit (.int .u8 32), .lit (.int .u8 23), .lit (.int .u8 11), .lit (.int .u8 54), .lit (.int .u8 26), .lit (.int .u8 40), .lit (.int .u8 15), .lit (.int .u8 34), .lit (.int .u8 20), .lit (.int .u8 31), .lit (.int .u8 10), .lit (.int .u8 25), .lit (.int .u8 14), .lit (.int .u8 19), .lit (.int .u8 9), .lit (.int .u8 13), .lit (.int .u8 8), .lit (.int .u8 7), .lit (.int .u8 6)]

/-- 'provenancelaw2.CoreChecks': WHATEVER THE INPUT: true; the input reads as it did. -/
def coreChecksSpec : ChangeSpec := { name := "coreChecks", fn := fun _ => fun
  | [d] => { results := [.lit (.bool true)], args := [d] }
  | _ => none }
def coreChecksRow : OpenClaim := { program := "ytlboppiogeaicaadoor", sum := "06fc7663de1dc8f4d654e8f448499376053cbce3d8414abf7d8228ae4d59bdef", func := "provenance/provenancelaw2.CoreChecks", spec := "coreChecks", unfollowed := true, recurses := true, named := ["provenance/core.arity"], apart := false, laid := [("provenance/core.arity", laid_provenance_core_arity)] }
def CoreChecksSaid : Prop := coreChecksRow.holds Tryd.pinned (OpenSpec.ofChange coreChecksSpec)

/-- ITS FALSE NEIGHBOUR: 'it returns false'. Refute it at one input. -/
def coreChecksWrong : ChangeSpec := { name := "coreChecks", fn := fun _ => fun
  | [d] => { results := [.lit (.bool false)], args := [d] }
  | _ => none }
def CoreChecksWrongFalsely : Prop := coreChecksRow.holds Tryd.pinned (OpenSpec.ofChange coreChecksWrong)

/-- 'provenancelaw2.CoreSizes': WHATEVER THE INPUT: true; the input reads as it did. -/
def coreSizesSpec : ChangeSpec := { name := "coreSizes", fn := fun _ => fun
  | [d1, d2] => { results := [.lit (.bool true)], args := [d1, d2] }
  | _ => none }
def coreSizesRow : OpenClaim := { program := "ytlboppiogeaicaadoor", sum := "06fc7663de1dc8f4d654e8f448499376053cbce3d8414abf7d8228ae4d59bdef", func := "provenance/provenancelaw2.CoreSizes", spec := "coreSizes", unfollowed := true, recurses := true, named := ["provenance/core.arity"], apart := false, laid := [("provenance/core.arity", laid_provenance_core_arity)] }
def CoreSizesSaid : Prop := coreSizesRow.holds Tryd.pinned (OpenSpec.ofChange coreSizesSpec)

/-- ITS FALSE NEIGHBOUR: 'it returns false'. Refute it at one input. -/
def coreSizesWrong : ChangeSpec := { name := "coreSizes", fn := fun _ => fun
  | [d1, d2] => { results := [.lit (.bool false)], args := [d1, d2] }
  | _ => none }
def CoreSizesWrongFalsely : Prop := coreSizesRow.holds Tryd.pinned (OpenSpec.ofChange coreSizesWrong)

/-- 'provenancelaw2.CoreFree': WHATEVER THE INPUT: true; the input reads as it did. -/
def coreFreeSpec : ChangeSpec := { name := "coreFree", fn := fun _ => fun
  | [d1, d2] => { results := [.lit (.bool true)], args := [d1, d2] }
  | _ => none }
def coreFreeRow : OpenClaim := { program := "ytlboppiogeaicaadoor", sum := "06fc7663de1dc8f4d654e8f448499376053cbce3d8414abf7d8228ae4d59bdef", func := "provenance/provenancelaw2.CoreFree", spec := "coreFree", unfollowed := true, recurses := true, named := ["provenance/core.arity"], apart := false, laid := [("provenance/core.arity", laid_provenance_core_arity)] }
def CoreFreeSaid : Prop := coreFreeRow.holds Tryd.pinned (OpenSpec.ofChange coreFreeSpec)

/-- ITS FALSE NEIGHBOUR: 'it returns false'. Refute it at one input. -/
def coreFreeWrong : ChangeSpec := { name := "coreFree", fn := fun _ => fun
  | [d1, d2] => { results := [.lit (.bool false)], args := [d1, d2] }
  | _ => none }
def CoreFreeWrongFalsely : Prop := coreFreeRow.holds Tryd.pinned (OpenSpec.ofChange coreFreeWrong)

/-- 'provenancelaw2.CoreSame': WHATEVER THE INPUT: true; the input reads as it did. -/
def coreSameSpec : ChangeSpec := { name := "coreSame", fn := fun _ => fun
  | [d1, d2] => { results := [.lit (.bool true)], args := [d1, d2] }
  | _ => none }
def coreSameRow : OpenClaim := { program := "ytlboppiogeaicaadoor", sum := "06fc7663de1dc8f4d654e8f448499376053cbce3d8414abf7d8228ae4d59bdef", func := "provenance/provenancelaw2.CoreSame", spec := "coreSame", unfollowed := true, recurses := true, named := ["provenance/core.arity"], apart := false, laid := [("provenance/core.arity", laid_provenance_core_arity)] }
def CoreSameSaid : Prop := coreSameRow.holds Tryd.pinned (OpenSpec.ofChange coreSameSpec)

/-- ITS FALSE NEIGHBOUR: 'it returns false'. Refute it at one input. -/
def coreSameWrong : ChangeSpec := { name := "coreSame", fn := fun _ => fun
  | [d1, d2] => { results := [.lit (.bool false)], args := [d1, d2] }
  | _ => none }
def CoreSameWrongFalsely : Prop := coreSameRow.holds Tryd.pinned (OpenSpec.ofChange coreSameWrong)

/-- 'provenancelaw2.FlatChecks': WHATEVER THE INPUT: true; the input reads as it did. -/
def flatChecksSpec : ChangeSpec := { name := "flatChecks", fn := fun _ => fun
  | [d] => { results := [.lit (.bool true)], args := [d] }
  | _ => none }
def flatChecksRow : OpenClaim := { program := "ytlboppiogeaicaadoor", sum := "06fc7663de1dc8f4d654e8f448499376053cbce3d8414abf7d8228ae4d59bdef", func := "provenance/provenancelaw2.FlatChecks", spec := "flatChecks", unfollowed := true, recurses := true, named := ["provenance/core.arity"], apart := false, laid := [("provenance/core.arity", laid_provenance_core_arity)] }
def FlatChecksSaid : Prop := flatChecksRow.holds Tryd.pinned (OpenSpec.ofChange flatChecksSpec)

/-- ITS FALSE NEIGHBOUR: 'it returns false'. Refute it at one input. -/
def flatChecksWrong : ChangeSpec := { name := "flatChecks", fn := fun _ => fun
  | [d] => { results := [.lit (.bool false)], args := [d] }
  | _ => none }
def FlatChecksWrongFalsely : Prop := flatChecksRow.holds Tryd.pinned (OpenSpec.ofChange flatChecksWrong)

/-- 'provenancelaw2.PuritySays': WHATEVER THE INPUT: true; the input reads as it did. -/
def puritySaysSpec : ChangeSpec := { name := "puritySays", fn := fun _ => fun
  | [d] => { results := [.lit (.bool true)], args := [d] }
  | _ => none }
def puritySaysRow : OpenClaim := { program := "ytlboppiogeaicaadoor", sum := "06fc7663de1dc8f4d654e8f448499376053cbce3d8414abf7d8228ae4d59bdef", func := "provenance/provenancelaw2.PuritySays", spec := "puritySays", unfollowed := true, recurses := true, named := ["provenance/core.arity"], apart := false, laid := [("provenance/core.arity", laid_provenance_core_arity)] }
def PuritySaysSaid : Prop := puritySaysRow.holds Tryd.pinned (OpenSpec.ofChange puritySaysSpec)

/-- ITS FALSE NEIGHBOUR: 'it returns false'. Refute it at one input. -/
def puritySaysWrong : ChangeSpec := { name := "puritySays", fn := fun _ => fun
  | [d] => { results := [.lit (.bool false)], args := [d] }
  | _ => none }
def PuritySaysWrongFalsely : Prop := puritySaysRow.holds Tryd.pinned (OpenSpec.ofChange puritySaysWrong)

/-- 'provenancelaw2.FlowSays': WHATEVER THE INPUT: true; the input reads as it did. -/
def flowSaysSpec : ChangeSpec := { name := "flowSays", fn := fun _ => fun
  | [d] => { results := [.lit (.bool true)], args := [d] }
  | _ => none }
def flowSaysRow : OpenClaim := { program := "ytlboppiogeaicaadoor", sum := "06fc7663de1dc8f4d654e8f448499376053cbce3d8414abf7d8228ae4d59bdef", func := "provenance/provenancelaw2.FlowSays", spec := "flowSays", unfollowed := true, recurses := true, named := ["provenance/core.arity", "math/bits.deBruijn64tab"], apart := false, laid := [("math/bits.deBruijn64tab", laid_math_bits_deBruijn64tab), ("provenance/core.arity", laid_provenance_core_arity)] }
def FlowSaysSaid : Prop := flowSaysRow.holds Tryd.pinned (OpenSpec.ofChange flowSaysSpec)

/-- ITS FALSE NEIGHBOUR: 'it returns false'. Refute it at one input. -/
def flowSaysWrong : ChangeSpec := { name := "flowSays", fn := fun _ => fun
  | [d] => { results := [.lit (.bool false)], args := [d] }
  | _ => none }
def FlowSaysWrongFalsely : Prop := flowSaysRow.holds Tryd.pinned (OpenSpec.ofChange flowSaysWrong)

/-- 'provenancelaw2.UsageSays': WHATEVER THE INPUT: true; the input reads as it did. -/
def usageSaysSpec : ChangeSpec := { name := "usageSays", fn := fun _ => fun
  | [d] => { results := [.lit (.bool true)], args := [d] }
  | _ => none }
def usageSaysRow : OpenClaim := { program := "ytlboppiogeaicaadoor", sum := "06fc7663de1dc8f4d654e8f448499376053cbce3d8414abf7d8228ae4d59bdef", func := "provenance/provenancelaw2.UsageSays", spec := "usageSays", unfollowed := true, recurses := true, named := ["provenance/core.arity"], apart := false, laid := [("provenance/core.arity", laid_provenance_core_arity)] }
def UsageSaysSaid : Prop := usageSaysRow.holds Tryd.pinned (OpenSpec.ofChange usageSaysSpec)

/-- ITS FALSE NEIGHBOUR: 'it returns false'. Refute it at one input. -/
def usageSaysWrong : ChangeSpec := { name := "usageSays", fn := fun _ => fun
  | [d] => { results := [.lit (.bool false)], args := [d] }
  | _ => none }
def UsageSaysWrongFalsely : Prop := usageSaysRow.holds Tryd.pinned (OpenSpec.ofChange usageSaysWrong)

/- THE SECOND FORM. 'bulk': how many values and letters a reading holds, each counted each time it is reached (what is shared counts as often as it is met; a slice's spare places count too). A statement '..UptoSaid' is the law's where the arguments, and the package variables that the reading takes, are together of bulk at most 1048576: NARROWER than '..Said'. Prove '..Said' where nothing that the law and all that it calls make is longer than what came in: it says more and counts as full. Else prove '..UptoSaid'. A law counts once. -/
mutual
def uptoBulk {H : Type} : DataW H → Nat
  | .lit (.string bytes) => bytes.length + 1
  | .lit _ => 1
  | .nil => 1
  | .ptr d => uptoBulk d + 1
  | .slice elems spare => uptoBulkAll elems + uptoBulkAll spare + 1
  | .agg parts => uptoBulkAll parts + 1
  | .iface _ d => uptoBulk d + 1
  | .map entries => uptoBulkEntries entries + 1
  | .held _ => 1
def uptoBulkAll {H : Type} : List (DataW H) → Nat
  | [] => 0
  | d :: r => uptoBulk d + uptoBulkAll r
def uptoBulkEntries {H : Type} : List (Lit × DataW H) → Nat
  | [] => 0
  | x :: r => uptoBulkEntry x + uptoBulkEntries r
def uptoBulkEntry {H : Type} : Lit × DataW H → Nat
  | (.string bytes, d) => bytes.length + uptoBulk d + 1
  | (_, d) => uptoBulk d + 1
 end
def uptoSmall : (H : Type) → List (DataW H) → Bool := fun _ ds => decide (uptoBulkAll ds ≤ 1048576)
def OpenSpec.upto (s : _root_.Go.ChangeSpec) : _root_.Go.OpenSpec := { _root_.Go.OpenSpec.ofChange s with cond := some uptoSmall }

/-- 'provenancelaw2.CoreChecks', WHERE WHAT IT READS IS OF BULK AT MOST 1048576: true; the input reads as it did. -/
def coreChecksUptoRow : OpenClaim := { program := "ytlboppiogeaicaadoor", sum := "06fc7663de1dc8f4d654e8f448499376053cbce3d8414abf7d8228ae4d59bdef", func := "provenance/provenancelaw2.CoreChecks", spec := "coreChecks", unfollowed := true, recurses := true, named := ["provenance/core.arity"], apart := false, laid := [("provenance/core.arity", laid_provenance_core_arity)], narrowed := true }
def CoreChecksUptoSaid : Prop := coreChecksUptoRow.holds Tryd.pinned (OpenSpec.upto coreChecksSpec)

/-- 'provenancelaw2.CoreSizes', WHERE WHAT IT READS IS OF BULK AT MOST 1048576: true; the input reads as it did. -/
def coreSizesUptoRow : OpenClaim := { program := "ytlboppiogeaicaadoor", sum := "06fc7663de1dc8f4d654e8f448499376053cbce3d8414abf7d8228ae4d59bdef", func := "provenance/provenancelaw2.CoreSizes", spec := "coreSizes", unfollowed := true, recurses := true, named := ["provenance/core.arity"], apart := false, laid := [("provenance/core.arity", laid_provenance_core_arity)], narrowed := true }
def CoreSizesUptoSaid : Prop := coreSizesUptoRow.holds Tryd.pinned (OpenSpec.upto coreSizesSpec)

/-- 'provenancelaw2.CoreFree', WHERE WHAT IT READS IS OF BULK AT MOST 1048576: true; the input reads as it did. -/
def coreFreeUptoRow : OpenClaim := { program := "ytlboppiogeaicaadoor", sum := "06fc7663de1dc8f4d654e8f448499376053cbce3d8414abf7d8228ae4d59bdef", func := "provenance/provenancelaw2.CoreFree", spec := "coreFree", unfollowed := true, recurses := true, named := ["provenance/core.arity"], apart := false, laid := [("provenance/core.arity", laid_provenance_core_arity)], narrowed := true }
def CoreFreeUptoSaid : Prop := coreFreeUptoRow.holds Tryd.pinned (OpenSpec.upto coreFreeSpec)

/-- 'provenancelaw2.CoreSame', WHERE WHAT IT READS IS OF BULK AT MOST 1048576: true; the input reads as it did. -/
def coreSameUptoRow : OpenClaim := { program := "ytlboppiogeaicaadoor", sum := "06fc7663de1dc8f4d654e8f448499376053cbce3d8414abf7d8228ae4d59bdef", func := "provenance/provenancelaw2.CoreSame", spec := "coreSame", unfollowed := true, recurses := true, named := ["provenance/core.arity"], apart := false, laid := [("provenance/core.arity", laid_provenance_core_arity)], narrowed := true }
def CoreSameUptoSaid : Prop := coreSameUptoRow.holds Tryd.pinned (OpenSpec.upto coreSameSpec)

/-- 'provenancelaw2.FlatChecks', WHERE WHAT IT READS IS OF BULK AT MOST 1048576: true; the input reads as it did. -/
def flatChecksUptoRow : OpenClaim := { program := "ytlboppiogeaicaadoor", sum := "06fc7663de1dc8f4d654e8f448499376053cbce3d8414abf7d8228ae4d59bdef", func := "provenance/provenancelaw2.FlatChecks", spec := "flatChecks", unfollowed := true, recurses := true, named := ["provenance/core.arity"], apart := false, laid := [("provenance/core.arity", laid_provenance_core_arity)], narrowed := true }
def FlatChecksUptoSaid : Prop := flatChecksUptoRow.holds Tryd.pinned (OpenSpec.upto flatChecksSpec)

/-- 'provenancelaw2.PuritySays', WHERE WHAT IT READS IS OF BULK AT MOST 1048576: true; the input reads as it did. -/
def puritySaysUptoRow : OpenClaim := { program := "ytlboppiogeaicaadoor", sum := "06fc7663de1dc8f4d654e8f448499376053cbce3d8414abf7d8228ae4d59bdef", func := "provenance/provenancelaw2.PuritySays", spec := "puritySays", unfollowed := true, recurses := true, named := ["provenance/core.arity"], apart := false, laid := [("provenance/core.arity", laid_provenance_core_arity)], narrowed := true }
def PuritySaysUptoSaid : Prop := puritySaysUptoRow.holds Tryd.pinned (OpenSpec.upto puritySaysSpec)

/-- 'provenancelaw2.FlowSays', WHERE WHAT IT READS IS OF BULK AT MOST 1048576: true; the input reads as it did. -/
def flowSaysUptoRow : OpenClaim := { program := "ytlboppiogeaicaadoor", sum := "06fc7663de1dc8f4d654e8f448499376053cbce3d8414abf7d8228ae4d59bdef", func := "provenance/provenancelaw2.FlowSays", spec := "flowSays", unfollowed := true, recurses := true, named := ["provenance/core.arity", "math/bits.deBruijn64tab"], apart := false, laid := [("math/bits.deBruijn64tab", laid_math_bits_deBruijn64tab), ("provenance/core.arity", laid_provenance_core_arity)], narrowed := true }
def FlowSaysUptoSaid : Prop := flowSaysUptoRow.holds Tryd.pinned (OpenSpec.upto flowSaysSpec)

/-- 'provenancelaw2.UsageSays', WHERE WHAT IT READS IS OF BULK AT MOST 1048576: true; the input reads as it did. -/
def usageSaysUptoRow : OpenClaim := { program := "ytlboppiogeaicaadoor", sum := "06fc7663de1dc8f4d654e8f448499376053cbce3d8414abf7d8228ae4d59bdef", func := "provenance/provenancelaw2.UsageSays", spec := "usageSays", unfollowed := true, recurses := true, named := ["provenance/core.arity"], apart := false, laid := [("provenance/core.arity", laid_provenance_core_arity)], narrowed := true }
def UsageSaysUptoSaid : Prop := usageSaysUptoRow.holds Tryd.pinned (OpenSpec.upto usageSaysSpec)

end Rows
end Go.Proofs.YtlboppiogeaicaaDoor
