/-
  NARROWER THAN 'FOR EVERY INPUT', by the rows' own cells (each row's printed sentence says how): UnifyValid: loops, laid · KindsOfVars: loops, laid · KindsSolved: loops, laid.
  DERIVED. THE GIVEN ROWS OF THIS SEAT. 3 by the template 'for every input the law returns true; each argument reads behind the call as it read before'; 0 by the template 'total and deterministic' (their statements: YtaponemcbnnebaaDoorTotals.lean).
  GIVEN WITH THE SEED: the statements are not yours to turn. If you find one false, say at which input.
  Laid BY PROGRAM, IN A SANDBOX (cutbox-rows.mjs): the forced cells as the released guide's own fill.sh prints them over the translation 27fcf7752ac0d624… (all of the seat's roots in one cut). By AI agents, Wed Nov 11 2026. No macro, syntax, notation, axiom, sorry.
-/
import Derived.Test.YtaponemcbnnebaaDoorChecked
import GoSem.Claim
import GoSem.ClaimJoined
import GoSem.ClaimMapViews
import Derived.JoinedTies
import Derived.KernelRfl
namespace Go.Proofs.YtaponemcbnnebaaDoor
/- THE CELL 'sum', in the pinned program and in every row, IS THE sha256 OF THE DUMP (.gsa) THAT YtaponemcbnnebaaDoorProg.lean LOADS. Nothing in Lean hashes anything: it is a label: what it is worth is what the hold of that sum in a sandbox is worth. -/
noncomputable def Tryd.pinned : Pinned := { name := "ytaponemcbnnebaadoor", sum := "27fcf7752ac0d624accef771704b23338606ec5c41bfe2b07622aece84d96cad", checked := Tryd.checked }
namespace Rows
def none {H : Type} : Left H := { results := [], args := [] }

/- WHAT THE LISTED PACKAGE-LEVEL VARIABLES READ AS WHEN THE CALL BEGINS. Each datum BY PROGRAM (the guide's laid-datum.mjs) off the statement by which the dump's own 'gosem.cut.vars' lays the variable. In a bare row this is a premise. The card (YtaponemcbnnebaaDoorCards.lean) ties it to the program's text. -/
def laid_provenance_unify_sizes {H : Type} : DataW H := .agg [.lit (.int .i64 0), .lit (.int .i64 (-1)), .lit (.int .i64 3), .lit (.int .i64 1), .lit (.int .i64 0), .lit (.int .i64 2)]

/-- 'provenancelaw1.UnifyValid': WHATEVER THE INPUT: true; the input reads as it did. -/
def unifyValidSpec : ChangeSpec := { name := "unifyValid", fn := fun _ => fun
  | [d] => { results := [.lit (.bool true)], args := [d] }
  | _ => none }
def unifyValidRow : OpenClaim := { program := "ytaponemcbnnebaadoor", sum := "27fcf7752ac0d624accef771704b23338606ec5c41bfe2b07622aece84d96cad", func := "provenance/provenancelaw1.UnifyValid", spec := "unifyValid", recurses := true, named := ["provenance/unify.sizes"], loops := true, apart := false, laid := [("provenance/unify.sizes", laid_provenance_unify_sizes)] }
def UnifyValidSaid : Prop := unifyValidRow.holds Tryd.pinned (OpenSpec.ofChange unifyValidSpec)

/-- ITS FALSE NEIGHBOUR: 'it returns false'. Refute it at one input. -/
def unifyValidWrong : ChangeSpec := { name := "unifyValid", fn := fun _ => fun
  | [d] => { results := [.lit (.bool false)], args := [d] }
  | _ => none }
def UnifyValidWrongFalsely : Prop := unifyValidRow.holds Tryd.pinned (OpenSpec.ofChange unifyValidWrong)

/-- 'provenancelaw1.KindsOfVars': WHATEVER THE INPUT: true; the input reads as it did. -/
def kindsOfVarsSpec : ChangeSpec := { name := "kindsOfVars", fn := fun _ => fun
  | [d1, d2] => { results := [.lit (.bool true)], args := [d1, d2] }
  | _ => none }
def kindsOfVarsRow : OpenClaim := { program := "ytaponemcbnnebaadoor", sum := "27fcf7752ac0d624accef771704b23338606ec5c41bfe2b07622aece84d96cad", func := "provenance/provenancelaw1.KindsOfVars", spec := "kindsOfVars", unfollowed := true, recurses := true, named := ["provenance/unify.sizes"], loops := true, apart := false, laid := [("provenance/unify.sizes", laid_provenance_unify_sizes)] }
def KindsOfVarsSaid : Prop := kindsOfVarsRow.holds Tryd.pinned (OpenSpec.ofChange kindsOfVarsSpec)

/-- ITS FALSE NEIGHBOUR: 'it returns false'. Refute it at one input. -/
def kindsOfVarsWrong : ChangeSpec := { name := "kindsOfVars", fn := fun _ => fun
  | [d1, d2] => { results := [.lit (.bool false)], args := [d1, d2] }
  | _ => none }
def KindsOfVarsWrongFalsely : Prop := kindsOfVarsRow.holds Tryd.pinned (OpenSpec.ofChange kindsOfVarsWrong)

/-- 'provenancelaw1.KindsSolved': WHATEVER THE INPUT: true; the input reads as it did. -/
def kindsSolvedSpec : ChangeSpec := { name := "kindsSolved", fn := fun _ => fun
  | [d] => { results := [.lit (.bool true)], args := [d] }
  | _ => none }
def kindsSolvedRow : OpenClaim := { program := "ytaponemcbnnebaadoor", sum := "27fcf7752ac0d624accef771704b23338606ec5c41bfe2b07622aece84d96cad", func := "provenance/provenancelaw1.KindsSolved", spec := "kindsSolved", unfollowed := true, recurses := true, named := ["provenance/unify.sizes"], loops := true, apart := false, laid := [("provenance/unify.sizes", laid_provenance_unify_sizes)] }
def KindsSolvedSaid : Prop := kindsSolvedRow.holds Tryd.pinned (OpenSpec.ofChange kindsSolvedSpec)

/-- ITS FALSE NEIGHBOUR: 'it returns false'. Refute it at one input. -/
def kindsSolvedWrong : ChangeSpec := { name := "kindsSolved", fn := fun _ => fun
  | [d] => { results := [.lit (.bool false)], args := [d] }
  | _ => none }
def KindsSolvedWrongFalsely : Prop := kindsSolvedRow.holds Tryd.pinned (OpenSpec.ofChange kindsSolvedWrong)

/- THE SECOND FORM. 'bulk': how many values and letters a reading holds, each counted each time it is reached (what is shared counts as often as it is met; a slice's spare places count too). A statement '..UptoSaid' is the law's where the arguments, and the package variables that the reading takes, are together of bulk at most 1048576: NARROWER than '..Said'. Prove '..Said' where nothing that the law and all that it calls make is longer than what came in: it says more and counts as full. Else prove '..UptoSaid'. A law counts once. -/
mutual
def uptoBulk {H : Type} : DataW H → Nat
  | .lit (.string bytes) => bytes.length + 1
  | .lit _ => 1
  | .nil => 1
  | .ptr d => uptoBulk d + 1
  | .slice elems spare => uptoBulkAll elems + uptoBulkAll spare + 1
  | .agg parts => uptoBulkAll parts + 1
  | .iface _ d => uptoBulk d + 1
  | .map entries => uptoBulkEntries entries + 1
  | .held _ => 1
def uptoBulkAll {H : Type} : List (DataW H) → Nat
  | [] => 0
  | d :: r => uptoBulk d + uptoBulkAll r
def uptoBulkEntries {H : Type} : List (Lit × DataW H) → Nat
  | [] => 0
  | x :: r => uptoBulkEntry x + uptoBulkEntries r
def uptoBulkEntry {H : Type} : Lit × DataW H → Nat
  | (.string bytes, d) => bytes.length + uptoBulk d + 1
  | (_, d) => uptoBulk d + 1
 end
def uptoSmall : (H : Type) → List (DataW H) → Bool := fun _ ds => decide (uptoBulkAll ds ≤ 1048576)
def OpenSpec.upto (s : _root_.Go.ChangeSpec) : _root_.Go.OpenSpec := { _root_.Go.OpenSpec.ofChange s with cond := some uptoSmall }

/-- 'provenancelaw1.UnifyValid', WHERE WHAT IT READS IS OF BULK AT MOST 1048576: true; the input reads as it did. -/
def unifyValidUptoRow : OpenClaim := { program := "ytaponemcbnnebaadoor", sum := "27fcf7752ac0d624accef771704b23338606ec5c41bfe2b07622aece84d96cad", func := "provenance/provenancelaw1.UnifyValid", spec := "unifyValid", recurses := true, named := ["provenance/unify.sizes"], loops := true, apart := false, laid := [("provenance/unify.sizes", laid_provenance_unify_sizes)], narrowed := true }
def UnifyValidUptoSaid : Prop := unifyValidUptoRow.holds Tryd.pinned (OpenSpec.upto unifyValidSpec)

/-- 'provenancelaw1.KindsOfVars', WHERE WHAT IT READS IS OF BULK AT MOST 1048576: true; the input reads as it did. -/
def kindsOfVarsUptoRow : OpenClaim := { program := "ytaponemcbnnebaadoor", sum := "27fcf7752ac0d624accef771704b23338606ec5c41bfe2b07622aece84d96cad", func := "provenance/provenancelaw1.KindsOfVars", spec := "kindsOfVars", unfollowed := true, recurses := true, named := ["provenance/unify.sizes"], loops := true, apart := false, laid := [("provenance/unify.sizes", laid_provenance_unify_sizes)], narrowed := true }
def KindsOfVarsUptoSaid : Prop := kindsOfVarsUptoRow.holds Tryd.pinned (OpenSpec.upto kindsOfVarsSpec)

/-- 'provenancelaw1.KindsSolved', WHERE WHAT IT READS IS OF BULK AT MOST 1048576: true; the input reads as it did. -/
def kindsSolvedUptoRow : OpenClaim := { program := "ytaponemcbnnebaadoor", sum := "27fcf7752ac0d624accef771704b23338606ec5c41bfe2b07622aece84d96cad", func := "provenance/provenancelaw1.KindsSolved", spec := "kindsSolved", unfollowed := true, recurses := true, named := ["provenance/unify.sizes"], loops := true, apart := false, laid := [("provenance/unify.sizes", laid_provenance_unify_sizes)], narrowed := true }
def KindsSolvedUptoSaid : Prop := kindsSolvedUptoRow.holds Tryd.pinned (OpenSpec.upto kindsSolvedSpec)

end Rows
end Go.Proofs.YtaponemcbnnebaaDoor
