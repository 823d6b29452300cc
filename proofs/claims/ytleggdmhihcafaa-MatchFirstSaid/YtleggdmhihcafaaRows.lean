/-
  NARROWER THAN 'FOR EVERY INPUT', by the rows' own cells (each row's printed sentence says how): PatternsMissing: loops · PatternsRedundant: loops · MatchFirst: loops.
  DERIVED. THE GIVEN ROWS OF THIS SEAT. 3 by the template 'for every input the law returns true; each argument reads behind the call as it read before'; 0 by the template 'total and deterministic' (their statements: YtleggdmhihcafaaTotals.lean).
  GIVEN WITH THE SEED: the statements are not yours to turn. If you find one false, say at which input.
  Laid BY PROGRAM, IN A SANDBOX (cutbox-rows.mjs): the forced cells as the released guide's own fill.sh prints them over the translation 0409953571e6ada1… (all of the seat's roots in one cut). By AI agents, Wed Nov 11 2026. No macro, syntax, notation, axiom, sorry.
-/
import Derived.Test.YtleggdmhihcafaaChecked
import GoSem.Claim
import GoSem.ClaimJoined
import GoSem.ClaimMapViews
import Derived.JoinedTies
import Derived.KernelRfl
namespace Go.Proofs.Ytleggdmhihcafaa
/- THE CELL 'sum', in the pinned program and in every row, IS THE sha256 OF THE DUMP (.gsa) THAT YtleggdmhihcafaaProg.lean LOADS. Nothing in Lean hashes anything: it is a label: what it is worth is what the hold of that sum in a sandbox is worth. -/
noncomputable def Try.pinned : Pinned := { name := "ytleggdmhihcafaa", sum := "0409953571e6ada11529ee525f166288cbadc014683ac23651306ef2882cbe29", checked := Try.checked }
namespace Rows
def none {H : Type} : Left H := { results := [], args := [] }

/-- 'provenancelaw3.PatternsMissing': WHATEVER THE INPUT: true; the input reads as it did. -/
def patternsMissingSpec : ChangeSpec := { name := "patternsMissing", fn := fun _ => fun
  | [d1, d2, d3] => { results := [.lit (.bool true)], args := [d1, d2, d3] }
  | _ => none }
def patternsMissingRow : OpenClaim := { program := "ytleggdmhihcafaa", sum := "0409953571e6ada11529ee525f166288cbadc014683ac23651306ef2882cbe29", func := "provenance/provenancelaw3.PatternsMissing", spec := "patternsMissing", unfollowed := true, recurses := true, loops := true, apart := false }
def PatternsMissingSaid : Prop := patternsMissingRow.holds Try.pinned (OpenSpec.ofChange patternsMissingSpec)

/-- ITS FALSE NEIGHBOUR: 'it returns false'. Refute it at one input. -/
def patternsMissingWrong : ChangeSpec := { name := "patternsMissing", fn := fun _ => fun
  | [d1, d2, d3] => { results := [.lit (.bool false)], args := [d1, d2, d3] }
  | _ => none }
def PatternsMissingWrongFalsely : Prop := patternsMissingRow.holds Try.pinned (OpenSpec.ofChange patternsMissingWrong)

/-- 'provenancelaw3.PatternsRedundant': WHATEVER THE INPUT: true; the input reads as it did. -/
def patternsRedundantSpec : ChangeSpec := { name := "patternsRedundant", fn := fun _ => fun
  | [d1, d2] => { results := [.lit (.bool true)], args := [d1, d2] }
  | _ => none }
def patternsRedundantRow : OpenClaim := { program := "ytleggdmhihcafaa", sum := "0409953571e6ada11529ee525f166288cbadc014683ac23651306ef2882cbe29", func := "provenance/provenancelaw3.PatternsRedundant", spec := "patternsRedundant", unfollowed := true, recurses := true, loops := true, apart := false }
def PatternsRedundantSaid : Prop := patternsRedundantRow.holds Try.pinned (OpenSpec.ofChange patternsRedundantSpec)

/-- ITS FALSE NEIGHBOUR: 'it returns false'. Refute it at one input. -/
def patternsRedundantWrong : ChangeSpec := { name := "patternsRedundant", fn := fun _ => fun
  | [d1, d2] => { results := [.lit (.bool false)], args := [d1, d2] }
  | _ => none }
def PatternsRedundantWrongFalsely : Prop := patternsRedundantRow.holds Try.pinned (OpenSpec.ofChange patternsRedundantWrong)

/-- 'provenancelaw3.MatchFirst': WHATEVER THE INPUT: true; the input reads as it did. -/
def matchFirstSpec : ChangeSpec := { name := "matchFirst", fn := fun _ => fun
  | [d1, d2, d3] => { results := [.lit (.bool true)], args := [d1, d2, d3] }
  | _ => none }
def matchFirstRow : OpenClaim := { program := "ytleggdmhihcafaa", sum := "0409953571e6ada11529ee525f166288cbadc014683ac23651306ef2882cbe29", func := "provenance/provenancelaw3.MatchFirst", spec := "matchFirst", unfollowed := true, recurses := true, loops := true, apart := false }
def MatchFirstSaid : Prop := matchFirstRow.holds Try.pinned (OpenSpec.ofChange matchFirstSpec)

/-- ITS FALSE NEIGHBOUR: 'it returns false'. Refute it at one input. -/
def matchFirstWrong : ChangeSpec := { name := "matchFirst", fn := fun _ => fun
  | [d1, d2, d3] => { results := [.lit (.bool false)], args := [d1, d2, d3] }
  | _ => none }
def MatchFirstWrongFalsely : Prop := matchFirstRow.holds Try.pinned (OpenSpec.ofChange matchFirstWrong)

/- THE SECOND FORM. 'bulk': how many values and letters a reading holds, each counted each time it is reached (what is shared counts as often as it is met; a slice's spare places count too). A statement '..UptoSaid' is the law's where the arguments, and the package variables that the reading takes, are together of bulk at most 1048576: NARROWER than '..Said'. Prove '..Said' where nothing that the law and all that it calls make is longer than what came in: it says more and counts as full. Else prove '..UptoSaid'. A law counts once. -/
mutual
def uptoBulk {H : Type} : DataW H → Nat
  | .lit (.string bytes) => bytes.length + 1
  | .lit _ => 1
  | .nil => 1
  | .ptr d => uptoBulk d + 1
  | .slice elems spare => uptoBulkAll elems + uptoBulkAll spare + 1
  | .agg parts => uptoBulkAll parts + 1
  | .iface _ d => uptoBulk d + 1
  | .map entries => uptoBulkEntries entries + 1
  | .held _ => 1
def uptoBulkAll {H : Type} : List (DataW H) → Nat
  | [] => 0
  | d :: r => uptoBulk d + uptoBulkAll r
def uptoBulkEntries {H : Type} : List (Lit × DataW H) → Nat
  | [] => 0
  | x :: r => uptoBulkEntry x + uptoBulkEntries r
def uptoBulkEntry {H : Type} : Lit × DataW H → Nat
  | (.string bytes, d) => bytes.length + uptoBulk d + 1
  | (_, d) => uptoBulk d + 1
 end
def uptoSmall : (H : Type) → List (DataW H) → Bool := fun _ ds => decide (uptoBulkAll ds ≤ 1048576)
def OpenSpec.upto (s : _root_.Go.ChangeSpec) : _root_.Go.OpenSpec := { _root_.Go.OpenSpec.ofChange s with cond := some uptoSmall }

/-- 'provenancelaw3.PatternsMissing', WHERE WHAT IT READS IS OF BULK AT MOST 1048576: true; the input reads as it did. -/
def patternsMissingUptoRow : OpenClaim := { program := "ytleggdmhihcafaa", sum := "0409953571e6ada11529ee525f166288cbadc014683ac23651306ef2882cbe29", func := "provenance/provenancelaw3.PatternsMissing", spec := "patternsMissing", unfollowed := true, recurses := true, loops := true, apart := false, narrowed := true }
def PatternsMissingUptoSaid : Prop := patternsMissingUptoRow.holds Try.pinned (OpenSpec.upto patternsMissingSpec)

/-- 'provenancelaw3.PatternsRedundant', WHERE WHAT IT READS IS OF BULK AT MOST 1048576: true; the input reads as it did. -/
def patternsRedundantUptoRow : OpenClaim := { program := "ytleggdmhihcafaa", sum := "0409953571e6ada11529ee525f166288cbadc014683ac23651306ef2882cbe29", func := "provenance/provenancelaw3.PatternsRedundant", spec := "patternsRedundant", unfollowed := true, recurses := true, loops := true, apart := false, narrowed := true }
def PatternsRedundantUptoSaid : Prop := patternsRedundantUptoRow.holds Try.pinned (OpenSpec.upto patternsRedundantSpec)

/-- 'provenancelaw3.MatchFirst', WHERE WHAT IT READS IS OF BULK AT MOST 1048576: true; the input reads as it did. -/
def matchFirstUptoRow : OpenClaim := { program := "ytleggdmhihcafaa", sum := "0409953571e6ada11529ee525f166288cbadc014683ac23651306ef2882cbe29", func := "provenance/provenancelaw3.MatchFirst", spec := "matchFirst", unfollowed := true, recurses := true, loops := true, apart := false, narrowed := true }
def MatchFirstUptoSaid : Prop := matchFirstUptoRow.holds Try.pinned (OpenSpec.upto matchFirstSpec)

end Rows
end Go.Proofs.Ytleggdmhihcafaa
