/-
  No cell of these rows narrows 'for every input' (looked for: loops, veiled, ifaces, maps, wideKeys, modest, calm, conditions, laid).
  DERIVED. THE GIVEN ROWS OF THIS SEAT. 8 by the template 'for every input the law returns true; each argument reads behind the call as it read before'; 0 by the template 'total and deterministic' (their statements: YtehelljmaiophaaTotals.lean).
  GIVEN WITH THE SEED: the statements are not yours to turn. If you find one false, say at which input.
  Laid BY PROGRAM, IN A SANDBOX (cutbox-rows.mjs): the forced cells as the released guide's own fill.sh prints them over the translation e8771d4ca8592bb1… (all of the seat's roots in one cut). By AI agents, Wed Nov 11 2026. No macro, syntax, notation, axiom, sorry.
-/
import Derived.Test.YtehelljmaiophaaChecked
import GoSem.Claim
import GoSem.ClaimJoined
import GoSem.ClaimMapViews
import Derived.JoinedTies
import Derived.KernelRfl
namespace Go.Proofs.Ytehelljmaiophaa
/- THE CELL 'sum', in the pinned program and in every row, IS THE sha256 OF THE DUMP (.gsa) THAT YtehelljmaiophaaProg.lean LOADS. Nothing in Lean hashes anything: it is a label: what it is worth is what the hold of that sum in a sandbox is worth. -/
noncomputable def Try.pinned : Pinned := { name := "ytehelljmaiophaa", sum := "e8771d4ca8592bb14dd1e2b29d21b1d0de9140c888baff5c1b50e5f0eaa6bb82", checked := Try.checked }
namespace Rows
def none {H : Type} : Left H := { results := [], args := [] }

/-- 'provenancelaw3.LiveRanges': WHATEVER THE INPUT: true; the input reads as it did. -/
def liveRangesSpec : ChangeSpec := { name := "liveRanges", fn := fun _ => fun
  | [d] => { results := [.lit (.bool true)], args := [d] }
  | _ => none }
def liveRangesRow : OpenClaim := { program := "ytehelljmaiophaa", sum := "e8771d4ca8592bb14dd1e2b29d21b1d0de9140c888baff5c1b50e5f0eaa6bb82", func := "provenance/provenancelaw3.LiveRanges", spec := "liveRanges", unfollowed := true, recurses := true, apart := false }
def LiveRangesSaid : Prop := liveRangesRow.holds Try.pinned (OpenSpec.ofChange liveRangesSpec)

/-- ITS FALSE NEIGHBOUR: 'it returns false'. Refute it at one input. -/
def liveRangesWrong : ChangeSpec := { name := "liveRanges", fn := fun _ => fun
  | [d] => { results := [.lit (.bool false)], args := [d] }
  | _ => none }
def LiveRangesWrongFalsely : Prop := liveRangesRow.holds Try.pinned (OpenSpec.ofChange liveRangesWrong)

/-- 'provenancelaw3.LiveSets': WHATEVER THE INPUT: true; the input reads as it did. -/
def liveSetsSpec : ChangeSpec := { name := "liveSets", fn := fun _ => fun
  | [d1, d2, d3] => { results := [.lit (.bool true)], args := [d1, d2, d3] }
  | _ => none }
def liveSetsRow : OpenClaim := { program := "ytehelljmaiophaa", sum := "e8771d4ca8592bb14dd1e2b29d21b1d0de9140c888baff5c1b50e5f0eaa6bb82", func := "provenance/provenancelaw3.LiveSets", spec := "liveSets", unfollowed := true, recurses := true, apart := false }
def LiveSetsSaid : Prop := liveSetsRow.holds Try.pinned (OpenSpec.ofChange liveSetsSpec)

/-- ITS FALSE NEIGHBOUR: 'it returns false'. Refute it at one input. -/
def liveSetsWrong : ChangeSpec := { name := "liveSets", fn := fun _ => fun
  | [d1, d2, d3] => { results := [.lit (.bool false)], args := [d1, d2, d3] }
  | _ => none }
def LiveSetsWrongFalsely : Prop := liveSetsRow.holds Try.pinned (OpenSpec.ofChange liveSetsWrong)

/-- 'provenancelaw3.SsaRuns': WHATEVER THE INPUT: true; the input reads as it did. -/
def ssaRunsSpec : ChangeSpec := { name := "ssaRuns", fn := fun _ => fun
  | [d1, d2] => { results := [.lit (.bool true)], args := [d1, d2] }
  | _ => none }
def ssaRunsRow : OpenClaim := { program := "ytehelljmaiophaa", sum := "e8771d4ca8592bb14dd1e2b29d21b1d0de9140c888baff5c1b50e5f0eaa6bb82", func := "provenance/provenancelaw3.SsaRuns", spec := "ssaRuns", unfollowed := true, recurses := true, apart := false }
def SsaRunsSaid : Prop := ssaRunsRow.holds Try.pinned (OpenSpec.ofChange ssaRunsSpec)

/-- ITS FALSE NEIGHBOUR: 'it returns false'. Refute it at one input. -/
def ssaRunsWrong : ChangeSpec := { name := "ssaRuns", fn := fun _ => fun
  | [d1, d2] => { results := [.lit (.bool false)], args := [d1, d2] }
  | _ => none }
def SsaRunsWrongFalsely : Prop := ssaRunsRow.holds Try.pinned (OpenSpec.ofChange ssaRunsWrong)

/-- 'provenancelaw3.SsaChecks': WHATEVER THE INPUT: true; the input reads as it did. -/
def ssaChecksSpec : ChangeSpec := { name := "ssaChecks", fn := fun _ => fun
  | [d1, d2] => { results := [.lit (.bool true)], args := [d1, d2] }
  | _ => none }
def ssaChecksRow : OpenClaim := { program := "ytehelljmaiophaa", sum := "e8771d4ca8592bb14dd1e2b29d21b1d0de9140c888baff5c1b50e5f0eaa6bb82", func := "provenance/provenancelaw3.SsaChecks", spec := "ssaChecks", unfollowed := true, recurses := true, apart := false }
def SsaChecksSaid : Prop := ssaChecksRow.holds Try.pinned (OpenSpec.ofChange ssaChecksSpec)

/-- ITS FALSE NEIGHBOUR: 'it returns false'. Refute it at one input. -/
def ssaChecksWrong : ChangeSpec := { name := "ssaChecks", fn := fun _ => fun
  | [d1, d2] => { results := [.lit (.bool false)], args := [d1, d2] }
  | _ => none }
def SsaChecksWrongFalsely : Prop := ssaChecksRow.holds Try.pinned (OpenSpec.ofChange ssaChecksWrong)

/-- 'provenancelaw3.CfgGraph': WHATEVER THE INPUT: true; the input reads as it did. -/
def cfgGraphSpec : ChangeSpec := { name := "cfgGraph", fn := fun _ => fun
  | [d] => { results := [.lit (.bool true)], args := [d] }
  | _ => none }
def cfgGraphRow : OpenClaim := { program := "ytehelljmaiophaa", sum := "e8771d4ca8592bb14dd1e2b29d21b1d0de9140c888baff5c1b50e5f0eaa6bb82", func := "provenance/provenancelaw3.CfgGraph", spec := "cfgGraph", unfollowed := true, recurses := true, apart := false }
def CfgGraphSaid : Prop := cfgGraphRow.holds Try.pinned (OpenSpec.ofChange cfgGraphSpec)

/-- ITS FALSE NEIGHBOUR: 'it returns false'. Refute it at one input. -/
def cfgGraphWrong : ChangeSpec := { name := "cfgGraph", fn := fun _ => fun
  | [d] => { results := [.lit (.bool false)], args := [d] }
  | _ => none }
def CfgGraphWrongFalsely : Prop := cfgGraphRow.holds Try.pinned (OpenSpec.ofChange cfgGraphWrong)

/-- 'provenancelaw3.DomFrontier': WHATEVER THE INPUT: true; the input reads as it did. -/
def domFrontierSpec : ChangeSpec := { name := "domFrontier", fn := fun _ => fun
  | [d] => { results := [.lit (.bool true)], args := [d] }
  | _ => none }
def domFrontierRow : OpenClaim := { program := "ytehelljmaiophaa", sum := "e8771d4ca8592bb14dd1e2b29d21b1d0de9140c888baff5c1b50e5f0eaa6bb82", func := "provenance/provenancelaw3.DomFrontier", spec := "domFrontier", unfollowed := true, recurses := true, apart := false }
def DomFrontierSaid : Prop := domFrontierRow.holds Try.pinned (OpenSpec.ofChange domFrontierSpec)

/-- ITS FALSE NEIGHBOUR: 'it returns false'. Refute it at one input. -/
def domFrontierWrong : ChangeSpec := { name := "domFrontier", fn := fun _ => fun
  | [d] => { results := [.lit (.bool false)], args := [d] }
  | _ => none }
def DomFrontierWrongFalsely : Prop := domFrontierRow.holds Try.pinned (OpenSpec.ofChange domFrontierWrong)

/-- 'provenancelaw3.DomTree': WHATEVER THE INPUT: true; the input reads as it did. -/
def domTreeSpec : ChangeSpec := { name := "domTree", fn := fun _ => fun
  | [d1, d2, d3] => { results := [.lit (.bool true)], args := [d1, d2, d3] }
  | _ => none }
def domTreeRow : OpenClaim := { program := "ytehelljmaiophaa", sum := "e8771d4ca8592bb14dd1e2b29d21b1d0de9140c888baff5c1b50e5f0eaa6bb82", func := "provenance/provenancelaw3.DomTree", spec := "domTree", unfollowed := true, recurses := true, apart := false }
def DomTreeSaid : Prop := domTreeRow.holds Try.pinned (OpenSpec.ofChange domTreeSpec)

/-- ITS FALSE NEIGHBOUR: 'it returns false'. Refute it at one input. -/
def domTreeWrong : ChangeSpec := { name := "domTree", fn := fun _ => fun
  | [d1, d2, d3] => { results := [.lit (.bool false)], args := [d1, d2, d3] }
  | _ => none }
def DomTreeWrongFalsely : Prop := domTreeRow.holds Try.pinned (OpenSpec.ofChange domTreeWrong)

/-- 'provenancelaw3.LoopsFinds': WHATEVER THE INPUT: true; the input reads as it did. -/
def loopsFindsSpec : ChangeSpec := { name := "loopsFinds", fn := fun _ => fun
  | [d] => { results := [.lit (.bool true)], args := [d] }
  | _ => none }
def loopsFindsRow : OpenClaim := { program := "ytehelljmaiophaa", sum := "e8771d4ca8592bb14dd1e2b29d21b1d0de9140c888baff5c1b50e5f0eaa6bb82", func := "provenance/provenancelaw3.LoopsFinds", spec := "loopsFinds", unfollowed := true, recurses := true, apart := false }
def LoopsFindsSaid : Prop := loopsFindsRow.holds Try.pinned (OpenSpec.ofChange loopsFindsSpec)

/-- ITS FALSE NEIGHBOUR: 'it returns false'. Refute it at one input. -/
def loopsFindsWrong : ChangeSpec := { name := "loopsFinds", fn := fun _ => fun
  | [d] => { results := [.lit (.bool false)], args := [d] }
  | _ => none }
def LoopsFindsWrongFalsely : Prop := loopsFindsRow.holds Try.pinned (OpenSpec.ofChange loopsFindsWrong)

/- THE SECOND FORM. 'bulk': how many values and letters a reading holds, each counted each time it is reached (what is shared counts as often as it is met; a slice's spare places count too). A statement '..UptoSaid' is the law's where the arguments, and the package variables that the reading takes, are together of bulk at most 1048576: NARROWER than '..Said'. Prove '..Said' where nothing that the law and all that it calls make is longer than what came in: it says more and counts as full. Else prove '..UptoSaid'. A law counts once. -/
mutual
def uptoBulk {H : Type} : DataW H → Nat
  | .lit (.string bytes) => bytes.length + 1
  | .lit _ => 1
  | .nil => 1
  | .ptr d => uptoBulk d + 1
  | .slice elems spare => uptoBulkAll elems + uptoBulkAll spare + 1
  | .agg parts => uptoBulkAll parts + 1
  | .iface _ d => uptoBulk d + 1
  | .map entries => uptoBulkEntries entries + 1
  | .held _ => 1
def uptoBulkAll {H : Type} : List (DataW H) → Nat
  | [] => 0
  | d :: r => uptoBulk d + uptoBulkAll r
def uptoBulkEntries {H : Type} : List (Lit × DataW H) → Nat
  | [] => 0
  | x :: r => uptoBulkEntry x + uptoBulkEntries r
def uptoBulkEntry {H : Type} : Lit × DataW H → Nat
  | (.string bytes, d) => bytes.length + uptoBulk d + 1
  | (_, d) => uptoBulk d + 1
 end
def uptoSmall : (H : Type) → List (DataW H) → Bool := fun _ ds => decide (uptoBulkAll ds ≤ 1048576)
def OpenSpec.upto (s : _root_.Go.ChangeSpec) : _root_.Go.OpenSpec := { _root_.Go.OpenSpec.ofChange s with cond := some uptoSmall }

/-- 'provenancelaw3.LiveRanges', WHERE WHAT IT READS IS OF BULK AT MOST 1048576: true; the input reads as it did. -/
def liveRangesUptoRow : OpenClaim := { program := "ytehelljmaiophaa", sum := "e8771d4ca8592bb14dd1e2b29d21b1d0de9140c888baff5c1b50e5f0eaa6bb82", func := "provenance/provenancelaw3.LiveRanges", spec := "liveRanges", unfollowed := true, recurses := true, apart := false, narrowed := true }
def LiveRangesUptoSaid : Prop := liveRangesUptoRow.holds Try.pinned (OpenSpec.upto liveRangesSpec)

/-- 'provenancelaw3.LiveSets', WHERE WHAT IT READS IS OF BULK AT MOST 1048576: true; the input reads as it did. -/
def liveSetsUptoRow : OpenClaim := { program := "ytehelljmaiophaa", sum := "e8771d4ca8592bb14dd1e2b29d21b1d0de9140c888baff5c1b50e5f0eaa6bb82", func := "provenance/provenancelaw3.LiveSets", spec := "liveSets", unfollowed := true, recurses := true, apart := false, narrowed := true }
def LiveSetsUptoSaid : Prop := liveSetsUptoRow.holds Try.pinned (OpenSpec.upto liveSetsSpec)

/-- 'provenancelaw3.SsaRuns', WHERE WHAT IT READS IS OF BULK AT MOST 1048576: true; the input reads as it did. -/
def ssaRunsUptoRow : OpenClaim := { program := "ytehelljmaiophaa", sum := "e8771d4ca8592bb14dd1e2b29d21b1d0de9140c888baff5c1b50e5f0eaa6bb82", func := "provenance/provenancelaw3.SsaRuns", spec := "ssaRuns", unfollowed := true, recurses := true, apart := false, narrowed := true }
def SsaRunsUptoSaid : Prop := ssaRunsUptoRow.holds Try.pinned (OpenSpec.upto ssaRunsSpec)

/-- 'provenancelaw3.SsaChecks', WHERE WHAT IT READS IS OF BULK AT MOST 1048576: true; the input reads as it did. -/
def ssaChecksUptoRow : OpenClaim := { program := "ytehelljmaiophaa", sum := "e8771d4ca8592bb14dd1e2b29d21b1d0de9140c888baff5c1b50e5f0eaa6bb82", func := "provenance/provenancelaw3.SsaChecks", spec := "ssaChecks", unfollowed := true, recurses := true, apart := false, narrowed := true }
def SsaChecksUptoSaid : Prop := ssaChecksUptoRow.holds Try.pinned (OpenSpec.upto ssaChecksSpec)

/-- 'provenancelaw3.CfgGraph', WHERE WHAT IT READS IS OF BULK AT MOST 1048576: true; the input reads as it did. -/
def cfgGraphUptoRow : OpenClaim := { program := "ytehelljmaiophaa", sum := "e8771d4ca8592bb14dd1e2b29d21b1d0de9140c888baff5c1b50e5f0eaa6bb82", func := "provenance/provenancelaw3.CfgGraph", spec := "cfgGraph", unfollowed := true, recurses := true, apart := false, narrowed := true }
def CfgGraphUptoSaid : Prop := cfgGraphUptoRow.holds Try.pinned (OpenSpec.upto cfgGraphSpec)

/-- 'provenancelaw3.DomFrontier', WHERE WHAT IT READS IS OF BULK AT MOST 1048576: true; the input reads as it did. -/
def domFrontierUptoRow : OpenClaim := { program := "ytehelljmaiophaa", sum := "e8771d4ca8592bb14dd1e2b29d21b1d0de9140c888baff5c1b50e5f0eaa6bb82", func := "provenance/provenancelaw3.DomFrontier", spec := "domFrontier", unfollowed := true, recurses := true, apart := false, narrowed := true }
def DomFrontierUptoSaid : Prop := domFrontierUptoRow.holds Try.pinned (OpenSpec.upto domFrontierSpec)

/-- 'provenancelaw3.DomTree', WHERE WHAT IT READS IS OF BULK AT MOST 1048576: true; the input reads as it did. -/
def domTreeUptoRow : OpenClaim := { program := "ytehelljmaiophaa", sum := "e8771d4ca8592bb14dd1e2b29d21b1d0de9140c888baff5c1b50e5f0eaa6bb82", func := "provenance/provenancelaw3.DomTree", spec := "domTree", unfollowed := true, recurses := true, apart := false, narrowed := true }
def DomTreeUptoSaid : Prop := domTreeUptoRow.holds Try.pinned (OpenSpec.upto domTreeSpec)

/-- 'provenancelaw3.LoopsFinds', WHERE WHAT IT READS IS OF BULK AT MOST 1048576: true; the input reads as it did. -/
def loopsFindsUptoRow : OpenClaim := { program := "ytehelljmaiophaa", sum := "e8771d4ca8592bb14dd1e2b29d21b1d0de9140c888baff5c1b50e5f0eaa6bb82", func := "provenance/provenancelaw3.LoopsFinds", spec := "loopsFinds", unfollowed := true, recurses := true, apart := false, narrowed := true }
def LoopsFindsUptoSaid : Prop := loopsFindsUptoRow.holds Try.pinned (OpenSpec.upto loopsFindsSpec)

end Rows
end Go.Proofs.Ytehelljmaiophaa
