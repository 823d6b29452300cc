/-
  Proved: MovesSequence returns true for every list of moves and every spare variable: what Sequence returns does what all moves do at once. Conditions: none.
-/
import Derived.Test.YtfnkahakocbofaaMvL
import Derived.WalkKit
import Derived.ProofKit
import Derived.OpenShut
import Derived.ChangeMaps5
namespace Go.Proofs.Ytfnkahakocbofaa.movesSequence
open Go.ChangeShapes Go.WideShapes Go.ChangeAt Go.RowKit Go.Eng Go.ChangeMaps
set_option linter.unusedVariables false

theorem own : ownKnob Try.prog.godebug = none := by kernel_rfl
theorem laidOut : laidOutB Try.prog = true := by kernel_rfl

theorem pair_of {H : Type} {enc : TypeId × Value → H} {P : Program} {w : World} {spare : Nat → Bool} {held : Bool} {t e : TypeId} {fuel : Nat} {cs : List Value} {x : DataW H × List MemPlace} (ht : P.underlying t = some (.array 2 e)) (he : P.underlying e = some (.int .i64)) (hct : P.cellsOf t = 2) (hce : P.cellsOf e = 1)
    (h : DataW.trod enc P w 0 spare held fuel t cs = some x) : ∃ u : Go.Mv.Pr, cs = Go.Mv.pcell u := by
  obtain ⟨xs, m, hf, _, hl, hxl, hi⟩ := DataW.trod_array ht h
  rw [hct] at hl
  rw [hce] at hi
  match cs, hl with
  | [c0, c1], _ =>
    have g0 := hi 0 (by decide)
    have g1 := hi 1 (by decide)
    rw [List.getElem?_eq_getElem (by omega)] at g0 g1
    obtain ⟨a, ea, _⟩ := DataW.trod_int he g0
    obtain ⟨b, eb, _⟩ := DataW.trod_int he g1
    simp at ea eb
    exact ⟨(a, b), by rw [ea, eb]; rfl⟩

set_option maxRecDepth 100000 in
theorem lifted (os : Os) (started : os.Started) (H : Type) (enc : TypeId × Value → H) :
    ReturnsInHanded {} Try.checked os 3 .any (Rows.movesSequenceSpec.pre6 enc Try.prog Try.f3 Rows.movesSequenceRow.domain false) (Rows.movesSequenceSpec.post enc Try.prog Try.f3 false true false false) := by
  refine returnsInHanded_of_change (C := Try.checked) own started (by kernel_rfl) Try.func3
    (ChangeSpec.witness6 (enc := enc) (C := Try.checked) false ⟨#[], #[.slice none 0 0, .int .i64 0], []⟩ 8 (by kernel_rfl) (by kernel_rfl) (by kernel_rfl) (by kernel_rfl)) ?_
  intro W base args ds gs before hval0 hW hcnd _
  have hval : ∀ (j : Nat) t v, Try.f3.params[j]? = some t → args[j]? = some v → Value.okWide Try.prog W .any base t v := hval0
  have hW' := hW
  obtain ⟨p, q, hA0, hV, rfl, hfz, hnd⟩ := hW
  obtain ⟨rfl, rfl⟩ := trodVars_none hV
  have hA : DataW.TrodAll enc Try.prog W 0 (fun _ => true) true Try.f3.params.toList args.toList ds p := hA0
  have hA1 := hA
  rw [Try.params3] at hA hval
  obtain ⟨v0, vs0, d0, ds0, p0, q0, hargs, rfl, rfl, h0, r0⟩ := trodAll_cons hA
  obtain ⟨v1, vs1, d1, ds1, p1, q1, rfl, rfl, rfl, h1, r1⟩ := trodAll_cons r0
  obtain ⟨rfl, rfl, rfl⟩ := trodAll_nil r1
  obtain rfl : args = #[v0, v1] := by cases args; simp_all
  obtain ⟨a0, n0, c0, rfl⟩ := okWide_slice Try.underlying22 (hval 0 _ v0 rfl rfl)
  obtain ⟨a1, rfl, rfl, rfl, w1⟩ := open_int Try.underlying3 (hval 1 3 v1 rfl rfl) h1
  obtain ⟨fuel0, hf0⟩ := h0
  obtain ⟨q, l, cap, he0, hl, hc, hs⟩ := elems_of (f := Go.Mv.pcell) (sz := 2) Try.underlying22 (by kernel_rfl) (by decide) Go.Mv.plen (fun n cs' y _ hy => pair_of Try.underlying26 Try.underlying3 (by kernel_rfl) (by kernel_rfl) hy) hf0
  simp only [Value.cells, List.cons.injEq, Value.slice.injEq, and_true] at he0
  obtain ⟨rfl, rfl, rfl⟩ := he0
  unfold maxLen at hc
  simp only [List.append_nil] at hW' hA1
  refine (mv.law_calls _ _ l a1 W (by omega) hl hs).mono fun e W' ⟨he, hx⟩ => ⟨_, he, ?_⟩
  exact law_post laidOut (by kernel_rfl) rfl rfl Try.underlying4 rfl hW' hA1 hx.below

theorem proved : Rows.MovesSequenceSaid :=
  OpenClaim.holds_of_wide 3 Try.f3 rfl rfl rfl rfl rfl rfl rfl ⟨rfl, rfl, rfl, rfl, rfl⟩ rfl rfl rfl rfl rfl (by kernel_rfl) Try.func3 (by kernel_rfl)
    (of_decide_eq_true (by kernel_rfl)) (by unfold Func.isWrapper; first | (rw [if_pos (by decide +kernel)]; kernel_rfl) | (rw [if_neg (by decide +kernel)]; exact ⟨rfl, rfl⟩))
    (fun os started H enc _ => lifted os started H enc)
#print axioms proved
end Go.Proofs.Ytfnkahakocbofaa.movesSequence
