/-
  Proved: FixityTree returns true for every table and every sequence: Build gives the reference's tree, or fails where it has none. Conditions: none.
-/
import Derived.Test.YtmmjkpbpmhaooaaFxL
import Derived.WalkKit
import Derived.ProofKit
import Derived.OpenShut
import Derived.ChangeMaps5
namespace Go.Proofs.Ytmmjkpbpmhaooaa.fixityTree
open Go.ChangeShapes Go.WideShapes Go.ChangeAt Go.RowKit Go.Eng Go.ChangeMaps
set_option linter.unusedVariables false

theorem own : ownKnob Try.prog.godebug = none := by kernel_rfl
theorem laidOut : laidOutB Try.prog = true := by kernel_rfl

section
variable {H : Type} {enc : TypeId × Value → H} {P : Program} {w : World} {spare : Nat → Bool} {held : Bool}
theorem sig_of {tT tN tI : TypeId} {f0 f1 f2 : Field} {fuel : Nat} {cs : List Value} {x : DataW H × List MemPlace} (hT : P.underlying tT = some (.struct #[f0, f1, f2])) (hN : P.underlying tN = some .string) (hI : P.underlying tI = some (.int .i64))
    (h0 : f0.type = tN ∧ f0.offset = 0) (h1 : f1.type = tI ∧ f1.offset = 1) (h2 : f2.type = tI ∧ f2.offset = 2) (cT : P.cellsOf tT = 3) (cN : P.cellsOf tN = 1) (cI : P.cellsOf tI = 1)
    (h : DataW.trod enc P w 0 spare held fuel tT cs = some x) : ∃ u : Go.Fx.Sig, cs = Go.Fx.sc u := by
  obtain ⟨xs, n, hfu, hx, hlen, hxl, hf⟩ := DataW.trod_struct hT h
  rw [cT] at hlen
  match cs, hlen with
  | [a0, a1, a2], _ =>
    have g0 := hf 0 f0 rfl
    have g1 := hf 1 f1 rfl
    have g2 := hf 2 f2 rfl
    simp only [List.size_toArray, List.length_cons, List.length_nil] at hxl
    rw [h0.1, h0.2, cN, List.getElem?_eq_getElem (by omega)] at g0
    rw [h1.1, h1.2, cI, List.getElem?_eq_getElem (by omega)] at g1
    rw [h2.1, h2.2, cI, List.getElem?_eq_getElem (by omega)] at g2
    obtain ⟨s, e0, _, _⟩ := DataW.trod_string hN g0
    obtain ⟨k, e1, _⟩ := DataW.trod_int hI g1
    obtain ⟨v, e2, _⟩ := DataW.trod_int hI g2
    simp at e0 e1 e2
    exact ⟨⟨s, k, v⟩, by rw [e0, e1, e2]; rfl⟩
theorem itm_of {tT tN tI : TypeId} {f0 f1 : Field} {fuel : Nat} {cs : List Value} {x : DataW H × List MemPlace} (hT : P.underlying tT = some (.struct #[f0, f1])) (hN : P.underlying tN = some .string) (hI : P.underlying tI = some (.int .i64))
    (h0 : f0.type = tN ∧ f0.offset = 0) (h1 : f1.type = tI ∧ f1.offset = 1) (cT : P.cellsOf tT = 2) (cN : P.cellsOf tN = 1) (cI : P.cellsOf tI = 1)
    (h : DataW.trod enc P w 0 spare held fuel tT cs = some x) : ∃ u : Go.Fx.Itm, cs = Go.Fx.ic u := by
  obtain ⟨xs, n, hfu, hx, hlen, hxl, hf⟩ := DataW.trod_struct hT h
  rw [cT] at hlen
  match cs, hlen with
  | [a0, a1], _ =>
    have g0 := hf 0 f0 rfl
    have g1 := hf 1 f1 rfl
    simp only [List.size_toArray, List.length_cons, List.length_nil] at hxl
    rw [h0.1, h0.2, cN, List.getElem?_eq_getElem (by omega)] at g0
    rw [h1.1, h1.2, cI, List.getElem?_eq_getElem (by omega)] at g1
    obtain ⟨s, e0, _, _⟩ := DataW.trod_string hN g0
    obtain ⟨k, e1, _⟩ := DataW.trod_int hI g1
    simp at e0 e1
    exact ⟨⟨s, k⟩, by rw [e0, e1]; rfl⟩
end

set_option maxRecDepth 100000 in
theorem lifted (os : Os) (started : os.Started) (H : Type) (enc : TypeId × Value → H) :
    ReturnsInHanded {} Try.checked os 5 .any (Rows.fixityTreeSpec.pre6 enc Try.prog Try.f5 Rows.fixityTreeRow.domain false) (Rows.fixityTreeSpec.post enc Try.prog Try.f5 false true false false) := by
  refine returnsInHanded_of_change (C := Try.checked) own started (by kernel_rfl) Try.func5
    (ChangeSpec.witness6 (enc := enc) (C := Try.checked) false ⟨#[], #[.slice none 0 0, .slice none 0 0], []⟩ 8 (by kernel_rfl) (by kernel_rfl) (by kernel_rfl) (by kernel_rfl)) ?_
  intro W base args ds gs before hval0 hW hcnd _
  have hval : ∀ (j : Nat) t v, Try.f5.params[j]? = some t → args[j]? = some v → Value.okWide Try.prog W .any base t v := hval0
  have hW' := hW
  obtain ⟨p, q, hA0, hV, rfl, hfz, hnd⟩ := hW
  obtain ⟨rfl, rfl⟩ := trodVars_none hV
  have hA : DataW.TrodAll enc Try.prog W 0 (fun _ => true) true Try.f5.params.toList args.toList ds p := hA0
  have hA1 := hA
  rw [Try.params5] at hA hval
  obtain ⟨v0, vs0, d0, ds0, p0, q0, hargs, rfl, rfl, h0, r0⟩ := trodAll_cons hA
  obtain ⟨v1, vs1, d1, ds1, p1, q1, rfl, rfl, rfl, h1, r1⟩ := trodAll_cons r0
  obtain ⟨rfl, rfl, rfl⟩ := trodAll_nil r1
  obtain rfl : args = #[v0, v1] := by cases args; simp_all
  obtain ⟨a0, n0, c0, rfl⟩ := okWide_slice Try.underlying33 (hval 0 _ v0 rfl rfl)
  obtain ⟨a1, n1, c1, rfl⟩ := okWide_slice Try.underlying34 (hval 1 _ v1 rfl rfl)
  obtain ⟨fuel0, hf0⟩ := h0
  obtain ⟨fuel1, hf1⟩ := h1
  obtain ⟨q, l, cap, he0, hl, hc, hs⟩ := elems_of (f := Go.Fx.sc) (sz := 3) Try.underlying33 (by kernel_rfl) (by decide) Go.Fx.slen (fun n cs' y _ hy => sig_of Try.underlying59 Try.underlying9 Try.underlying3 ⟨rfl, rfl⟩ ⟨rfl, rfl⟩ ⟨rfl, rfl⟩ (by kernel_rfl) (by kernel_rfl) (by kernel_rfl) hy) hf0
  obtain ⟨q', l', cap', he1, hl', hc', hs'⟩ := elems_of (f := Go.Fx.ic) (sz := 2) Try.underlying34 (by kernel_rfl) (by decide) Go.Fx.ilen (fun n cs' y _ hy => itm_of Try.underlying39 Try.underlying9 Try.underlying3 ⟨rfl, rfl⟩ ⟨rfl, rfl⟩ (by kernel_rfl) (by kernel_rfl) (by kernel_rfl) hy) hf1
  simp only [Value.cells, List.cons.injEq, Value.slice.injEq, and_true] at he0 he1
  obtain ⟨rfl, rfl, rfl⟩ := he0
  obtain ⟨rfl, rfl, rfl⟩ := he1
  unfold maxLen at hc hc'
  simp only [List.append_nil] at hW' hA1
  refine (fx.law_calls l l' _ _ _ _ W (by omega) (by omega) hl hl' hs hs').mono fun e W' ⟨he, hx⟩ => ⟨_, he, ?_⟩
  exact law_post laidOut (by kernel_rfl) rfl rfl Try.underlying4 rfl hW' hA1 hx.below

theorem proved : Rows.FixityTreeSaid :=
  OpenClaim.holds_of_wide 5 Try.f5 rfl rfl rfl rfl rfl rfl rfl ⟨rfl, rfl, rfl, rfl, rfl⟩ rfl rfl rfl rfl rfl (by kernel_rfl) Try.func5 (by kernel_rfl)
    (of_decide_eq_true (by kernel_rfl)) (by unfold Func.isWrapper; first | (rw [if_pos (by decide +kernel)]; kernel_rfl) | (rw [if_neg (by decide +kernel)]; exact ⟨rfl, rfl⟩))
    (fun os started H enc _ => lifted os started H enc)
#print axioms proved
end Go.Proofs.Ytmmjkpbpmhaooaa.fixityTree
