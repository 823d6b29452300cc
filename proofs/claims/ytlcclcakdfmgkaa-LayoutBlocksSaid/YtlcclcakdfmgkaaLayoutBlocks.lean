/-
  Proved: LayoutBlocks returns true for every list of tokens: the layout's tokens and faults are those of the rules. Conditions: none.
-/
import Derived.Test.YtlcclcakdfmgkaaLyK
import Derived.WalkKit
import Derived.ProofKit
import Derived.OpenShut
import Derived.ChangeMaps5
namespace Go.Proofs.Ytlcclcakdfmgkaa.layoutBlocks
open Go.ChangeShapes Go.WideShapes Go.ChangeAt Go.RowKit Go.Eng Go.ChangeMaps
set_option linter.unusedVariables false

theorem own : ownKnob Try.prog.godebug = none := by kernel_rfl
theorem laidOut : laidOutB Try.prog = true := by kernel_rfl
theorem tok_of {H : Type} {enc : TypeId × Value → H} {P : Program} {w : World} {spare : Nat → Bool} {held : Bool} {tT tN tI : TypeId} {f0 f1 f2 f3 f4 : Field} {fuel : Nat} {cs : List Value} {x : DataW H × List MemPlace} (hT : P.underlying tT = some (.struct #[f0, f1, f2, f3, f4])) (hN : P.underlying tN = some .string) (hI : P.underlying tI = some (.int .i64))
    (h0 : f0.type = tI ∧ f0.offset = 0) (h1 : f1.type = tN ∧ f1.offset = 1) (h2 : f2.type = tI ∧ f2.offset = 2) (h3 : f3.type = tI ∧ f3.offset = 3) (h4 : f4.type = tI ∧ f4.offset = 4) (cT : P.cellsOf tT = 5) (cN : P.cellsOf tN = 1) (cI : P.cellsOf tI = 1)
    (h : DataW.trod enc P w 0 spare held fuel tT cs = some x) : ∃ u, cs = Go.Ly.tc u := by
  obtain ⟨xs, n, hfu, hx, hlen, hxl, hf⟩ := DataW.trod_struct hT h
  rw [cT] at hlen
  match cs, hlen with
  | [a0, a1, a2, a3, a4], _ =>
    have g0 := hf 0 f0 rfl
    have g1 := hf 1 f1 rfl
    have g2 := hf 2 f2 rfl
    have g3 := hf 3 f3 rfl
    have g4 := hf 4 f4 rfl
    simp only [List.size_toArray, List.length_cons, List.length_nil] at hxl
    rw [h0.1, h0.2, cI, List.getElem?_eq_getElem (by omega)] at g0
    rw [h1.1, h1.2, cN, List.getElem?_eq_getElem (by omega)] at g1
    rw [h2.1, h2.2, cI, List.getElem?_eq_getElem (by omega)] at g2
    rw [h3.1, h3.2, cI, List.getElem?_eq_getElem (by omega)] at g3
    rw [h4.1, h4.2, cI, List.getElem?_eq_getElem (by omega)] at g4
    obtain ⟨k0, e0, _⟩ := DataW.trod_int hI g0
    obtain ⟨k1, e1, _, _⟩ := DataW.trod_string hN g1
    obtain ⟨k2, e2, _⟩ := DataW.trod_int hI g2
    obtain ⟨k3, e3, _⟩ := DataW.trod_int hI g3
    obtain ⟨k4, e4, _⟩ := DataW.trod_int hI g4
    simp at e0 e1 e2 e3 e4
    exact ⟨⟨k0, k1, k2, k3, k4⟩, by rw [e0, e1, e2, e3, e4]; rfl⟩

set_option maxRecDepth 100000 in
theorem lifted (os : Os) (started : os.Started) (H : Type) (enc : TypeId × Value → H) :
    ReturnsInHanded {} Try.checked os 4 .any (Rows.layoutBlocksSpec.pre6 enc Try.prog Try.f4 Rows.layoutBlocksRow.domain false) (Rows.layoutBlocksSpec.post enc Try.prog Try.f4 false true false false) := by
  refine returnsInHanded_of_change (C := Try.checked) own started (by kernel_rfl) Try.func4
    (ChangeSpec.witness6 (enc := enc) (C := Try.checked) false ⟨#[], #[.slice none 0 0], []⟩ 8 (by kernel_rfl) (by kernel_rfl) (by kernel_rfl) (by kernel_rfl)) ?_
  intro W base args ds gs before hval0 hW hcnd _
  have hval : ∀ (j : Nat) t v, Try.f4.params[j]? = some t → args[j]? = some v → Value.okWide Try.prog W .any base t v := hval0
  have hW' := hW
  obtain ⟨p, q, hA0, hV, rfl, hfz, hnd⟩ := hW
  obtain ⟨rfl, rfl⟩ := trodVars_none hV
  have hA : DataW.TrodAll enc Try.prog W 0 (fun _ => true) true Try.f4.params.toList args.toList ds p := hA0
  have hA1 := hA
  rw [Try.params4] at hA hval
  obtain ⟨v0, vs0, d0, ds0, p0, q0, hargs, rfl, rfl, h0, r0⟩ := trodAll_cons hA
  obtain ⟨rfl, rfl, rfl⟩ := trodAll_nil r0
  obtain rfl : args = #[v0] := by cases args; simp_all
  obtain ⟨a0, n0, c0, rfl⟩ := okWide_slice Try.underlying47 (hval 0 _ v0 rfl rfl)
  obtain ⟨fuel0, hf0⟩ := h0
  obtain ⟨q, l, cap, he0, hl, hc, hs⟩ := elems_of (f := Go.Ly.tc) (sz := 5) Try.underlying47 (by kernel_rfl) (by decide) Go.Ly.tlen (fun n cs' y _ hy => tok_of Try.underlying51 Try.underlying9 Try.underlying3 ⟨rfl, rfl⟩ ⟨rfl, rfl⟩ ⟨rfl, rfl⟩ ⟨rfl, rfl⟩ ⟨rfl, rfl⟩ (by kernel_rfl) (by kernel_rfl) (by kernel_rfl) hy) hf0
  simp only [Value.cells, List.cons.injEq, Value.slice.injEq, and_true] at he0
  obtain ⟨rfl, rfl, rfl⟩ := he0
  unfold maxLen at hc
  simp only [List.append_nil] at hW' hA1
  refine (ly.law_calls _ _ l W (by omega) hs).mono fun e W' ⟨he, hx⟩ => ⟨_, he, ?_⟩
  exact law_post laidOut (by kernel_rfl) rfl rfl Try.underlying4 rfl hW' hA1 hx.below

theorem proved : Rows.LayoutBlocksSaid :=
  OpenClaim.holds_of_wide 4 Try.f4 rfl rfl rfl rfl rfl rfl rfl ⟨rfl, rfl, rfl, rfl, rfl⟩ rfl rfl rfl rfl rfl (by kernel_rfl) Try.func4 (by kernel_rfl)
    (of_decide_eq_true (by kernel_rfl)) (by unfold Func.isWrapper; first | (rw [if_pos (by decide +kernel)]; kernel_rfl) | (rw [if_neg (by decide +kernel)]; exact ⟨rfl, rfl⟩))
    (fun os started H enc _ => lifted os started H enc)
#print axioms proved
end Go.Proofs.Ytlcclcakdfmgkaa.layoutBlocks
