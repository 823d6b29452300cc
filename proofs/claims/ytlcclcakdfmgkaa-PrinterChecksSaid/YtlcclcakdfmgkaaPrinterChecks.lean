/-
  Proved: PrinterChecks returns true for every list of nodes: Check of the program and TreeError of the reference give the same error. Conditions: none.
-/
import Derived.Test.YtlcclcakdfmgkaaPkK
import Derived.WalkKit
import Derived.ProofKit
import Derived.OpenShut
import Derived.SizedLaws
import Derived.ChangeMaps5
namespace Go.Proofs.Ytlcclcakdfmgkaa.printerChecks
open Go.ChangeShapes Go.WideShapes Go.ChangeAt Go.RowKit Go.Eng Go.ChangeMaps
set_option linter.unusedVariables false
set_option linter.unusedSimpArgs false

theorem own : ownKnob Try.prog.godebug = none := by kernel_rfl
theorem laidOut : laidOutB Try.prog = true := by kernel_rfl

open Go.Pk in
theorem cat_ins : ∀ l : List Int, cat (fun k => [Value.int .i64 k]) l = ins l
  | [] => rfl
  | k :: l => by rw [cat, cat_ins l]; rfl
open Go.Pk in
theorem node_of {H : Type} {enc : TypeId × Value → H} {P : Program} {w : World} {spare : Nat → Bool} {held : Bool} {tT tN tI tS : TypeId} {f0 f1 f2 f3 f4 f5 : Field} {fuel : Nat} {cs : List Value} {x : DataW H × List MemPlace} (hT : P.underlying tT = some (.struct #[f0, f1, f2, f3, f4, f5])) (hN : P.underlying tN = some .string) (hI : P.underlying tI = some (.int .i64)) (hS : P.underlying tS = some (.slice tI))
    (h0 : f0.type = tI ∧ f0.offset = 0) (h1 : f1.type = tN ∧ f1.offset = 1) (h2 : f2.type = tI ∧ f2.offset = 2) (h3 : f3.type = tS ∧ f3.offset = 3) (h4 : f4.type = tI ∧ f4.offset = 4) (h5 : f5.type = tI ∧ f5.offset = 5) (cT : P.cellsOf tT = 6) (cN : P.cellsOf tN = 1) (cI : P.cellsOf tI = 1) (cS : P.cellsOf tS = 1) (bI : P.bytesOf tI = 8)
    (h : DataW.trod enc P w 0 spare held fuel tT cs = some x) (hw : Lt P tT x.1) : ∃ u : Nk, cs = nc u ∧ (u.kids.length * 8 ≤ 140737488351232 ∧ SlAt w w.heap.size u.q (ins u.kids)) := by
  obtain ⟨hlen, n, _, hf⟩ := rd_struct hT h hw
  rw [cT] at hlen
  match cs, hlen with
  | [a0, a1, a2, a3, a4, a5], _ =>
    obtain ⟨y0, g0, _⟩ := hf 0 f0 rfl
    obtain ⟨y1, g1, _⟩ := hf 1 f1 rfl
    obtain ⟨y2, g2, _⟩ := hf 2 f2 rfl
    obtain ⟨y3, g3, l3⟩ := hf 3 f3 rfl
    obtain ⟨y4, g4, _⟩ := hf 4 f4 rfl
    obtain ⟨y5, g5, _⟩ := hf 5 f5 rfl
    rw [h0.1, h0.2, cI] at g0
    rw [h1.1, h1.2, cN] at g1
    rw [h2.1, h2.2, cI] at g2
    rw [h3.1, h3.2, cS] at g3
    rw [h3.1] at l3
    rw [h4.1, h4.2, cI] at g4
    rw [h5.1, h5.2, cI] at g5
    obtain ⟨k0, e0, _⟩ := DataW.trod_int hI g0
    obtain ⟨k1, e1, _, _⟩ := DataW.trod_string hN g1
    obtain ⟨k2, e2, _⟩ := DataW.trod_int hI g2
    obtain ⟨q, l, cap, e3, _, _, hwt, hsl, _⟩ := rd_slice (α := Int) (f := fun k => [Value.int .i64 k]) (sz := 1) (R := fun _ => True) hS cI (by decide) (fun _ => rfl) (fun m cs' y _ hy _ => by
      obtain ⟨k, ek, _⟩ := DataW.trod_int hI hy
      exact ⟨k, ek, trivial⟩) g3 l3
    obtain ⟨k4, e4, _⟩ := DataW.trod_int hI g4
    obtain ⟨k5, e5, _⟩ := DataW.trod_int hI g5
    simp at e0 e1 e2 e3 e4 e5
    rw [bI] at hwt
    refine ⟨⟨k0, k1, k2, l, q, cap, k4, k5⟩, by rw [e0, e1, e2, e3, e4, e5]; rfl, hwt, ?_⟩
    have e := cat_ins l
    rwa [e] at hsl

set_option maxRecDepth 100000 in
theorem lifted (os : Os) (started : os.Started) (H : Type) (enc : TypeId × Value → H) :
    ReturnsInHanded {} Try.checked os 5 .any (Rows.printerChecksSpec.pre6 enc Try.prog Try.f5 Rows.printerChecksRow.domain false) (Rows.printerChecksSpec.post enc Try.prog Try.f5 false true false false) := by
  refine returnsInHanded_of_change_sized (C := Try.checked) own started (by kernel_rfl) Try.func5
    (ChangeSpec.witness6 (enc := enc) (C := Try.checked) false ⟨#[], #[.slice none 0 0], []⟩ 8 (by kernel_rfl) (by kernel_rfl) (by kernel_rfl) (by kernel_rfl)) ?_
  intro W base args ds gs before hval0 hW hcnd hsz0 _
  have hval : ∀ (j : Nat) t v, Try.f5.params[j]? = some t → args[j]? = some v → Value.okWide Try.prog W .any base t v := hval0
  have hsz : (DataW.weightsEach Try.prog (Try.f5.params.toList ++ Rows.printerChecksSpec.plain.varTypes Try.prog) (ds ++ gs)).all (· ≤ reachBytes) = true := hsz0
  have hW' := hW
  obtain ⟨p, q, hA0, hV, rfl, hfz, hnd⟩ := hW
  obtain ⟨rfl, rfl⟩ := trodVars_none hV
  have hA : DataW.TrodAll enc Try.prog W 0 (fun _ => true) true Try.f5.params.toList args.toList ds p := hA0
  have hA1 := hA
  rw [Try.params5] at hA hval hsz
  obtain ⟨v0, vs0, d0, ds0, p0, q0, hargs, rfl, rfl, h0, r0⟩ := trodAll_cons hA
  obtain ⟨rfl, rfl, rfl⟩ := trodAll_nil r0
  obtain rfl : args = #[v0] := by cases args; simp_all
  obtain ⟨a0, n0, c0, rfl⟩ := okWide_slice Try.underlying56 (hval 0 _ v0 rfl rfl)
  obtain ⟨fuel0, hf0⟩ := h0
  have hw0 := Lt.arg hsz (j := 0) (t := 56) rfl rfl
  obtain ⟨q, l, cap, he0, hl, hc, _, hs, hR⟩ := rd_slice (f := Go.Pk.nc) (sz := 6) Try.underlying56 (by kernel_rfl) (by decide) Go.Pk.nlen (fun n cs' y _ hy hyw => node_of Try.underlying60 Try.underlying9 Try.underlying3 Try.underlying58 ⟨rfl, rfl⟩ ⟨rfl, rfl⟩ ⟨rfl, rfl⟩ ⟨rfl, rfl⟩ ⟨rfl, rfl⟩ ⟨rfl, rfl⟩ (by kernel_rfl) (by kernel_rfl) (by kernel_rfl) (by kernel_rfl) (by kernel_rfl) hy hyw) hf0 hw0
  simp only [Value.cells, List.cons.injEq, Value.slice.injEq, and_true] at he0
  obtain ⟨rfl, rfl, rfl⟩ := he0
  unfold maxLen at hc
  simp only [List.append_nil] at hW' hA1
  refine (pk.law_calls _ _ l W (by omega) hl ⟨hs, hR⟩).mono fun e W' ⟨he, hx⟩ => ⟨_, he, ?_⟩
  exact law_post laidOut (by kernel_rfl) rfl rfl Try.underlying4 rfl hW' hA1 hx.below

theorem proved : Rows.PrinterChecksSaid :=
  OpenClaim.holds_of_wide 5 Try.f5 rfl rfl rfl rfl rfl rfl rfl ⟨rfl, rfl, rfl, rfl, rfl⟩ rfl rfl rfl rfl rfl (by kernel_rfl) Try.func5 (by kernel_rfl)
    (of_decide_eq_true (by kernel_rfl)) (by unfold Func.isWrapper; first | (rw [if_pos (by decide +kernel)]; kernel_rfl) | (rw [if_neg (by decide +kernel)]; exact ⟨rfl, rfl⟩))
    (fun os started H enc _ => lifted os started H enc)
#print axioms proved
end Go.Proofs.Ytlcclcakdfmgkaa.printerChecks
