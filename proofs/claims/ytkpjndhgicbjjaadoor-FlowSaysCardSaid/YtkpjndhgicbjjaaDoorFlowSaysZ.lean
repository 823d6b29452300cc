/-
  Proved: FlowSays returns true for every argument: Of agrees with the reference's flow, and both with the least solution. Conditions: the tables core.arity and math/bits.deBruijn64tab read as the program's text lays them (the card ties them).
-/
import Derived.Test.YtkpjndhgicbjjaaDoorCards
import Derived.Test.YtkpjndhgicbjjaaDoorTie
import Derived.WalkKit
import Derived.ProofKit
import Derived.OpenShut
import Derived.SizedLaws
import Derived.Deep.DeepHandedRow
import Derived.Lib.LaidTab
import Derived.LaidSub
import Derived.Test.YtkpjndhgicbjjaaDoorFlowSays6
set_option linter.unusedVariables false
set_option linter.unusedSimpArgs false
namespace Go.Proofs.YtkpjndhgicbjjaaDoor.flowSays
open Go.ChangeShapes Go.WideShapes Go.ChangeAt Go.RowKit Go.Eng
theorem own : ownKnob Tryd.prog.godebug = none := by kernel_rfl
theorem laidOut : laidOutB Tryd.prog = true := by kernel_rfl
theorem gTab : Tryd.prog.globalNamed "provenance/core.arity" = some 1 := by kernel_rfl
theorem gTabType : (Tryd.prog.globals[1]?).map (·.type) = some 109 := by kernel_rfl
theorem cellsTab : Tryd.prog.cellsOf 109 = 12 := by kernel_rfl
theorem gTz : Tryd.prog.globalNamed "math/bits.deBruijn64tab" = some 0 := by kernel_rfl
theorem gTzType : (Tryd.prog.globals[0]?).map (·.type) = some 90 := by kernel_rfl
theorem cellsTz : Tryd.prog.cellsOf 90 = 64 := by kernel_rfl
theorem cellsByte : Tryd.prog.cellsOf 5 = 1 := by kernel_rfl
theorem cellsInt : Tryd.prog.cellsOf 3 = 1 := by kernel_rfl
theorem table {W : World} (h : laidMetH Tryd.prog Rows.flowSaysRow.laid W) : 1 < W.heap.size ∧ co.arityAt W := by
  have ht : Lib.TabIs Tryd.prog W "provenance/core.arity" .i64 [2, 2, 2, 2, 2, 2, 2, 1, 2, 1, 2, 3] :=
    Lib.tabIs_of_head (rest := []) gTab gTabType Tryd.underlying109 Tryd.underlying3 cellsInt cellsTab (laidMet.filter (fun x => x.1 == "provenance/core.arity") h)
  have hc : ∀ i, i < 12 → W.cell? ⟨1, i, none⟩ = some (.int .i64 (([2, 2, 2, 2, 2, 2, 2, 1, 2, 1, 2, 3] : List Int).getD i 0)) := fun i hi => ht.cell gTab i hi
  refine ⟨cell_lt (hc 0 (by omega)), fun j v hj => ?_⟩
  rw [add_mid, Nat.zero_add]
  have hj6 : j < 12 := by
    have := (List.getElem?_eq_some_iff.1 hj).1
    simpa using this
  rw [hc j hj6, ← hj]
  match j, hj6 with
  | 0, _ => rfl
  | 1, _ => rfl
  | 2, _ => rfl
  | 3, _ => rfl
  | 4, _ => rfl
  | 5, _ => rfl
  | 6, _ => rfl
  | 7, _ => rfl
  | 8, _ => rfl
  | 9, _ => rfl
  | 10, _ => rfl
  | 11, _ => rfl
theorem tableTz {W : World} (h : laidMetH Tryd.prog Rows.flowSaysRow.laid W) : 0 < W.heap.size ∧ co.tzAt W := by
  have ht : Lib.TabIs Tryd.prog W "math/bits.deBruijn64tab" .u8 (Lib.deBruijn64tab.map fun (z : Nat) => (z : Int)) :=
    Lib.tabIs_of_head gTz gTzType Tryd.underlying90 Tryd.underlying5 cellsByte cellsTz h
  have hc : ∀ i, i < 64 → W.cell? ⟨0, i, none⟩ = some (.int .u8 ((Lib.deBruijn64tab.map fun (z : Nat) => (z : Int)).getD i 0)) := fun i hi => ht.cell gTz i hi
  refine ⟨cell_lt (hc 0 (by omega)), fun j hj => ?_⟩
  rw [hc j hj]
  congr 2
  rw [List.getD_eq_getElem?_getD, List.getD_eq_getElem?_getD, List.getElem?_map]
  have : Lib.deBruijn64tab[j]? = some Lib.deBruijn64tab[j] := List.getElem?_eq_getElem hj
  rw [this]
  rfl
set_option maxHeartbeats 1000000 in
set_option maxRecDepth 100000 in
theorem contract (H : Type) (enc : TypeId × Value → H) (W : World) (base : Nat) (args : Array Value) (ds gs : List (DataW H)) (before : List MemPlace)
    (hval : ∀ (j : Nat) t v, Tryd.f3.params[j]? = some t → args[j]? = some v → Value.okWide Tryd.prog W .any base t v)
    (hW : DataW.Whole enc Tryd.prog Tryd.f3.params.toList Rows.flowSaysSpec.vars false W args.toList ds gs before)
    (hsz : (DataW.weightsEach Tryd.prog (Tryd.f3.params.toList ++ (OpenSpec.ofChange Rows.flowSaysSpec).bare.plain.varTypes Tryd.prog) (ds ++ gs)).all (· ≤ reachBytes) = true) (hL : laidMetH Tryd.prog Rows.flowSaysRow.laid W) :
    Calls Tryd.prog 3 args W fun e W' => ∃ v, e = .returned v ∧ Rows.flowSaysSpec.post enc Tryd.prog Tryd.f3 false true false false W args v W' := by
  have hW' := hW
  obtain ⟨p, q, hA0, hV, rfl, hfz, hnd⟩ := hW
  obtain ⟨rfl, rfl⟩ := trodVars_none hV
  have hA1 := hA0
  rw [Tryd.params3] at hA1 hval hsz
  obtain ⟨v0, vs0, d0, ds0, p0, q0, hargs, rfl, rfl, h0, r0⟩ := trodAll_cons hA1
  obtain ⟨rfl, rfl, rfl⟩ := trodAll_nil r0
  obtain rfl : args = #[v0] := Array.ext' hargs
  obtain ⟨a0, n0, c0, rfl⟩ := okWide_slice Tryd.underlying22 (hval 0 22 v0 rfl rfl)
  obtain ⟨fuel0, hf0⟩ := h0
  have hlt0 := Lt.arg hsz (j := 0) (t := 22) rfl rfl
  obtain ⟨b0, l0, cap0, he0, hl0, hc0, harr0⟩ := co.exprs_rd2 hf0 hlt0
  simp only [Value.cells, List.cons.injEq, Value.slice.injEq, and_true] at he0
  obtain ⟨rfl, rfl, rfl⟩ := he0
  obtain ⟨hg, hs⟩ := table hL
  obtain ⟨hTg, hT⟩ := tableTz hL
  simp only [List.append_nil] at hW'
  have hlaw := co.flow_law a0 c0 l0 W harr0 hl0 hc0 hg hs hTg hT
  refine hlaw.mono fun e W' ⟨he, hx⟩ => ⟨_, he, ?_⟩
  exact law_post laidOut (by kernel_rfl) rfl rfl Tryd.underlying4 rfl hW' (by simpa using hA0) hx.below
noncomputable def laidHeap (os : Os) :=
  Array.modify (Array.modify (World.holding Tryd.prog os ⟨#[], #[], []⟩).heap 1 (fun
      | .cells _ t frozen => .cells #[.int .i64 2, .int .i64 2, .int .i64 2, .int .i64 2, .int .i64 2, .int .i64 2, .int .i64 2, .int .i64 1, .int .i64 2, .int .i64 1, .int .i64 2, .int .i64 3] t frozen
      | o => o)) 0 (fun
      | .cells _ t frozen => .cells #[.int .u8 0, .int .u8 1, .int .u8 56, .int .u8 2, .int .u8 57, .int .u8 49, .int .u8 28, .int .u8 3, .int .u8 61, .int .u8 58, .int .u8 42, .int .u8 50, .int .u8 38, .int .u8 29, .int .u8 17, .int .u8 4, .int .u8 62, .int .u8 47, .int .u8 59, .int .u8 36, .int .u8 45, .int .u8 43, .int .u8 51, .int .u8 22, .int .u8 53, .int .u8 39, .int .u8 33, .int .u8 30, .int .u8 24, .int .u8 18, .int .u8 12, .int .u8 5, .int .u8 63, .int .u8 55, .int .u8 48, .int .u8 27, .int .u8 60, .int .u8 41, .int .u8 37, .int .u8 16, .int .u8 46, .int .u8 35, .int .u8 44, .int .u8 21, .int .u8 52, .int .u8 32, .int .u8 23, .int .u8 11, .int .u8 54, .int .u8 26, .int .u8 40, .int .u8 15, .int .u8 34, .int .u8 20, .int .u8 31, .int .u8 10, .int .u8 25, .int .u8 14, .int .u8 19, .int .u8 9, .int .u8 13, .int .u8 8, .int .u8 7, .int .u8 6] t frozen
      | o => o)
noncomputable def laidWorld (os : Os) : World := { World.holding Tryd.prog os ⟨#[], #[], []⟩ with heap := laidHeap os }
theorem laid_met (os : Os) : laidMet Tryd.prog Rows.flowSaysRow.laid ((laidWorld os).forCall (fun _ _ => 0) ⟨#[], #[.slice none 0 0], []⟩).memory :=
  laidMet_of_run' 8 (by kernel_rfl) (by kernel_rfl)
theorem reads (os : Os) {H : Type} (enc : TypeId × Value → H) : ∃ places, DataW.whole enc Tryd.prog ((laidWorld os).forCall (fun _ _ => 0) ⟨#[], #[.slice none 0 0], []⟩).memory Tryd.f3.params.toList Rows.flowSaysSpec.vars false #[.slice none 0 0].toList 8 = some ([.nil], [], places) :=
  ⟨[], by kernel_rfl⟩
set_option maxRecDepth 100000 in
theorem lifted (os : Os) (started : os.Started) (H : Type) (enc : TypeId × Value → H) (F : Stop.Interp) :
    ReturnsInHanded {} Tryd.checked os 3 .any ((OpenSpec.ofChange Rows.flowSaysSpec).preRow enc Tryd.prog Tryd.f3 Rows.flowSaysRow.domain false Rows.flowSaysRow.laid) (((OpenSpec.ofChange Rows.flowSaysSpec).at F).post enc Tryd.prog Tryd.f3 false true false false) := by
  obtain ⟨places, hx⟩ := reads os enc
  refine returnsInHanded_of_row (C := Tryd.checked) (s := OpenSpec.ofChange Rows.flowSaysSpec) own started (by kernel_rfl) Tryd.func3
    (witness_row_at (enc := enc) (C := Tryd.checked) false (laidWorld os) #[.slice none 0 0] rfl (by kernel_rfl) (by kernel_rfl) (by kernel_rfl)
      (OpenSpec.preRow_of_cond 8 hx (by kernel_rfl) (fun k hk => by cases hk) (by kernel_rfl) (laid_met os))) ?_
  intro W base args ds gs before hval hW _ _ hsz hL _ _
  exact contract H enc W base args ds gs before hval hW hsz hL
theorem said : Rows.FlowSaysSaid :=
  OpenClaim.holds_of_cond 3 Tryd.f3 rfl rfl rfl rfl rfl rfl rfl ⟨rfl, rfl, rfl, rfl, rfl⟩ rfl rfl rfl rfl rfl (by kernel_rfl) Tryd.func3 (by kernel_rfl)
    (of_decide_eq_true (by kernel_rfl)) (by unfold Func.isWrapper; first | (rw [if_pos (by decide +kernel)]; kernel_rfl) | (rw [if_neg (by decide +kernel)]; exact ⟨rfl, rfl⟩))
    (fun os started H enc _ F => by rw [OpenClaim.pre_eq_preRow]; exact lifted os started H enc F)
theorem plain (f : FuncId) (fn : Func) (hf : Tryd.pinned.checked.prog.funcNamed "provenance/provenancelaw2.FlowSays" = some f) (hfn : Tryd.pinned.checked.prog.funcs[f]? = some fn) :
    false = Tryd.pinned.checked.prog.looks [] ∧ ∀ (j : Nat) t, fn.params[j]? = some t → Tryd.pinned.checked.prog.wantsStandIn t = false := by
  obtain rfl : f = 3 := Option.some.inj ((show Tryd.prog.funcNamed "provenance/provenancelaw2.FlowSays" = some 3 by kernel_rfl).symm.trans hf) |>.symm
  obtain rfl : fn = Tryd.f3 := (Option.some.inj (Tryd.func3.symm.trans hfn)).symm
  refine ⟨by kernel_rfl, fun j t ht => ?_⟩
  rw [Tryd.params3] at ht
  have hm := Array.mem_of_getElem? ht
  simp only [List.mem_toArray, List.mem_cons, List.not_mem_nil, or_false] at hm
  subst hm
  exact (show Tryd.prog.wantsStandIn 22 = false by kernel_rfl)
theorem card : Rows.FlowSaysCardSaid :=
  Claim7.holds_tied_plain_at .later [] _ _ _ _ said (fun _ h => by cases h) (by kernel_rfl) (fun _ h => by cases h) flowSays_row_tie rfl ⟨rfl, rfl⟩ (by kernel_rfl) rfl plain (by kernel_rfl)
end Go.Proofs.YtkpjndhgicbjjaaDoor.flowSays
