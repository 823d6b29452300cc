/-
  Proved: KindsSolved returns true for every list of data types: Infer of the program finds the kinds of parameters on which all solutions of the reference agree, and an error where there are none. Condition: the table unify.sizes reads as the program's text lays it (the card ties it).
-/
import Derived.Test.YtaponemcbnnebaaDoorKsF
import Derived.Test.YtaponemcbnnebaaDoorLift
import Derived.Test.YtaponemcbnnebaaDoorCards
import Derived.Test.YtaponemcbnnebaaDoorTie
import Derived.WalkKit
import Derived.ProofKit
import Derived.OpenShut
import Derived.Deep.DeepHandedRow
import Derived.Lib.LaidTab
namespace Go.Proofs.YtaponemcbnnebaaDoor.kindsSolved
open Go.ChangeShapes Go.WideShapes Go.ChangeAt Go.RowKit Go.Eng
set_option linter.unusedVariables false
set_option linter.unusedSimpArgs false

theorem own : ownKnob Tryd.prog.godebug = none := by kernel_rfl
theorem laidOut : laidOutB Tryd.prog = true := by kernel_rfl
theorem gTab : Tryd.prog.globalNamed "provenance/unify.sizes" = some 0 := by kernel_rfl
theorem gTabType : (Tryd.prog.globals[0]?).map (·.type) = some 71 := by kernel_rfl
theorem cellsTab : Tryd.prog.cellsOf 71 = 6 := by kernel_rfl
theorem cellsInt : Tryd.prog.cellsOf 3 = 1 := by kernel_rfl
theorem cellsStr : Tryd.prog.cellsOf 9 = 1 := by kernel_rfl
theorem cellsTypes : Tryd.prog.cellsOf 22 = 1 := by kernel_rfl
theorem cellsType : Tryd.prog.cellsOf 24 = 4 := by kernel_rfl

theorem table {W : World} (h : laidMetH Tryd.prog Rows.kindsSolvedRow.laid W) : 0 < W.heap.size ∧ uc.sizesAt W := by
  have ht : Lib.TabIs Tryd.prog W "provenance/unify.sizes" .i64 [0, -1, 3, 1, 0, 2] :=
    Lib.tabIs_of_head (rest := []) gTab gTabType Tryd.underlying71 Tryd.underlying3 cellsInt cellsTab h
  have hc : ∀ i, i < 6 → W.cell? ⟨0, i, none⟩ = some (.int .i64 (([0, -1, 3, 1, 0, 2] : List Int).getD i 0)) := fun i hi => ht.cell gTab i hi
  refine ⟨cell_lt (hc 0 (by omega)), fun j v hj => ?_⟩
  rw [add_mid, Nat.zero_add]
  have hj6 : j < 6 := by
    have := (List.getElem?_eq_some_iff.1 hj).1
    simpa using this
  rw [hc j hj6, ← hj]
  match j, hj6 with
  | 0, _ => rfl
  | 1, _ => rfl
  | 2, _ => rfl
  | 3, _ => rfl
  | 4, _ => rfl
  | 5, _ => rfl

section
open Go.Ki
variable {H : Type} {enc : TypeId × Value → H} {P : Program} {w : World} {spare : Nat → Bool} {held : Bool}
/-- a slice whose elements read, as a list -/
theorem rd_list {α : Type} {f : α → List Value} {sz : Nat} {R : α → Prop} {t e : TypeId} {fuel : Nat} {cs : List Value} {x : DataW H × List MemPlace} (ht : P.underlying t = some (.slice e)) (hs : P.cellsOf e = sz) (hsz : 0 < sz) (hf : ∀ x, (f x).length = sz)
    (he : ∀ (n : Nat) (cs' : List Value) (y : DataW H × List MemPlace), n < fuel → DataW.trod enc P w 0 spare held n e cs' = some y → ∃ u : α, cs' = f u ∧ R u)
    (h : DataW.trod enc P w 0 spare held fuel t cs = some x) :
    ∃ (q : Option Addr) (l : List α) (cap : Nat), cs = [.slice q l.length cap] ∧ l.length ≤ cap ∧ cap ≤ maxLen ∧ SlAt w w.heap.size q (cat f l) ∧ ∀ u ∈ l, R u := by
  obtain ⟨q, len, cap, rfl, hle, hcap, hq0, m, hm, hel⟩ := slice_reads ht hs h
  cases q with
  | none =>
    obtain rfl := hq0 rfl
    exact ⟨none, [], cap, rfl, hle, hcap, SlAt.nil, fun u hu => by cases hu⟩
  | some a =>
    obtain ⟨l, hl, hr⟩ := list_of (fun i (u : α) => CellsAt w (a.add (i * sz)) (f u) ∧ R u) len (fun i hi => by
      obtain ⟨cs', y, hc, hl1, ht'⟩ := hel a rfl i hi
      obtain ⟨u, rfl, hR⟩ := he m cs' y hm ht'
      exact ⟨u, hc, hR⟩)
    subst hl
    refine ⟨some a, l, cap, rfl, hle, hcap, fun hv => ⟨a, rfl, ?_, fun j v hj => ?_⟩, fun u hu => ?_⟩
    · rw [cat_length hf] at hv
      have hl0 : 0 < l.length := Nat.pos_of_mul_pos_right hv
      have h0 := (hr 0 _ (List.getElem?_eq_getElem hl0)).1
      rw [Nat.zero_mul, add_zero_] at h0
      have hz : 0 < (f l[0]).length := by rw [hf]; exact hsz
      have := h0 0 _ (List.getElem?_eq_getElem hz)
      rw [add_zero_] at this
      exact cell_lt this
    · have hjl := (List.getElem?_eq_some_iff.1 hj).1
      rw [cat_length hf] at hjl
      have hi : j / sz < l.length := Nat.div_lt_of_lt_mul (by rwa [Nat.mul_comm] at hjl)
      have h0 := (hr (j / sz) _ (List.getElem?_eq_getElem hi)).1
      have hm' : j % sz < (f l[j / sz]).length := by rw [hf]; exact Nat.mod_lt _ hsz
      have h1 := cat_get hf (List.getElem?_eq_getElem hi) (j % sz) _ (List.getElem?_eq_getElem hm')
      have ej : j / sz * sz + j % sz = j := by rw [Nat.mul_comm]; exact Nat.div_add_mod j sz
      rw [ej, hj] at h1
      have h2 := h0 (j % sz) _ (List.getElem?_eq_getElem hm')
      rw [add_add, ej] at h2
      rw [h2, h1]
    · obtain ⟨i, hi, rfl⟩ := List.getElem_of_mem hu
      exact (hr i _ (List.getElem?_eq_getElem hi)).2
/-- what a constructor and a data type lead to -/
structure ConR (w : World) (c : DC) : Prop where
  len : c.args.length ≤ 9223372036854775807
  ar : SlAt w w.heap.size c.q (cat tcc c.args)
  ty : ∀ a ∈ c.args, TyC w w.heap.size a.t (tcc a)
structure DatR (w : World) (d : DJ) : Prop where
  rng : I64 d.params
  len : d.cons.length ≤ 9223372036854775807
  co : SlAt w w.heap.size d.q (cat coc d.cons)
  el : ∀ c ∈ d.cons, ConR w c
theorem con_of {tC tN tS tT : TypeId} {f0 f1 : Field} {fuel : Nat} {cs : List Value} {x : DataW H × List MemPlace} (hC : P.underlying tC = some (.struct #[f0, f1])) (hN : P.underlying tN = some .string) (hS : P.underlying tS = some (.slice tT))
    (h0 : f0.type = tN ∧ f0.offset = 0) (h1 : f1.type = tS ∧ f1.offset = 1) (cC : P.cellsOf tC = 2) (cN : P.cellsOf tN = 1) (cS : P.cellsOf tS = 1) (cT : P.cellsOf tT = 4)
    (hty : ∀ (n : Nat) (cs' : List Value) (y : DataW H × List MemPlace), DataW.trod enc P w 0 spare held n tT cs' = some y → ∃ t, TyC w w.heap.size t cs')
    (h : DataW.trod enc P w 0 spare held fuel tC cs = some x) : ∃ u : DC, cs = coc u ∧ ConR w u := by
  obtain ⟨xs, n, hfu, hx, hlen, hxl, hf⟩ := DataW.trod_struct hC h
  rw [cC] at hlen
  match cs, hlen with
  | [a0, a1], _ =>
    have g0 := hf 0 f0 rfl
    have g1 := hf 1 f1 rfl
    simp only [List.size_toArray, List.length_cons, List.length_nil] at hxl
    rw [h0.1, h0.2, cN, List.getElem?_eq_getElem (by omega)] at g0
    rw [h1.1, h1.2, cS, List.getElem?_eq_getElem (by omega)] at g1
    obtain ⟨nm, e0, _, _⟩ := DataW.trod_string hN g0
    obtain ⟨q, l, cap, e1, hl, hc, hsl, hR⟩ := rd_list (f := tcc) (sz := 4) (R := fun p : Pa => TyC w w.heap.size p.t (tcc p)) hS cT (by decide) tcc_len (fun m cs' y _ hy => by
      obtain ⟨t, ht⟩ := hty m cs' y hy
      obtain ⟨p, rfl, hp⟩ := TyC.pa ht
      exact ⟨p, hp, by rw [← hp]; exact ht⟩) g1
    simp at e0 e1
    unfold maxLen at hc
    exact ⟨⟨nm, q, cap, l⟩, by rw [e0, e1]; rfl, ⟨by show l.length ≤ _; omega, hsl, hR⟩⟩
theorem dat_of {tD tI tN tS tC : TypeId} {f0 f1 f2 : Field} {fuel : Nat} {cs : List Value} {x : DataW H × List MemPlace} (hD : P.underlying tD = some (.struct #[f0, f1, f2])) (hN : P.underlying tN = some .string) (hI : P.underlying tI = some (.int .i64)) (hS : P.underlying tS = some (.slice tC))
    (h0 : f0.type = tN ∧ f0.offset = 0) (h1 : f1.type = tI ∧ f1.offset = 1) (h2 : f2.type = tS ∧ f2.offset = 2) (cD : P.cellsOf tD = 3) (cN : P.cellsOf tN = 1) (cI : P.cellsOf tI = 1) (cS : P.cellsOf tS = 1) (cC : P.cellsOf tC = 2)
    (hco : ∀ (n : Nat) (cs' : List Value) (y : DataW H × List MemPlace), DataW.trod enc P w 0 spare held n tC cs' = some y → ∃ u : DC, cs' = coc u ∧ ConR w u)
    (h : DataW.trod enc P w 0 spare held fuel tD cs = some x) : ∃ u : DJ, cs = djc u ∧ DatR w u := by
  obtain ⟨xs, n, hfu, hx, hlen, hxl, hf⟩ := DataW.trod_struct hD h
  rw [cD] at hlen
  match cs, hlen with
  | [a0, a1, a2], _ =>
    have g0 := hf 0 f0 rfl
    have g1 := hf 1 f1 rfl
    have g2 := hf 2 f2 rfl
    simp only [List.size_toArray, List.length_cons, List.length_nil] at hxl
    rw [h0.1, h0.2, cN, List.getElem?_eq_getElem (by omega)] at g0
    rw [h1.1, h1.2, cI, List.getElem?_eq_getElem (by omega)] at g1
    rw [h2.1, h2.2, cS, List.getElem?_eq_getElem (by omega)] at g2
    obtain ⟨nm, e0, _, _⟩ := DataW.trod_string hN g0
    obtain ⟨k, e1, hk⟩ := DataW.trod_int hI g1
    obtain ⟨q, l, cap, e2, hl, hc, hsl, hR⟩ := rd_list (f := coc) (sz := 2) (R := ConR w) hS cC (by decide) coc_len (fun m cs' y _ hy => hco m cs' y hy) g2
    simp at e0 e1 e2
    unfold maxLen at hc
    exact ⟨⟨nm, k, q, cap, l⟩, by rw [e0, e1, e2]; rfl, ⟨wf_i64 hk.2, by show l.length ≤ _; omega, hsl, hR⟩⟩
end

theorem contract (H : Type) (enc : TypeId × Value → H) (W : World) (base : Nat) (args : Array Value) (ds gs : List (DataW H)) (before : List MemPlace)
    (hval : ∀ (j : Nat) t v, Tryd.f5.params[j]? = some t → args[j]? = some v → Value.okWide Tryd.prog W .any base t v)
    (hW : DataW.Whole enc Tryd.prog Tryd.f5.params.toList Rows.kindsSolvedSpec.vars false W args.toList ds gs before) (hL : laidMetH Tryd.prog Rows.kindsSolvedRow.laid W) :
    Calls Tryd.prog 5 args W fun e W' => ∃ v, e = .returned v ∧ Rows.kindsSolvedSpec.post enc Tryd.prog Tryd.f5 false true false false W args v W' := by
  have hW' := hW
  obtain ⟨p, q, hA0, hV, rfl, hfz, hnd⟩ := hW
  obtain ⟨rfl, rfl⟩ := trodVars_none hV
  have hA1 := hA0
  rw [Tryd.params5] at hA1 hval
  obtain ⟨v0, vs0, d0, ds0, p0, q0, hargs, rfl, rfl, h0, r0⟩ := trodAll_cons hA1
  obtain ⟨rfl, rfl, rfl⟩ := trodAll_nil r0
  obtain rfl : args = #[v0] := by cases args; simp_all
  obtain ⟨a0, n0, c0, rfl⟩ := okWide_slice Tryd.underlying41 (hval 0 _ v0 rfl rfl)
  obtain ⟨fuel0, hf0⟩ := h0
  obtain ⟨q, l, cap, he0, hl, hc, hsl, hR⟩ := rd_list (f := Go.Ki.djc) (sz := 3) (R := DatR W) Tryd.underlying41 (by kernel_rfl) (by decide) Go.Ki.djc_len (fun n cs' y _ hy => dat_of Tryd.underlying38 Tryd.underlying9 Tryd.underlying3 Tryd.underlying36 ⟨rfl, rfl⟩ ⟨rfl, rfl⟩ ⟨rfl, rfl⟩ (by kernel_rfl) cellsStr cellsInt (by kernel_rfl) (by kernel_rfl)
    (fun m cs2 y2 hy2 => con_of Tryd.underlying40 Tryd.underlying9 Tryd.underlying22 ⟨rfl, rfl⟩ ⟨rfl, rfl⟩ (by kernel_rfl) cellsStr cellsTypes cellsType
      (fun k cs3 y3 hy3 => ty_of Tryd.underlying24 Tryd.underlying3 Tryd.underlying9 Tryd.underlying22 ⟨rfl, rfl⟩ ⟨rfl, rfl⟩ ⟨rfl, rfl⟩ ⟨rfl, rfl⟩ cellsInt cellsStr cellsTypes cellsType k hy3) hy2) hy) hf0
  simp only [Value.cells, List.cons.injEq, Value.slice.injEq, and_true] at he0
  obtain ⟨rfl, rfl, rfl⟩ := he0
  unfold maxLen at hc
  obtain ⟨hg, hs⟩ := table hL
  simp only [List.append_nil] at hW'
  have hlaw := ki.slaw _ _ l W hl (by omega) ⟨hsl, fun d hd => (hR d hd).co, fun d hd c hc => ((hR d hd).el c hc).ar, fun d hd c hc => ((hR d hd).el c hc).ty, fun d hd => (hR d hd).rng, fun d hd => ⟨(hR d hd).len, fun c hc => ((hR d hd).el c hc).len⟩⟩ hg hs
  refine hlaw.mono fun e W' ⟨he, hx⟩ => ⟨_, he, ?_⟩
  exact law_post laidOut (by kernel_rfl) rfl rfl Tryd.underlying4 rfl hW' (by simpa using hA0) hx.below

noncomputable def laidWorld (os : Os) : World :=
  { World.holding Tryd.prog os ⟨#[], #[], []⟩ with heap := (World.holding Tryd.prog os ⟨#[], #[], []⟩).heap.modify 0 fun
      | .cells _ t frozen => .cells #[.int .i64 0, .int .i64 (-1), .int .i64 3, .int .i64 1, .int .i64 0, .int .i64 2] t frozen
      | o => o }
theorem laid_met (os : Os) : laidMet Tryd.prog Rows.kindsSolvedRow.laid ((laidWorld os).forCall (fun _ _ => 0) ⟨#[], #[.slice none 0 0], []⟩).memory :=
  laidMet_of_run' 8 (by kernel_rfl) (by kernel_rfl)
theorem reads (os : Os) {H : Type} (enc : TypeId × Value → H) : ∃ places, DataW.whole enc Tryd.prog ((laidWorld os).forCall (fun _ _ => 0) ⟨#[], #[.slice none 0 0], []⟩).memory Tryd.f5.params.toList Rows.kindsSolvedSpec.vars false #[Value.slice none 0 0].toList 8 = some ([.nil], [], places) :=
  ⟨[], by kernel_rfl⟩

set_option maxRecDepth 100000 in
theorem lifted (os : Os) (started : os.Started) (H : Type) (enc : TypeId × Value → H) (F : Stop.Interp) :
    ReturnsInHanded {} Tryd.checked os 5 .any ((OpenSpec.ofChange Rows.kindsSolvedSpec).preRow enc Tryd.prog Tryd.f5 Rows.kindsSolvedRow.domain false Rows.kindsSolvedRow.laid) (((OpenSpec.ofChange Rows.kindsSolvedSpec).at F).post enc Tryd.prog Tryd.f5 false true false false) := by
  obtain ⟨places, hx⟩ := reads os enc
  refine returnsInHanded_of_row (C := Tryd.checked) (s := OpenSpec.ofChange Rows.kindsSolvedSpec) own started (by kernel_rfl) Tryd.func5
    (witness_row_at (enc := enc) (C := Tryd.checked) false (laidWorld os) #[.slice none 0 0] rfl (by kernel_rfl) (by kernel_rfl) (by kernel_rfl)
      (OpenSpec.preRow_of_cond 8 hx (by kernel_rfl) (fun k hk => by cases hk) (by kernel_rfl) (laid_met os))) ?_
  intro W base args ds gs before hval hW _ _ _ hL _ _
  exact contract H enc W base args ds gs before hval hW hL

theorem said : Rows.KindsSolvedSaid :=
  OpenClaim.holds_of_cond 5 Tryd.f5 rfl rfl rfl rfl rfl rfl rfl ⟨rfl, rfl, rfl, rfl, rfl⟩ rfl rfl rfl rfl rfl (by kernel_rfl) Tryd.func5 (by kernel_rfl)
    (of_decide_eq_true (by kernel_rfl)) (by unfold Func.isWrapper; first | (rw [if_pos (by decide +kernel)]; kernel_rfl) | (rw [if_neg (by decide +kernel)]; exact ⟨rfl, rfl⟩))
    (fun os started H enc _ F => by rw [OpenClaim.pre_eq_preRow]; exact lifted os started H enc F)

theorem plain (f : FuncId) (fn : Func) (hf : Tryd.pinned.checked.prog.funcNamed "provenance/provenancelaw1.KindsSolved" = some f) (hfn : Tryd.pinned.checked.prog.funcs[f]? = some fn) :
    false = Tryd.pinned.checked.prog.looks [] ∧ ∀ (j : Nat) t, fn.params[j]? = some t → Tryd.pinned.checked.prog.wantsStandIn t = false := by
  obtain rfl : f = 5 := Option.some.inj ((show Tryd.prog.funcNamed "provenance/provenancelaw1.KindsSolved" = some 5 by kernel_rfl).symm.trans hf) |>.symm
  obtain rfl : fn = Tryd.f5 := (Option.some.inj (Tryd.func5.symm.trans hfn)).symm
  refine ⟨by kernel_rfl, fun j t ht => ?_⟩
  rw [Tryd.params5] at ht
  have hm := Array.mem_of_getElem? ht
  simp only [List.mem_toArray, List.mem_cons, List.not_mem_nil, or_false] at hm
  subst hm
  exact (show Tryd.prog.wantsStandIn 41 = false by kernel_rfl)

theorem card : Rows.KindsSolvedCardSaid :=
  Claim7.holds_tied_plain_at .later [] _ _ _ _ said (fun _ h => by cases h) (by kernel_rfl) (fun _ h => by cases h) kindsSolved_row_tie rfl ⟨rfl, rfl⟩ (by kernel_rfl) rfl plain (by kernel_rfl)
end Go.Proofs.YtaponemcbnnebaaDoor.kindsSolved
