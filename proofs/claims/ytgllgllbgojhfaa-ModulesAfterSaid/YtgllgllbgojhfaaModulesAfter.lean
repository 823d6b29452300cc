/-
  Proved: ModulesAfter returns true for all lists of names, of imports and of changed modules: After of the program gives, sorted, what reaches the changed modules. Conditions: none.
-/
import Derived.Test.YtgllgllbgojhfaaMaL
import Derived.WalkKit
import Derived.ProofKit
import Derived.OpenShut
import Derived.SizedLaws
import Derived.ChangeMaps5
namespace Go.Proofs.Ytgllgllbgojhfaa.modulesAfter
open Go.ChangeShapes Go.WideShapes Go.ChangeAt Go.RowKit Go.Eng Go.ChangeMaps
set_option linter.unusedVariables false
set_option linter.unusedSimpArgs false

theorem own : ownKnob Try.prog.godebug = none := by kernel_rfl
theorem laidOut : laidOutB Try.prog = true := by kernel_rfl

theorem strsW_of {H : Type} {enc : TypeId × Value → H} {P : Program} {w : World} {spare : Nat → Bool} {held : Bool} {t e : TypeId} {fuel : Nat} {cs : List Value} {x : DataW H × List MemPlace} (ht : P.underlying t = some (.slice e)) (he : P.underlying e = some .string) (hs : P.cellsOf e = 1) (hb : P.bytesOf e = 16) (h : DataW.trod enc P w 0 spare held fuel t cs = some x) (hw : Lt P t x.1) :
    ∃ (q : Option Addr) (l : List ByteArray) (cap : Nat), cs = [.slice q l.length cap] ∧ l.length ≤ cap ∧ cap ≤ maxLen ∧ l.length * 16 ≤ 140737488351232 ∧ SlAt w w.heap.size q (Eng.strs l) := by
  obtain ⟨q, l, cap, h1, h2, h3, h4, h5, _⟩ := rd_slice (α := ByteArray) (f := fun s => [Value.string s]) (sz := 1) (R := fun _ => True) ht hs (by decide) (fun _ => rfl) (fun m cs' y _ hy _ => by
      obtain ⟨k, ek, _, _⟩ := DataW.trod_string he hy
      exact ⟨k, ek, trivial⟩) h hw
  rw [hb] at h4
  have e : ∀ l : List ByteArray, cat (fun s => [Value.string s]) l = Eng.strs l := fun l => by
    induction l with
    | nil => rfl
    | cons s l ih => rw [cat, ih]; rfl
  rw [e] at h5
  exact ⟨q, l, cap, h1, h2, h3, h4, h5⟩

set_option maxRecDepth 100000 in
theorem lifted (os : Os) (started : os.Started) (H : Type) (enc : TypeId × Value → H) :
    ReturnsInHanded {} Try.checked os 3 .any (Rows.modulesAfterSpec.pre6 enc Try.prog Try.f3 Rows.modulesAfterRow.domain false) (Rows.modulesAfterSpec.post enc Try.prog Try.f3 false true false false) := by
  refine returnsInHanded_of_change_sized (C := Try.checked) own started (by kernel_rfl) Try.func3
    (ChangeSpec.witness6 (enc := enc) (C := Try.checked) false ⟨#[], #[.slice none 0 0, .slice none 0 0, .slice none 0 0], []⟩ 8 (by kernel_rfl) (by kernel_rfl) (by kernel_rfl) (by kernel_rfl)) ?_
  intro W base args ds gs before hval0 hW hcnd hsz0 _
  have hval : ∀ (j : Nat) t v, Try.f3.params[j]? = some t → args[j]? = some v → Value.okWide Try.prog W .any base t v := hval0
  have hsz : (DataW.weightsEach Try.prog (Try.f3.params.toList ++ Rows.modulesAfterSpec.plain.varTypes Try.prog) (ds ++ gs)).all (· ≤ reachBytes) = true := hsz0
  have hW' := hW
  obtain ⟨p, q, hA0, hV, rfl, hfz, hnd⟩ := hW
  obtain ⟨rfl, rfl⟩ := trodVars_none hV
  have hA : DataW.TrodAll enc Try.prog W 0 (fun _ => true) true Try.f3.params.toList args.toList ds p := hA0
  have hA1 := hA
  rw [Try.params3] at hA hval hsz
  obtain ⟨v0, vs0, d0, ds0, p0, q0, hargs, rfl, rfl, h0, r0⟩ := trodAll_cons hA
  obtain ⟨v1, vs1, d1, ds1, p1, q1, rfl, rfl, rfl, h1, r1⟩ := trodAll_cons r0
  obtain ⟨v2, vs2, d2, ds2, p2, q2, rfl, rfl, rfl, h2, r2⟩ := trodAll_cons r1
  obtain ⟨rfl, rfl, rfl⟩ := trodAll_nil r2
  obtain rfl : args = #[v0, v1, v2] := by cases args; simp_all
  obtain ⟨a0, n0, c0, rfl⟩ := okWide_slice Try.underlying22 (hval 0 _ v0 rfl rfl)
  obtain ⟨a1, n1, c1, rfl⟩ := okWide_slice Try.underlying23 (hval 1 _ v1 rfl rfl)
  obtain ⟨a2, n2, c2, rfl⟩ := okWide_slice Try.underlying22 (hval 2 _ v2 rfl rfl)
  obtain ⟨fuel0, hf0⟩ := h0
  obtain ⟨fuel1, hf1⟩ := h1
  obtain ⟨fuel2, hf2⟩ := h2
  have hw2 := Lt.arg hsz (j := 2) (t := 22) rfl rfl
  obtain ⟨q, l, cap, he0, hl, hc, hs⟩ := strs_of Try.underlying22 Try.underlying9 (by kernel_rfl) hf0
  obtain ⟨q', ll, cap', he1, hl', hc', hs'⟩ := strRows_of Try.underlying23 Try.underlying22 Try.underlying9 (by kernel_rfl) (by kernel_rfl) hf1
  obtain ⟨q2, ch, cap2, he2, hl2, hc2, hwt, hs2⟩ := strsW_of Try.underlying22 Try.underlying9 (by kernel_rfl) (by kernel_rfl) hf2 hw2
  simp only [Value.cells, List.cons.injEq, Value.slice.injEq, and_true] at he0 he1 he2
  obtain ⟨rfl, rfl, rfl⟩ := he0
  obtain ⟨rfl, rfl, rfl⟩ := he1
  obtain ⟨rfl, rfl, rfl⟩ := he2
  unfold maxLen at hc hc'
  simp only [List.append_nil] at hW' hA1
  refine (mo.law_calls _ _ _ _ _ _ l ll ch W (by omega) hl hs (by omega) hs' hwt hs2).mono fun e W' ⟨he, hx⟩ => ⟨_, he, ?_⟩
  exact law_post laidOut (by kernel_rfl) rfl rfl Try.underlying4 rfl hW' hA1 hx.below

theorem proved : Rows.ModulesAfterSaid :=
  OpenClaim.holds_of_wide 3 Try.f3 rfl rfl rfl rfl rfl rfl rfl ⟨rfl, rfl, rfl, rfl, rfl⟩ rfl rfl rfl rfl rfl (by kernel_rfl) Try.func3 (by kernel_rfl)
    (of_decide_eq_true (by kernel_rfl)) (by unfold Func.isWrapper; first | (rw [if_pos (by decide +kernel)]; kernel_rfl) | (rw [if_neg (by decide +kernel)]; exact ⟨rfl, rfl⟩))
    (fun os started H enc _ => lifted os started H enc)
#print axioms proved
end Go.Proofs.Ytgllgllbgojhfaa.modulesAfter
