/-
  Proved: StoreScript returns true for every room and every script: the store and the list of pairs answer alike. Conditions: none.
-/
import Derived.Test.YtlcclcakdfmgkaaStV
import Derived.WalkKit
import Derived.ProofKit
import Derived.OpenShut
import Derived.ChangeMaps5
namespace Go.Proofs.Ytlcclcakdfmgkaa.storeScript
open Go.ChangeShapes Go.WideShapes Go.ChangeAt Go.RowKit Go.Eng Go.ChangeMaps
set_option linter.unusedVariables false

theorem own : ownKnob Try.prog.godebug = none := by kernel_rfl
theorem laidOut : laidOutB Try.prog = true := by kernel_rfl

theorem strsz_of {H : Type} {enc : TypeId × Value → H} {P : Program} {w : World} {spare : Nat → Bool} {held : Bool} {t e : TypeId} {fuel : Nat} {cs : List Value} {x : DataW H × List MemPlace} (ht : P.underlying t = some (.slice e)) (he : P.underlying e = some .string) (hs : P.cellsOf e = 1) (h : DataW.trod enc P w 0 spare held fuel t cs = some x) :
    ∃ (q : Option Addr) (l : List ByteArray) (cap : Nat), cs = [.slice q l.length cap] ∧ l.length ≤ cap ∧ cap ≤ maxLen ∧ (∀ u ∈ l, u.size ≤ maxLen) ∧ SlAt w w.heap.size q (Eng.strs l) := by
  obtain ⟨q, len, cap, rfl, hle, hcap, hq0, m, hm, hel⟩ := slice_reads ht hs h
  cases q with
  | none =>
    obtain rfl := hq0 rfl
    exact ⟨none, [], cap, rfl, hle, hcap, fun u hu => (by cases hu), SlAt.nil⟩
  | some a =>
    obtain ⟨l, hl, hr⟩ := list_of (fun i (s : ByteArray) => w.cell? (a.add (i * 1)) = some (.string s) ∧ s.size ≤ maxLen) len (fun i hi => by
      obtain ⟨cs', y, hc, hl1, ht'⟩ := hel a rfl i hi
      obtain ⟨s, e1, _, hsz⟩ := DataW.trod_string he ht'
      subst e1
      exact ⟨s, hc 0 _ rfl, hsz⟩)
    subst hl
    refine ⟨some a, l, cap, rfl, hle, hcap, fun u hu => ?_, fun hv => ⟨a, rfl, ?_, fun j v hj => ?_⟩⟩
    · obtain ⟨j, hj⟩ := List.mem_iff_getElem?.1 hu
      exact (hr j u hj).2
    · rw [strs_length] at hv
      have := (hr 0 _ (List.getElem?_eq_getElem hv)).1
      rw [Nat.zero_mul] at this
      exact cell_lt this
    · unfold Eng.strs at hj
      rw [List.getElem?_map] at hj
      obtain ⟨s, hs', rfl⟩ := Option.map_eq_some_iff.1 hj
      have := (hr j s hs').1
      rwa [Nat.mul_one] at this

set_option maxRecDepth 100000 in
theorem lifted (os : Os) (started : os.Started) (H : Type) (enc : TypeId × Value → H) :
    ReturnsInHanded {} Try.checked os 3 .any (Rows.storeScriptSpec.pre6 enc Try.prog Try.f3 Rows.storeScriptRow.domain false) (Rows.storeScriptSpec.post enc Try.prog Try.f3 false true false false) := by
  refine returnsInHanded_of_change (C := Try.checked) own started (by kernel_rfl) Try.func3
    (ChangeSpec.witness6 (enc := enc) (C := Try.checked) false ⟨#[], #[.int .i64 0, .slice none 0 0], []⟩ 8 (by kernel_rfl) (by kernel_rfl) (by kernel_rfl) (by kernel_rfl)) ?_
  intro W base args ds gs before hval0 hW hcnd _
  have hval : ∀ (j : Nat) t v, Try.f3.params[j]? = some t → args[j]? = some v → Value.okWide Try.prog W .any base t v := hval0
  have hW' := hW
  obtain ⟨p, q, hA0, hV, rfl, hfz, hnd⟩ := hW
  obtain ⟨rfl, rfl⟩ := trodVars_none hV
  have hA : DataW.TrodAll enc Try.prog W 0 (fun _ => true) true Try.f3.params.toList args.toList ds p := hA0
  have hA1 := hA
  rw [Try.params3] at hA hval
  obtain ⟨v0, vs0, d0, ds0, p0, q0, hargs, rfl, rfl, h0, r0⟩ := trodAll_cons hA
  obtain ⟨v1, vs1, d1, ds1, p1, q1, rfl, rfl, rfl, h1, r1⟩ := trodAll_cons r0
  obtain ⟨rfl, rfl, rfl⟩ := trodAll_nil r1
  obtain rfl : args = #[v0, v1] := by cases args; simp_all
  obtain ⟨a0, rfl, rfl, rfl, w0⟩ := open_int Try.underlying3 (hval 0 3 v0 rfl rfl) h0
  obtain ⟨a1, n1, c1, rfl⟩ := okWide_slice Try.underlying22 (hval 1 _ v1 rfl rfl)
  obtain ⟨fuel1, hf1⟩ := h1
  obtain ⟨q, l, cap, he1, hl, hc, hsz, hs⟩ := strsz_of Try.underlying22 Try.underlying9 (by kernel_rfl) hf1
  simp only [Value.cells, List.cons.injEq, Value.slice.injEq, and_true] at he1
  obtain ⟨rfl, rfl, rfl⟩ := he1
  unfold maxLen at hc hsz
  simp only [List.append_nil] at hW' hA1
  refine (st.law_calls a0 _ _ l W (by omega) hsz hs).mono fun e W' ⟨he, hx⟩ => ⟨_, he, ?_⟩
  exact law_post laidOut (by kernel_rfl) rfl rfl Try.underlying4 rfl hW' hA1 hx.below

theorem proved : Rows.StoreScriptSaid :=
  OpenClaim.holds_of_wide 3 Try.f3 rfl rfl rfl rfl rfl rfl rfl ⟨rfl, rfl, rfl, rfl, rfl⟩ rfl rfl rfl rfl rfl (by kernel_rfl) Try.func3 (by kernel_rfl)
    (of_decide_eq_true (by kernel_rfl)) (by unfold Func.isWrapper; first | (rw [if_pos (by decide +kernel)]; kernel_rfl) | (rw [if_neg (by decide +kernel)]; exact ⟨rfl, rfl⟩))
    (fun os started H enc _ => lifted os started H enc)
#print axioms proved
end Go.Proofs.Ytlcclcakdfmgkaa.storeScript
