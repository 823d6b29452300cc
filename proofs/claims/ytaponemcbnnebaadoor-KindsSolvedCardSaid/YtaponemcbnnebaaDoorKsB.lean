/- Plain: the solver's slots of parameters and the reference's places. No condition. -/
import Derived.Test.YtaponemcbnnebaaDoorKsA
namespace Go.Ki
open Go.Eng Go.RowKit
set_option linter.unusedVariables false
set_option linter.unusedSimpArgs false
theorem psF_shift (kn : List ByteArray) (nm : ByteArray) (c : Nat) : ∀ (ds : List DS) (a : Nat), psF kn nm ds (fiOf ds (c + a)) = (psF kn nm ds (fiOf ds a)).map fun l => l.map (c + ·)
  | [], a => by
    simp only [fiOf, psF]
    split <;> simp
  | d :: r, a => by
    simp only [fiOf, psF]
    by_cases h : d.nm = nm
    · rw [if_pos h, if_pos h]
      simp [Nat.add_assoc]
    · rw [if_neg h, if_neg h, Nat.add_assoc, psF_shift kn nm c r (a + d.params)]
theorem fOf_add (flat : List Int) (s : Nat) : fOf flat (3 + s) = flat.getD s 0 := fOf_get (m := s + 1) (by omega)
theorem pkF_eq (ds : List DS) (flat : List Int) (nm : ByteArray) : pkF [] ds (fiOf ds 3) (fOf flat) nm = pkR ds flat nm := by
  unfold pkF pkR
  rw [show (3 : Nat) = 3 + 0 from rfl, psF_shift [] nm 3 ds 0, Option.map_map]
  congr 1
  funext l
  simp only [Function.comp, List.map_map]
  exact List.map_congr_left fun s _ => fOf_add flat s
/-- the slots of data type i -/
def slotsOf (ds : List DS) (i : Nat) : List Nat := (List.range ((ds.getD i ⟨⟨#[]⟩, 0, none, 0, 0⟩).params)).map fun p => 3 + (bsum ds i + p)
theorem vs_eq (ds : List DS) (flat : List Int) (i : Nat) : (slotsOf ds i).map (fOf flat) = vsR ds flat i := by
  unfold slotsOf vsR
  rw [List.map_map]
  exact List.map_congr_left fun p _ => fOf_add flat _
/-- names that are all different find their own place -/
theorem psF_own {ds : List DS} {i : Nat} {d : DS} (hd : ds[i]? = some d) (hn : ∀ (j : Nat) (e : DS), j < i → ds[j]? = some e → e.nm ≠ d.nm) : psF [] d.nm ds (fiOf ds 3) = some (slotsOf ds i) := by
  have key : ∀ j, j ≤ i → psF [] d.nm (ds.drop j) ((fiOf ds 3).drop j) = some (slotsOf ds i) := by
    intro j hj
    induction h : i - j generalizing j with
    | zero =>
      obtain rfl : j = i := by omega
      have hil := (List.getElem?_eq_some_iff.1 hd).1
      rw [psF_get hd (fiOf_get hil), if_pos rfl]
      unfold slotsOf
      have : ds.getD j ⟨⟨#[]⟩, 0, none, 0, 0⟩ = d := by simp [List.getD, hd]
      rw [this]
      simp [Nat.add_assoc]
    | succ m ih =>
      have hil := (List.getElem?_eq_some_iff.1 hd).1
      have hje : ds[j]? = some ds[j] := List.getElem?_eq_getElem (by omega)
      rw [psF_get hje (fiOf_get (by omega)), if_neg (hn j _ (by omega) hje)]
      exact ih (j + 1) (by omega) (by omega)
  have := key 0 (by omega)
  simpa using this
end Go.Ki
