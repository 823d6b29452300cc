/- Readings of slices of slices of strings. General. No condition. -/
import Derived.Test.YtgllgllbgojhfaaMoM
import Derived.Test.YtgllgllbgojhfaaGat
namespace Go.Eng
open Go.RowKit
set_option linter.unusedVariables false
set_option linter.unusedSimpArgs false
section
variable {H : Type} {enc : TypeId × Value → H} {P : Program} {w : World} {spare : Nat → Bool} {held : Bool}
/-- a slice of slices of strings that reads -/
theorem strRows_of {t e s : TypeId} {fuel : Nat} {cs : List Value} {x : DataW H × List MemPlace} (ht : P.underlying t = some (.slice e)) (he : P.underlying e = some (.slice s)) (hstr : P.underlying s = some .string) (hse : P.cellsOf e = 1) (hss : P.cellsOf s = 1)
    (h : DataW.trod enc P w 0 spare held fuel t cs = some x) :
    ∃ (q : Option Addr) (ll : List (List ByteArray)) (cap : Nat), cs = [.slice q ll.length cap] ∧ ll.length ≤ cap ∧ cap ≤ maxLen ∧ Go.Mo.StrRows w w.heap.size q ll := by
  obtain ⟨q, len, cap, rfl, hle, hcap, hq0, m, hm, hel⟩ := slice_reads ht hse h
  cases q with
  | none =>
    obtain rfl := hq0 rfl
    exact ⟨none, [], cap, rfl, hle, hcap, ⟨fun i m hm => by simp at hm⟩⟩
  | some a =>
    obtain ⟨ll, hl, hr⟩ := list_of (fun i (m : List ByteArray) => ∃ q' cap', w.cell? (a.add (i * 1)) = some (.slice q' m.length cap') ∧ m.length ≤ cap' ∧ m.length ≤ 9223372036854775807 ∧ SlAt w w.heap.size q' (strs m)) len (fun i hi => by
      obtain ⟨cs', y, hc, hl1, ht'⟩ := hel a rfl i hi
      obtain ⟨q', l, cap', rfl, h1, h2, h3⟩ := strs_of he hstr hss ht'
      unfold maxLen at h2
      exact ⟨l, q', cap', hc 0 _ rfl, h1, by omega, h3⟩)
    subst hl
    refine ⟨some a, ll, cap, rfl, hle, hcap, ⟨fun i m hm => ?_⟩⟩
    obtain ⟨q', cap', h1, h2, h3, h4⟩ := hr i m hm
    refine ⟨a, q', cap', rfl, ?_, h1, h2, h3, h4⟩
    have := cell_lt h1
    rwa [add_block] at this
end
end Go.Eng
