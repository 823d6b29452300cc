/- Slices that are read: their cells in a world; slices of strings. General. No condition. -/
import Derived.Test.YtlboppiogeaicaaDoorTyp
import Derived.Test.YtlboppiogeaicaaDoorRow
namespace Go.Eng
open Go.RowKit
set_option linter.unusedVariables false
set_option linter.unusedSimpArgs false

/-- the cells vs of the slice that begins at q, in blocks under B -/
def SlAt (w : World) (B : Nat) (q : Option Addr) (vs : List Value) : Prop := 0 < vs.length → ∃ a, q = some a ∧ a.block < B ∧ CellsAt w a vs
theorem SlAt.nil {w : World} {B : Nat} {q : Option Addr} : SlAt w B q [] := fun h => by simp at h
theorem SlAt.keep {w w' : World} {B B' : Nat} {q : Option Addr} {vs : List Value} (h : SlAt w B q vs) (hb : ∀ p : Addr, p.block < B → w'.cell? p = w.cell? p) (hB : B ≤ B') : SlAt w' B' q vs := fun hv => by
  obtain ⟨a, rfl, hab, hc⟩ := h hv
  exact ⟨a, rfl, by omega, fun j v hj => (hb (a.add j) (by simpa [add_block] using hab)).trans (hc j v hj)⟩
theorem SlAt.ext {w w' : World} {B : Nat} {q : Option Addr} {vs : List Value} (h : SlAt w B q vs) (hx : Ext w w') (hB : B ≤ w.heap.size) : SlAt w' w'.heap.size q vs :=
  h.keep (fun p hp => World.cell?_of_block (hx.below.block p.block (by omega))) (Nat.le_trans hB hx.size)
theorem SlAt.up {w : World} {B B' : Nat} {q : Option Addr} {vs : List Value} (h : SlAt w B q vs) (hB : B ≤ B') : SlAt w B' q vs := fun hv => by
  obtain ⟨a, rfl, hab, hc⟩ := h hv
  exact ⟨a, rfl, by omega, hc⟩
theorem blk_lt {w : World} {b : Nat} {t : TypeId} {cs : List Value} (h : (blk b t cs).holds w) : b < w.heap.size := by
  have h' : w.heap[b]? = some (.cells cs.toArray t (0, 0)) := h
  exact (Array.getElem?_eq_some_iff.1 h').1
/-- the part from o on, m cells -/
theorem SlAt.part {w : World} {B : Nat} {a : Addr} {vs us : List Value} (o : Nat) (h : SlAt w B (some a) vs) (hu : ∀ j v, us[j]? = some v → vs[o + j]? = some v) : SlAt w B (some (a.add o)) us := fun hv => by
  have h0 : us[0]? = some us[0] := List.getElem?_eq_getElem hv
  have h1 := hu 0 _ h0
  have hl := (List.getElem?_eq_some_iff.1 h1).1
  obtain ⟨a', he, hab, hc⟩ := h (by omega)
  cases he
  exact ⟨_, rfl, by simpa [add_block] using hab, fun j v hj => by rw [add_add]; exact hc _ v (hu j v hj)⟩
/-- a block that is known whole, read as a slice -/
theorem SlAt.of_blk {w : World} {b o : Nat} {t : TypeId} {cs vs : List Value} (h : (blk b t cs).holds w) (hv : ∀ j v, vs[j]? = some v → cs[o + j]? = some v) : SlAt w w.heap.size (some ⟨b, o, none⟩) vs := fun _ =>
  ⟨_, rfl, blk_lt h, fun j v hj => by rw [add_mid, blk_cell h]; exact hv j v hj⟩
theorem SlAt.of_row {w : World} {base n cap size : Nat} {O : Nat → Prop} {q : Option Addr} {e : TypeId} {xs : List Value} (h : (row base O q n cap e size xs).holds w) : SlAt w w.heap.size q xs := fun hx => by
  have h2 := h.2
  rcases h2.2 with ⟨h3, h4⟩ | ⟨g, cap', cur, h3, hb, hg, h4, h5, h6, h7⟩
  · have := h2.1
    rw [h4] at this
    omega
  · simp only [Value.slice.injEq] at h3
    obtain ⟨rfl, _⟩ := h3
    have hlt : g < w.heap.size := (Array.getElem?_eq_some_iff.1 hg).1
    refine ⟨_, rfl, hlt, fun j v hj => ?_⟩
    rw [add_mid, Nat.zero_add]
    have h' : (row base O (some ⟨g, 0, none⟩) n cap e size xs).holds w := h
    exact row_cell h' hj

/-- does l have s? -/
def hasB (l : List ByteArray) (s : ByteArray) : Bool := l.any (fun u => decide (s = u))
theorem hasB_iff {l : List ByteArray} {s : ByteArray} : hasB l s = true ↔ s ∈ l := by simp [hasB]
theorem hasB_cons (u : ByteArray) (l : List ByteArray) (s : ByteArray) : hasB (u :: l) s = (decide (s = u) || hasB l s) := rfl
/-- the slice q holds the strings l -/
def strs (l : List ByteArray) : List Value := l.map .string
theorem strs_length (l : List ByteArray) : (strs l).length = l.length := by simp [strs]
theorem strs_get {l : List ByteArray} {i : Nat} {s : ByteArray} (h : l[i]? = some s) : (strs l)[i]? = some (.string s) := by simp [strs, h]
theorem SlAt.str {w : World} {B : Nat} {q : Option Addr} {l : List ByteArray} (h : SlAt w B q (strs l)) {i : Nat} (hi : i < l.length) :
    ∃ a s, q = some a ∧ a.block < B ∧ l[i]? = some s ∧ w.cell? (a.add (i * 1)) = some (.string s) := by
  obtain ⟨a, rfl, hab, hc⟩ := h (by rw [strs_length]; omega)
  have hs : l[i]? = some l[i] := List.getElem?_eq_getElem hi
  exact ⟨a, l[i], rfl, hab, hs, by rw [Nat.mul_one]; exact hc i _ (strs_get hs)⟩
end Go.Eng
