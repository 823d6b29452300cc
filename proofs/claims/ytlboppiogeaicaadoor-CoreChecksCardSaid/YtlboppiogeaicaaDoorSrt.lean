/- A grown row that a function of the library writes over in place (a sort, a compaction). General. No condition. -/
import Derived.Test.YtlboppiogeaicaaDoorRow
import Derived.Test.YtlboppiogeaicaaDoorPop
import Derived.Sort.Grow
namespace Go.Eng
open Go.RowKit Go.Sort
set_option linter.unusedVariables false
set_option linter.unusedSimpArgs false

theorem putCells_take {α : Type} [Inhabited α] (enc : α → Value) (d : Array α) (c : Array Value) (h : d.size ≤ c.size) : (putCells enc 0 d c).toList.take d.size = d.toList.map enc := by
  apply List.ext_getElem?
  intro j
  rw [List.getElem?_take, List.getElem?_map]
  by_cases hj : j < d.size
  · rw [if_pos hj, Array.getElem?_toList, Array.getElem?_toList]
    unfold putCells
    rw [Array.getElem?_mapIdx, Array.getElem?_eq_getElem (show j < c.size by omega), Array.getElem?_eq_getElem hj]
    simp only [Option.map_some]
    rw [if_pos ⟨Nat.zero_le _, by omega⟩, Nat.sub_zero, getElem!_pos d j hj]
  · rw [if_neg hj, Array.getElem?_toList, Array.getElem?_eq_none (by omega)]; rfl
theorem putRow_heap {α : Type} [Inhabited α] (enc : α → Value) (w : World) (n g : Nat) (d : Array α) (os : Array Obj) {cur : Array Value} {e : TypeId} {fr : Nat × Nat} (hg : w.heap[g]? = some (.cells cur e fr)) :
    (grow (putRow enc (Sort.ahead w n) g 0 d) os).heap[g]? = some (.cells (putCells enc 0 d cur) e fr) := by
  have hlt : g < w.heap.size := (Array.getElem?_eq_some_iff.1 hg).1
  show ((w.heap.modify g (onCells (putCells enc 0 d))) ++ os)[g]? = _
  rw [Array.getElem?_append_left (by simpa using hlt), Array.getElem?_modify, if_pos rfl, hg]
  rfl
theorem putRow_other {α : Type} [Inhabited α] (enc : α → Value) (w : World) (n g : Nat) (d : Array α) (os : Array Obj) {k : Nat} (hk : k < w.heap.size) (hne : k ≠ g) :
    (grow (putRow enc (Sort.ahead w n) g 0 d) os).heap[k]? = w.heap[k]? := by
  show ((w.heap.modify g (onCells (putCells enc 0 d))) ++ os)[k]? = _
  rw [Array.getElem?_append_left (by simpa using hk), Array.getElem?_modify, if_neg (fun e => hne e.symm)]
theorem putRow_size {α : Type} [Inhabited α] (enc : α → Value) (w : World) (n g : Nat) (d : Array α) (os : Array Obj) : w.heap.size ≤ (grow (putRow enc (Sort.ahead w n) g 0 d) os).heap.size := by
  show _ ≤ ((w.heap.modify g (onCells (putCells enc 0 d))) ++ os).size
  simp
theorem Cls.rowPut {α : Type} [Inhabited α] {enc : α → Value} {p : Nat} {H : List Eng.Item} {S : List World} {w w' : World} {base m cap g n : Nat} {O : Nat → Prop} {e : TypeId} {xs : List Value} {F : Eng.Item → List Eng.Item}
    (hh : Hole p H (row base O (some ⟨g, 0, none⟩) m cap e 1 xs) F) (h : Cls H S w) (d : Array α) (hd : d.size = m) {os : Array Obj} (hw : w' = grow (putRow enc (Sort.ahead w n) g 0 d) os) : Cls (F (row base O (some ⟨g, 0, none⟩) m cap e 1 (d.toList.map enc))) S w' := by
  subst hw
  obtain ⟨h1, h2⟩ := hh.eq
  rw [h2]
  have hi := h.holds _ (List.mem_of_getElem? h1)
  have hO : O g := hi.1 _ rfl
  rcases hi.2.2 with ⟨h3, _⟩ | ⟨g', cap', cur, h3, hb, hg, h4, h5, h6, h7⟩
  · cases h3
  simp only [Value.slice.injEq, Option.some.injEq, Addr.mk.injEq] at h3
  obtain ⟨⟨rfl, _⟩, _, rfl⟩ := h3
  refine h.turn p h1 ⟨rfl, rfl, rfl, putRow_size _ _ _ _ _ _, fun k hk hno => putRow_other _ _ _ _ _ _ hk fun e => hno (by subst e; exact ⟨hb, hO⟩)⟩ ?_ (fun k hk => ⟨.inl hk, Nat.lt_of_lt_of_le (h.lt _ (List.mem_of_getElem? h1) k hk) (putRow_size _ _ _ _ _ _)⟩) (fun k hk => hk)
  refine ⟨fun a ha => by cases ha; exact hO, by simp [hd], .inr ⟨g, cap, _, rfl, hb, putRow_heap enc w n g d os hg, h4, h5, ?_, ?_⟩⟩
  · simp only [putCells, Array.size_mapIdx]; exact h6
  · rw [Nat.mul_one, ← hd]
    exact putCells_take enc d cur (by omega)
/-- what the library's contracts on rows ask -/
theorem row_holds {α : Type} [Inhabited α] {enc : α → Value} {w : World} {base m cap g : Nat} {O : Nat → Prop} {e : TypeId} {d : Array α} (h : (row base O (some ⟨g, 0, none⟩) m cap e 1 (d.toList.map enc)).holds w) : Holds enc w g 0 d ∧ g < w.heap.size := by
  rcases h.2.2 with ⟨h3, _⟩ | ⟨g', cap', cur, h3, hb, hg, h4, h5, h6, h7⟩
  · cases h3
  simp only [Value.slice.injEq, Option.some.injEq, Addr.mk.injEq] at h3
  obtain ⟨⟨rfl, _⟩, _, rfl⟩ := h3
  refine ⟨fun j hj => ⟨?_, ?_⟩, (Array.getElem?_eq_some_iff.1 hg).1⟩
  · rw [Nat.zero_add]
    refine row_cell h ?_
    rw [List.getElem?_map, Array.getElem?_toList, Array.getElem?_eq_getElem hj, getElem!_pos d j hj]; rfl
  · simp [World.frozen?, hg]
end Go.Eng
