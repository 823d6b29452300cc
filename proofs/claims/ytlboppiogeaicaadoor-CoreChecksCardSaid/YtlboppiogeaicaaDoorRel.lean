/- Readings as relations: nested structs and slices as plain data, wherever they lie; items for memory that is finished. General. No condition. -/
import Derived.Test.YtlboppiogeaicaaDoorExt
import Derived.Test.YtlboppiogeaicaaDoorCat
import Derived.Test.YtlboppiogeaicaaDoorTyp
import Derived.Test.YtlboppiogeaicaaDoorLift
import Derived.Test.YtlboppiogeaicaaDoorPil
namespace Go.Eng
open Go.RowKit Go.ChangeShapes Go.WideShapes Go.ChangeAt
set_option linter.unusedVariables false
set_option linter.unusedSimpArgs false

/-- how a thing of type α is told by cells; μ: what the cells tell besides -/
structure Rel (α μ : Type) where
  sz : Nat
  pos : 0 < sz
  cells : α → μ → List Value
  ok : World → (Nat → Prop) → α → μ → Prop
  len : ∀ x y, (cells x y).length = sz
  stab : ∀ {w w' : World} {O : Nat → Prop} {x y}, (∀ k, O k → w'.heap[k]? = w.heap[k]?) → ok w O x y → ok w' O x y
  mono : ∀ {w : World} {O O' : Nat → Prop} {x y}, (∀ k, O k → O' k) → ok w O x y → ok w O' x y
abbrev low (w : World) (k : Nat) : Prop := k < w.heap.size
def fresh (w w' : World) (k : Nat) : Prop := w.heap.size ≤ k ∧ k < w'.heap.size
section
variable {α μ : Type} {R : Rel α μ} {w w' : World} {O O' : Nat → Prop} {l : List (α × μ)} {q : Option Addr}
abbrev Rel.c (R : Rel α μ) (p : α × μ) : List Value := R.cells p.1 p.2
theorem Rel.clen (R : Rel α μ) (p : α × μ) : (R.c p).length = R.sz := R.len _ _
structure Arr (R : Rel α μ) (w : World) (O : Nat → Prop) (l : List (α × μ)) (q : Option Addr) : Prop where
  at_ : 0 < l.length → ∃ a, q = some a ∧ O a.block ∧ CellsAt w a (cat R.c l)
  el : ∀ p ∈ l, R.ok w O p.1 p.2
theorem cells_stab {a : Addr} {cs : List Value} (h : w'.heap[a.block]? = w.heap[a.block]?) (hc : CellsAt w a cs) : CellsAt w' a cs := fun j v hj => by
  rw [cell_heap (w := w) (by rw [add_block]; exact h)]
  exact hc j v hj
theorem Arr.stab (hk : ∀ k, O k → w'.heap[k]? = w.heap[k]?) (h : Arr R w O l q) : Arr R w' O l q :=
  ⟨fun hl => by
    obtain ⟨a, h1, h2, h3⟩ := h.at_ hl
    exact ⟨a, h1, h2, cells_stab (hk _ h2) h3⟩, fun p hp => R.stab hk (h.el p hp)⟩
theorem Arr.mono (hk : ∀ k, O k → O' k) (h : Arr R w O l q) : Arr R w O' l q :=
  ⟨fun hl => by
    obtain ⟨a, h1, h2, h3⟩ := h.at_ hl
    exact ⟨a, h1, hk _ h2, h3⟩, fun p hp => R.mono hk (h.el p hp)⟩
theorem Arr.nil : Arr R w O [] q := ⟨fun h => by simp at h, fun p h => by cases h⟩
theorem Arr.get (h : Arr R w O l q) {i : Nat} (hi : i < l.length) : ∃ a p, q = some a ∧ O a.block ∧ l[i]? = some p ∧ CellsAt w (a.add (i * R.sz)) (R.cells p.1 p.2) ∧ R.ok w O p.1 p.2 := by
  obtain ⟨a, h1, h2, h3⟩ := h.at_ (by omega)
  have hp : l[i]? = some l[i] := List.getElem?_eq_getElem hi
  exact ⟨a, l[i], h1, h2, hp, fun j v hj => by rw [add_add]; exact h3 _ _ (cat_get (f := R.c) R.clen hp j v hj), h.el _ (List.getElem_mem hi)⟩
theorem Arr.take (h : Arr R w O l q) (n : Nat) : Arr R w O (l.take n) q :=
  ⟨fun hl => by
    obtain ⟨a, h1, h2, h3⟩ := h.at_ (by simp at hl; omega)
    refine ⟨a, h1, h2, fun j v hj => h3 j v ?_⟩
    have hjl := (List.getElem?_eq_some_iff.1 hj).1
    rw [← cat_take (f := R.c) R.clen l n] at hj hjl
    rw [List.length_take] at hjl
    rwa [List.getElem?_take_of_lt (by omega)] at hj, fun p hp => h.el p (List.mem_of_mem_take hp)⟩
theorem Arr.slAt (h : Arr R w (low w) l q) : SlAt w w.heap.size q (cat R.c l) := fun hv => by
  rw [cat_length (f := R.c) R.clen] at hv
  obtain ⟨a, h1, h2, h3⟩ := h.at_ (Nat.pos_of_mul_pos_right hv)
  exact ⟨a, h1, h2, h3⟩
/-- plain data alone -/
def ArrP (R : Rel α μ) (w : World) (O : Nat → Prop) (l : List α) (q : Option Addr) : Prop := ∃ ps : List (α × μ), ps.map Prod.fst = l ∧ Arr R w O ps q
theorem ArrP.stab {l : List α} (hk : ∀ k, O k → w'.heap[k]? = w.heap[k]?) (h : ArrP R w O l q) : ArrP R w' O l q := by
  obtain ⟨ps, h1, h2⟩ := h
  exact ⟨ps, h1, h2.stab hk⟩
theorem ArrP.mono {l : List α} (hk : ∀ k, O k → O' k) (h : ArrP R w O l q) : ArrP R w O' l q := by
  obtain ⟨ps, h1, h2⟩ := h
  exact ⟨ps, h1, h2.mono hk⟩
theorem ArrP.nil : ArrP R w O [] q := ⟨[], rfl, Arr.nil⟩
/-- an older world's reading in a later world -/
theorem Cls.same {H : List Item} {S : List World} (h : Cls H S w') (hs : w ∈ S) (hno : ∀ k, k < w.heap.size → NotOwned H k) : ∀ k, low w k → w'.heap[k]? = w.heap[k]? :=
  fun k hk => (h.kp w hs).block k hk (hno k hk).not
theorem Cls.up {H : List Item} {S : List World} (h : Cls H S w') (hs : w ∈ S) : ∀ k, low w k → low w' k :=
  fun k hk => Nat.lt_of_lt_of_le hk (h.kp w hs).size
theorem Rel.at {H : List Item} {S : List World} {x : α} {y : μ} (h : R.ok w (low w) x y) (hw : Cls H S w') (hs : w ∈ S) (hno : ∀ k, k < w.heap.size → NotOwned H k) : R.ok w' (low w') x y :=
  R.mono (hw.up hs) (R.stab (hw.same hs hno) h)
theorem Arr.at {H : List Item} {S : List World} (h : Arr R w (low w) l q) (hw : Cls H S w') (hs : w ∈ S) (hno : ∀ k, k < w.heap.size → NotOwned H k) : Arr R w' (low w') l q :=
  Arr.mono (hw.up hs) (Arr.stab (hw.same hs hno) h)
theorem ArrP.at {l : List α} {H : List Item} {S : List World} (h : ArrP R w (low w) l q) (hw : Cls H S w') (hs : w ∈ S) (hno : ∀ k, k < w.heap.size → NotOwned H k) : ArrP R w' (low w') l q :=
  ArrP.mono (hw.up hs) (ArrP.stab (hw.same hs hno) h)
theorem Rel.ext {x : α} {y : μ} (h : R.ok w (low w) x y) (hx : Ext w w') : R.ok w' (low w') x y :=
  R.mono (fun k hk => Nat.lt_of_lt_of_le hk hx.size) (R.stab (fun k hk => hx.block k hk id) h)
theorem Arr.ext (h : Arr R w (low w) l q) (hx : Ext w w') : Arr R w' (low w') l q :=
  Arr.mono (fun k hk => Nat.lt_of_lt_of_le hk hx.size) (Arr.stab (fun k hk => hx.block k hk id) h)

/-! ### Finished things that the call owns -/

/-- things whose memory lies in O, at B or above -/
def pool (R : Rel α μ) (B : Nat) (O : Nat → Prop) (l : List (α × μ)) : Item :=
  ⟨fun k => B ≤ k ∧ O k, fun w => ∀ p ∈ l, R.ok w (fun k => B ≤ k ∧ O k) p.1 p.2, fun w w' hk h p hp => R.stab hk (h p hp)⟩
theorem NotOwned.pool {H : List Item} {B k : Nat} {O : Nat → Prop} {l : List (α × μ)} (h : k < B) (r : NotOwned H k) : NotOwned (Eng.pool R B O l :: H) k := NotOwned.any (fun ho => Nat.not_le_of_lt h ho.1) r
theorem Cls.pool_nil {H : List Item} {S : List World} (h : Cls H S w) (R : Rel α μ) (B : Nat) : Cls (pool R B (fun _ => False) [] :: H) S w :=
  h.add (Keep.refl _ w) _ (fun s hs => by cases hs) (fun k hk => hk.2.elim)
/-- one more, of memory that is new -/
theorem Cls.pool_push {p B : Nat} {H : List Item} {S : List World} {F : Item → List Item} {x : α} {y : μ} (hh : Hole p H (pool R B O l) F) (h : Cls H S w) (hB : B ≤ w.heap.size) (he : Ext w w') (hx : R.ok w' (fresh w w') x y) :
    Cls (F (pool R B (fun k => O k ∨ fresh w w' k) (l ++ [(x, y)]))) S w' := by
  obtain ⟨h1, h2⟩ := hh.eq
  rw [h2]
  have hm := List.mem_of_getElem? h1
  have hi := h.holds _ hm
  have hl := h.lt _ hm
  refine h.turn p h1 ⟨he.os, he.tape, he.output, he.size, fun k hk hn => he.block k hk id⟩ (fun z hz => ?_) (fun k hk => ?_) (fun k hk => ⟨hk.1, .inl hk.2⟩)
  · rcases List.mem_append.1 hz with hz | hz
    · refine R.mono (O := fun k => B ≤ k ∧ O k) (fun k hk => ⟨hk.1, .inl hk.2⟩) (R.stab (fun k hk => he.block k (hl k hk) id) (hi z hz))
    · obtain rfl := List.mem_singleton.1 hz
      exact R.mono (fun k hk => ⟨Nat.le_trans hB hk.1, .inr hk⟩) hx
  · obtain ⟨h3, h4 | h4⟩ := hk
    · exact ⟨.inl ⟨h3, h4⟩, Nat.lt_of_lt_of_le (hl k ⟨h3, h4⟩) he.size⟩
    · exact ⟨.inr h4.1, h4.2⟩
/-- one more, of memory that is new or of things that are there -/
theorem Cls.pool_more {p B : Nat} {H : List Item} {S : List World} {F : Item → List Item} {x : α} {y : μ} (hh : Hole p H (pool R B O l) F) (h : Cls H S w) (hB : B ≤ w.heap.size) (he : Ext w w') (hx : R.ok w' (fun k => (B ≤ k ∧ O k) ∨ fresh w w' k) x y) :
    Cls (F (pool R B (fun k => O k ∨ fresh w w' k) (l ++ [(x, y)]))) S w' := by
  obtain ⟨h1, h2⟩ := hh.eq
  rw [h2]
  have hm := List.mem_of_getElem? h1
  have hi := h.holds _ hm
  have hl := h.lt _ hm
  refine h.turn p h1 ⟨he.os, he.tape, he.output, he.size, fun k hk hn => he.block k hk id⟩ (fun z hz => ?_) (fun k hk => ?_) (fun k hk => ⟨hk.1, .inl hk.2⟩)
  · rcases List.mem_append.1 hz with hz | hz
    · refine R.mono (O := fun k => B ≤ k ∧ O k) (fun k hk => ⟨hk.1, .inl hk.2⟩) (R.stab (fun k hk => he.block k (hl k hk) id) (hi z hz))
    · obtain rfl := List.mem_singleton.1 hz
      refine R.mono (fun k hk => ?_) hx
      rcases hk with hk | hk
      · exact ⟨hk.1, .inl hk.2⟩
      · exact ⟨Nat.le_trans hB hk.1, .inr hk⟩
  · obtain ⟨h3, h4 | h4⟩ := hk
    · exact ⟨.inl ⟨h3, h4⟩, Nat.lt_of_lt_of_le (hl k ⟨h3, h4⟩) he.size⟩
    · exact ⟨.inr h4.1, h4.2⟩
/-- a thing without memory of its own -/
theorem Cls.pool_flat {p B : Nat} {H : List Item} {S : List World} {F : Item → List Item} {x : α} {y : μ} (hh : Hole p H (pool R B O l) F) (h : Cls H S w) (hx : R.ok w (fun _ => False) x y) :
    Cls (F (pool R B O (l ++ [(x, y)]))) S w := by
  obtain ⟨h1, h2⟩ := hh.eq
  rw [h2]
  have hm := List.mem_of_getElem? h1
  have hi := h.holds _ hm
  refine h.turn p h1 (Keep.refl _ _) (fun z hz => ?_) (fun k hk => ⟨.inl hk, h.lt _ hm k hk⟩) (fun k hk => hk)
  rcases List.mem_append.1 hz with hz | hz
  · exact hi z hz
  · obtain rfl := List.mem_singleton.1 hz
    exact R.mono (fun k hk => hk.elim) hx
/-- a grown row and its things are an array -/
theorem Arr.of {B m cap : Nat} {O1 O2 : Nat → Prop} {e : TypeId} (h1 : (row B O1 q m cap e R.sz (cat R.c l)).holds w) (h2 : (pool R B O2 l).holds w) : Arr R w (fun k => B ≤ k ∧ (O1 k ∨ O2 k)) l q where
  at_ := fun hl => by
    have hc : 0 < (cat R.c l).length := by
      rw [cat_length (f := R.c) R.clen]
      exact Nat.mul_pos hl R.pos
    obtain ⟨a, h3, _, h5⟩ := SlAt.of_row h1 hc
    have h6 := h1.1 a h3
    refine ⟨a, h3, ⟨?_, .inl h6⟩, h5⟩
    rcases h1.2.2 with ⟨h7, _⟩ | ⟨g, cap', cur, h7, hb, _⟩
    · simp only [Value.slice.injEq] at h7
      rw [h7.1] at h3; cases h3
    · simp only [Value.slice.injEq] at h7
      rw [h7.1] at h3
      obtain rfl := Option.some.inj h3
      exact hb
  el := fun p hp => R.mono (fun k hk => ⟨hk.1, .inr hk.2⟩) (h2 p hp)
/-- what two items own, as a reach of memory that is new -/
theorem Cls.fresh2 {H : List Item} {S : List World} {B : Nat} {O1 O2 : Nat → Prop} {i j : Item} (h : Cls H S w') (hi : i ∈ H) (hj : j ∈ H) (e1 : i.own = fun k => B ≤ k ∧ O1 k) (e2 : j.own = fun k => B ≤ k ∧ O2 k) (hB : w.heap.size ≤ B) : ∀ k, (B ≤ k ∧ (O1 k ∨ O2 k)) → fresh w w' k := by
  rintro k ⟨h1, h2 | h2⟩
  · exact ⟨Nat.le_trans hB h1, h.lt i hi k (by rw [e1]; exact ⟨h1, h2⟩)⟩
  · exact ⟨Nat.le_trans hB h1, h.lt j hj k (by rw [e2]; exact ⟨h1, h2⟩)⟩
/-- a reading in the world itself -/
theorem Cls.arr {H : List Item} {S : List World} {B m cap : Nat} {O1 O2 : Nat → Prop} {e : TypeId} (h : Cls H S w) (h1 : row B O1 q m cap e R.sz (cat R.c l) ∈ H) (h2 : pool R B O2 l ∈ H) : Arr R w (low w) l q :=
  (Arr.of (h.item h1) (h.item h2)).mono (by
    rintro k ⟨hb, ho | ho⟩
    · exact h.lt _ h1 k ⟨hb, ho⟩
    · exact h.lt _ h2 k ⟨hb, ho⟩)
theorem Cls.arrF {H : List Item} {S : List World} {B m cap : Nat} {O1 O2 : Nat → Prop} {e : TypeId} (h : Cls H S w') (h1 : row B O1 q m cap e R.sz (cat R.c l) ∈ H) (h2 : pool R B O2 l ∈ H) (hB : w.heap.size ≤ B) : Arr R w' (fresh w w') l q :=
  (Arr.of (h.item h1) (h.item h2)).mono (h.fresh2 h1 h2 rfl rfl hB)
end

/-! ### Types -/

def tyc (t : Ty) (y : Option Addr × Nat) : List Value := [.int .i64 t.kind, .string t.name, .int .i64 t.var, .slice y.1 t.args.length y.2]
mutual
def TyO (s : World) (O : Nat → Prop) : Ty → Option Addr × Nat → Prop
  | .mk k nm v as, y => I64 k ∧ I64 v ∧ (as.length : Int) ≤ 9223372036854775807 ∧ (0 < as.length → ∃ a, y.1 = some a ∧ O a.block ∧ TyOs s O as a)
def TyOs (s : World) (O : Nat → Prop) : List Ty → Addr → Prop
  | [], _ => True
  | t :: r, a => (∃ y, CellsAt s a (tyc t y) ∧ TyO s O t y) ∧ TyOs s O r (a.add 4)
end
mutual
theorem TyO.stab {w w' : World} {O : Nat → Prop} (hk : ∀ k, O k → w'.heap[k]? = w.heap[k]?) : ∀ {t : Ty} {y : Option Addr × Nat}, TyO w O t y → TyO w' O t y
  | .mk k nm v as, y, h => by
    simp only [TyO] at h ⊢
    obtain ⟨h1, h2, h3, h4⟩ := h
    refine ⟨h1, h2, h3, fun hl => ?_⟩
    obtain ⟨a, ha, hb, hall⟩ := h4 hl
    exact ⟨a, ha, hb, TyOs.stab hk hb hall⟩
theorem TyOs.stab {w w' : World} {O : Nat → Prop} (hk : ∀ k, O k → w'.heap[k]? = w.heap[k]?) : ∀ {as : List Ty} {a : Addr}, O a.block → TyOs w O as a → TyOs w' O as a
  | [], _, _, _ => by simp only [TyOs]
  | t :: r, a, hb, h => by
    simp only [TyOs] at h ⊢
    obtain ⟨⟨y, h1, h2⟩, h3⟩ := h
    exact ⟨⟨y, cells_stab (hk _ hb) h1, TyO.stab hk h2⟩, TyOs.stab hk (by rw [add_block]; exact hb) h3⟩
end
mutual
theorem TyO.mono {w : World} {O O' : Nat → Prop} (hk : ∀ k, O k → O' k) : ∀ {t : Ty} {y : Option Addr × Nat}, TyO w O t y → TyO w O' t y
  | .mk k nm v as, y, h => by
    simp only [TyO] at h ⊢
    obtain ⟨h1, h2, h3, h4⟩ := h
    refine ⟨h1, h2, h3, fun hl => ?_⟩
    obtain ⟨a, ha, hb, hall⟩ := h4 hl
    exact ⟨a, ha, hk _ hb, TyOs.mono hk hall⟩
theorem TyOs.mono {w : World} {O O' : Nat → Prop} (hk : ∀ k, O k → O' k) : ∀ {as : List Ty} {a : Addr}, TyOs w O as a → TyOs w O' as a
  | [], _, _ => by simp only [TyOs]
  | t :: r, a, h => by
    simp only [TyOs] at h ⊢
    obtain ⟨⟨y, h1, h2⟩, h3⟩ := h
    exact ⟨⟨y, h1, TyO.mono hk h2⟩, TyOs.mono hk h3⟩
end
def tyR : Rel Ty (Option Addr × Nat) where
  sz := 4
  pos := by decide
  cells := tyc
  ok := TyO
  len := fun _ _ => rfl
  stab := fun hk h => TyO.stab hk h
  mono := fun hk h => TyO.mono hk h
theorem TyOs.list {w : World} {O : Nat → Prop} : ∀ {as : List Ty} {a : Addr}, TyOs w O as a → ∃ ps : List (Ty × (Option Addr × Nat)), ps.map Prod.fst = as ∧ CellsAt w a (cat tyR.c ps) ∧ ∀ p ∈ ps, TyO w O p.1 p.2
  | [], a, _ => ⟨[], rfl, fun j v hj => by simp [cat] at hj, fun p hp => by cases hp⟩
  | t :: r, a, h => by
    simp only [TyOs] at h
    obtain ⟨⟨y, h1, h2⟩, h3⟩ := h
    obtain ⟨ps, h4, h5, h6⟩ := TyOs.list h3
    refine ⟨(t, y) :: ps, by simp [h4], fun j v hj => ?_, fun p hp => ?_⟩
    · rw [cat] at hj
      by_cases e : j < 4
      · rw [List.getElem?_append_left (by exact e)] at hj
        exact h1 j v hj
      · rw [List.getElem?_append_right (by show 4 ≤ j; omega)] at hj
        have := h5 _ v hj
        rw [add_add] at this
        rwa [show 4 + (j - (tyR.c (t, y)).length) = j from by show 4 + (j - 4) = j; omega] at this
    · rcases List.mem_cons.1 hp with rfl | hp
      · exact h2
      · exact h6 p hp
theorem TyOs.of_list {w : World} {O : Nat → Prop} : ∀ {ps : List (Ty × (Option Addr × Nat))} {a : Addr}, CellsAt w a (cat tyR.c ps) → (∀ p ∈ ps, TyO w O p.1 p.2) → TyOs w O (ps.map Prod.fst) a
  | [], a, _, _ => by simp only [List.map_nil, TyOs]
  | p :: ps, a, h, hp => by
    simp only [List.map_cons, TyOs]
    refine ⟨⟨p.2, fun j v hj => h j v ?_, hp p (.head _)⟩, TyOs.of_list (fun j v hj => ?_) (fun x hx => hp x (.tail _ hx))⟩
    · rw [cat, List.getElem?_append_left (by have := (List.getElem?_eq_some_iff.1 hj).1; exact this)]
      exact hj
    · rw [add_add]
      refine h (4 + j) v ?_
      rw [cat, List.getElem?_append_right (by show 4 ≤ 4 + j; omega)]
      rw [show 4 + j - (tyR.c p).length = j from by show 4 + j - 4 = j; omega]
      exact hj
/-- the parts of a type -/
theorem TyO.parts {w : World} {O : Nat → Prop} {k v : Int} {nm : ByteArray} {as : List Ty} {y : Option Addr × Nat} (h : TyO w O (.mk k nm v as) y) : I64 k ∧ I64 v ∧ as.length ≤ 9223372036854775807 ∧ ∃ ps : List (Ty × (Option Addr × Nat)), ps.map Prod.fst = as ∧ Arr tyR w O ps y.1 := by
  simp only [TyO] at h
  obtain ⟨h1, h2, h3, h4⟩ := h
  refine ⟨h1, h2, by omega, ?_⟩
  cases as with
  | nil => exact ⟨[], rfl, Arr.nil⟩
  | cons t r =>
    obtain ⟨a, ha, hb, hall⟩ := h4 (by simp)
    obtain ⟨ps, h5, h6, h7⟩ := hall.list
    exact ⟨ps, h5, fun _ => ⟨a, ha, hb, h6⟩, h7⟩
theorem TyO.of_parts {w : World} {O : Nat → Prop} {k v : Int} {nm : ByteArray} {ps : List (Ty × (Option Addr × Nat))} {q : Option Addr} {cap : Nat} (hk : I64 k) (hv : I64 v) (hl : ps.length ≤ 9223372036854775807) (h : Arr tyR w O ps q) : TyO w O (.mk k nm v (ps.map Prod.fst)) (q, cap) := by
  simp only [TyO]
  refine ⟨hk, hv, by rw [List.length_map]; omega, fun h0 => ?_⟩
  rw [List.length_map] at h0
  obtain ⟨a, h1, h2, h3⟩ := h.at_ h0
  exact ⟨a, h1, h2, TyOs.of_list h3 h.el⟩
mutual
theorem TyO.of_C {w : World} {B : Nat} : ∀ {t : Ty} {cs : List Value}, TyC w B t cs → ∃ y, cs = tyc t y ∧ TyO w (fun k => k < B) t y
  | .mk k nm v as, cs, h => by
    simp only [TyC] at h
    obtain ⟨q, cap, rfl, h2, h3, h4, h5⟩ := h
    refine ⟨(q, cap), rfl, ?_⟩
    simp only [TyO]
    refine ⟨h2, h3, h4, fun hl => ?_⟩
    obtain ⟨a, ha, hb, hall⟩ := h5 hl
    exact ⟨a, ha, hb, TyOs.of_C hall⟩
theorem TyOs.of_C {w : World} {B : Nat} : ∀ {as : List Ty} {a : Addr}, TyAll w B as a → TyOs w (fun k => k < B) as a
  | [], _, _ => by simp only [TyOs]
  | t :: r, a, h => by
    simp only [TyAll] at h
    simp only [TyOs]
    obtain ⟨⟨cs, h1, h2⟩, h3⟩ := h
    obtain ⟨y, rfl, h4⟩ := TyO.of_C h2
    exact ⟨⟨y, h1, h4⟩, TyOs.of_C h3⟩
end

/-! ### Reading arguments -/

section
variable {H : Type} {enc : TypeId × Value → H} {P : Program} {w : World} {spare : Nat → Bool} {held : Bool} {α μ : Type} {R : Rel α μ}
/-- a slice whose elements read -/
theorem rd_arr {t e : TypeId} {fuel : Nat} {cs : List Value} {x : DataW H × List MemPlace} (ht : P.underlying t = some (.slice e)) (hs : P.cellsOf e = R.sz)
    (he : ∀ (n : Nat) (cs' : List Value) (y : DataW H × List MemPlace), n < fuel → DataW.trod enc P w 0 spare held n e cs' = some y → ∃ u : α × μ, cs' = R.c u ∧ R.ok w (low w) u.1 u.2)
    (h : DataW.trod enc P w 0 spare held fuel t cs = some x) :
    ∃ (q : Option Addr) (l : List (α × μ)) (cap : Nat), cs = [.slice q l.length cap] ∧ l.length ≤ cap ∧ cap ≤ maxLen ∧ Arr R w (low w) l q := by
  obtain ⟨q, len, cap, rfl, hle, hcap, hq0, m, hm, hel⟩ := slice_reads ht hs h
  cases q with
  | none =>
    obtain rfl := hq0 rfl
    exact ⟨none, [], cap, rfl, hle, hcap, Arr.nil⟩
  | some a =>
    obtain ⟨l, hl, hr⟩ := list_of (fun i (u : α × μ) => CellsAt w (a.add (i * R.sz)) (R.c u) ∧ R.ok w (low w) u.1 u.2) len (fun i hi => by
      obtain ⟨cs', y, hc, hl1, ht'⟩ := hel a rfl i hi
      obtain ⟨u, rfl, hR⟩ := he m cs' y hm ht'
      exact ⟨u, hc, hR⟩)
    subst hl
    refine ⟨some a, l, cap, rfl, hle, hcap, fun hl0 => ⟨a, rfl, ?_, fun j v hj => ?_⟩, fun u hu => ?_⟩
    · have h0 := (hr 0 _ (List.getElem?_eq_getElem hl0)).1
      rw [Nat.zero_mul, add_zero_] at h0
      have hz : 0 < (R.c l[0]).length := by rw [R.clen]; exact R.pos
      have := h0 0 _ (List.getElem?_eq_getElem hz)
      rw [add_zero_] at this
      exact cell_lt this
    · have hjl := (List.getElem?_eq_some_iff.1 hj).1
      rw [cat_length (f := R.c) R.clen] at hjl
      have hi : j / R.sz < l.length := Nat.div_lt_of_lt_mul (by rwa [Nat.mul_comm] at hjl)
      have h0 := (hr (j / R.sz) _ (List.getElem?_eq_getElem hi)).1
      have hm' : j % R.sz < (R.c l[j / R.sz]).length := by rw [R.clen]; exact Nat.mod_lt _ R.pos
      have h1 := cat_get (f := R.c) R.clen (List.getElem?_eq_getElem hi) (j % R.sz) _ (List.getElem?_eq_getElem hm')
      have ej : j / R.sz * R.sz + j % R.sz = j := by rw [Nat.mul_comm]; exact Nat.div_add_mod j R.sz
      rw [ej, hj] at h1
      have h2 := h0 (j % R.sz) _ (List.getElem?_eq_getElem hm')
      rw [add_add, ej] at h2
      rw [h2, h1]
    · obtain ⟨i, hi, rfl⟩ := List.getElem_of_mem hu
      exact (hr i _ (List.getElem?_eq_getElem hi)).2
end
end Go.Eng
