/- Core expressions as they lie in memory. No condition. -/
import Derived.Test.YtlboppiogeaicaaDoorCoQ
import Derived.Test.YtlboppiogeaicaaDoorRel
namespace Go.Co
open Go.Eng Go.RowKit
set_option linter.unusedVariables false
set_option linter.unusedSimpArgs false
abbrev Sc := Option Addr × Nat
def ints (l : List Int) : List Value := l.map fun x => .int .i64 x
theorem ints_length (l : List Int) : (ints l).length = l.length := by simp [ints]
theorem ints_get {l : List Int} {i : Nat} {x : Int} (h : l[i]? = some x) : (ints l)[i]? = some (.int .i64 x) := by simp [ints, h]
theorem ints_append (l m : List Int) : ints (l ++ m) = ints l ++ ints m := by simp [ints]
/-- a slice of ints -/
def IntsO (w : World) (O : Nat → Prop) (l : List Int) (q : Option Addr) : Prop := 0 < l.length → ∃ a, q = some a ∧ O a.block ∧ CellsAt w a (ints l)
theorem IntsO.stab {w w' : World} {O : Nat → Prop} {l : List Int} {q : Option Addr} (hk : ∀ k, O k → w'.heap[k]? = w.heap[k]?) (h : IntsO w O l q) : IntsO w' O l q := fun hl => by
  obtain ⟨a, h1, h2, h3⟩ := h hl
  exact ⟨a, h1, h2, cells_stab (hk _ h2) h3⟩
theorem IntsO.mono {w : World} {O O' : Nat → Prop} {l : List Int} {q : Option Addr} (hk : ∀ k, O k → O' k) (h : IntsO w O l q) : IntsO w O' l q := fun hl => by
  obtain ⟨a, h1, h2, h3⟩ := h hl
  exact ⟨a, h1, hk _ h2, h3⟩
theorem IntsO.nil {w : World} {O : Nat → Prop} {q : Option Addr} : IntsO w O [] q := fun h => by simp at h
theorem IntsO.get {w : World} {O : Nat → Prop} {l : List Int} {q : Option Addr} (h : IntsO w O l q) {i : Nat} (hi : i < l.length) : ∃ a u, q = some a ∧ O a.block ∧ l[i]? = some u ∧ w.cell? (a.add (i * 1)) = some (.int .i64 u) := by
  obtain ⟨a, h1, h2, h3⟩ := h (by omega)
  have hu : l[i]? = some l[i] := List.getElem?_eq_getElem hi
  exact ⟨a, l[i], h1, h2, hu, by rw [Nat.mul_one]; exact h3 i _ (ints_get hu)⟩
theorem IntsO.slAt {w : World} {l : List Int} {q : Option Addr} (h : IntsO w (low w) l q) : SlAt w w.heap.size q (ints l) := fun hv => by
  rw [ints_length] at hv
  exact h hv
theorem IntsO.at {w w' : World} {l : List Int} {q : Option Addr} {H : List Eng.Item} {S : List World} (h : IntsO w (low w) l q) (hw : Cls H S w') (hs : w ∈ S) (hno : ∀ k, k < w.heap.size → NotOwned H k) : IntsO w' (low w') l q :=
  IntsO.mono (hw.up hs) (IntsO.stab (hw.same hs hno) h)
theorem IntsO.ext {w w' : World} {l : List Int} {q : Option Addr} (h : IntsO w (low w) l q) (hx : Ext w w') : IntsO w' (low w') l q :=
  IntsO.mono (fun k hk => Nat.lt_of_lt_of_le hk hx.size) (IntsO.stab (fun k hk => hx.block k hk id) h)
/-- an alternative -/
def altC (a : Al) (y : Sc) : List Value := [.int .i64 a.tag, .slice y.1 a.binds.length y.2]
def altR_ : Rel Al Sc where
  sz := 2
  pos := by decide
  cells := altC
  ok := fun w O a y => I64 a.tag ∧ (a.binds.length ≤ 140737488355328 ∧ a.binds.length ≤ y.2) ∧ IntsO w O a.binds y.1
  len := fun _ _ => rfl
  stab := fun hk h => ⟨h.1, h.2.1, h.2.2.stab hk⟩
  mono := fun hk h => ⟨h.1, h.2.1, h.2.2.mono hk⟩
/-- a node -/
structure ExY where
  b : Sc
  k : Sc
  a : Sc
def exC (x : Ex) (y : ExY) : List Value := [.int .i64 x.op, .int .i64 x.n, .slice y.b.1 x.binds.length y.b.2, .slice y.k.1 x.kids.length y.k.2, .slice y.a.1 x.alts.length y.a.2]
structure ExOk (w : World) (O : Nat → Prop) (x : Ex) (y : ExY) : Prop where
  op : I64 x.op
  n : I64 x.n
  bl : x.binds.length ≤ 140737488355328
  kl : x.kids.length ≤ 140737488355328
  al : x.alts.length ≤ 140737488355328
  bc : x.binds.length ≤ y.b.2
  kc : x.kids.length ≤ y.k.2
  ac : x.alts.length ≤ y.a.2
  b : IntsO w O x.binds y.b.1
  k : IntsO w O x.kids y.k.1
  a : ArrP altR_ w O x.alts y.a.1
theorem ExOk.stab {w w' : World} {O : Nat → Prop} {x : Ex} {y : ExY} (hk : ∀ k, O k → w'.heap[k]? = w.heap[k]?) (h : ExOk w O x y) : ExOk w' O x y :=
  ⟨h.op, h.n, h.bl, h.kl, h.al, h.bc, h.kc, h.ac, h.b.stab hk, h.k.stab hk, h.a.stab hk⟩
theorem ExOk.mono {w : World} {O O' : Nat → Prop} {x : Ex} {y : ExY} (hk : ∀ k, O k → O' k) (h : ExOk w O x y) : ExOk w O' x y :=
  ⟨h.op, h.n, h.bl, h.kl, h.al, h.bc, h.kc, h.ac, h.b.mono hk, h.k.mono hk, h.a.mono hk⟩
def exR : Rel Ex ExY where
  sz := 5
  pos := by decide
  cells := exC
  ok := ExOk
  len := fun _ _ => rfl
  stab := ExOk.stab
  mono := ExOk.mono
theorem ExOk.at {w w' : World} {x : Ex} {y : ExY} {H : List Eng.Item} {S : List World} (h : ExOk w (low w) x y) (hw : Cls H S w') (hs : w ∈ S) (hno : ∀ k, k < w.heap.size → NotOwned H k) : ExOk w' (low w') x y :=
  ExOk.mono (hw.up hs) (ExOk.stab (hw.same hs hno) h)
theorem ExOk.ext {w w' : World} {x : Ex} {y : ExY} (h : ExOk w (low w) x y) (hx : Ext w w') : ExOk w' (low w') x y :=
  ExOk.mono (fun k hk => Nat.lt_of_lt_of_le hk hx.size) (ExOk.stab (fun k hk => hx.block k hk id) h)
/-- the alternatives of a node, laid out -/
theorem ExOk.alts {w : World} {O : Nat → Prop} {x : Ex} {y : ExY} (h : ExOk w O x y) : ∃ ps : List (Al × Sc), ps.map Prod.fst = x.alts ∧ Arr altR_ w O ps y.a.1 := h.a
end Go.Co
