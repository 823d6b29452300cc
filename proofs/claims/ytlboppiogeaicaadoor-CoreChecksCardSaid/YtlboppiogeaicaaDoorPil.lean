/- A pile of slices: rows that are finished, with the blocks that they own. General. No condition. -/
import Derived.Test.YtlboppiogeaicaaDoorExt
import Derived.Test.YtlboppiogeaicaaDoorPop
namespace Go.Eng
open Go.RowKit
set_option linter.unusedVariables false
set_option linter.unusedSimpArgs false
structure Sl where
  q : Option Addr
  cap : Nat
  xs : List Value
def slv (s : Sl) : Value := .slice s.q s.xs.length s.cap
theorem cell_heap {w w' : World} {a : Addr} (h : w'.heap[a.block]? = w.heap[a.block]?) : w'.cell? a = w.cell? a := by
  unfold World.cell?
  rw [h]
/-- finished slices; their blocks lie in O, at B or above -/
def pile (B : Nat) (O : Nat → Prop) (L : List Sl) : Item :=
  ⟨fun k => B ≤ k ∧ O k, fun w => ∀ s ∈ L, 0 < s.xs.length → ∃ a, s.q = some a ∧ (B ≤ a.block ∧ O a.block) ∧ CellsAt w a s.xs, fun w w' hk h s hs hl => by
    obtain ⟨a, h1, h2, h3⟩ := h s hs hl
    exact ⟨a, h1, h2, fun j v hj => by rw [cell_heap (w := w) (hk _ (by rw [add_block]; exact h2))]; exact h3 j v hj⟩⟩
theorem pile_at {w : World} {B : Nat} {O : Nat → Prop} {L : List Sl} {s : Sl} (h : (pile B O L).holds w) (hs : s ∈ L) : SlAt w w.heap.size s.q s.xs := fun hl => by
  obtain ⟨a, h1, h2, h3⟩ := h s hs hl
  refine ⟨a, h1, ?_, h3⟩
  have := h3 0 _ (List.getElem?_eq_getElem hl)
  have := cell_lt this
  rwa [add_block] at this
theorem pile_some {w : World} {B : Nat} {O : Nat → Prop} {L : List Sl} {s : Sl} (h : (pile B O L).holds w) (hs : s ∈ L) (hl : 0 < s.xs.length) : ∃ a, s.q = some a := by
  obtain ⟨a, h1, _⟩ := h s hs hl
  exact ⟨a, h1⟩
theorem NotOwned.pile {H : List Item} {B k : Nat} {O : Nat → Prop} {L : List Sl} (h : k < B) (r : NotOwned H k) : NotOwned (Eng.pile B O L :: H) k := NotOwned.any (fun ho => Nat.not_le_of_lt h ho.1) r
section
variable {P : Program} {n : Nat} {l : Env} {H : List Item} {S : List World} {C : World → Prop} {c : Bool} {d : Option Nat} {ty : TypeId} {pos : String} {af : Array Edge} {g : Option (Nat × Bool)}
variable {t : TypeId} {x : Operand} {cx : Bool}
theorem Cls.pile_nil {w : World} (h : Cls H S w) (B : Nat) : Cls (pile B (fun _ => False) [] :: H) S w :=
  h.add (Keep.refl _ w) _ (fun s hs => by cases hs) (fun k hk => hk.2.elim)
theorem Cls.pile_push {w : World} {B m cap : Nat} {O O' : Nat → Prop} {q : Option Addr} {e : TypeId} {xs : List Value} {L : List Sl} (h : Cls (row B O q m cap e 1 xs :: pile B O' L :: H) S w) : Cls (pile B (fun k => O k ∨ O' k) (L ++ [⟨q, cap, xs⟩]) :: H) S w := by
  have hr := h.item (i := row B O q m cap e 1 xs) (by simp)
  have hp := h.item (i := pile B O' L) (by simp)
  have hd := h.dj
  rw [List.pairwise_cons, List.pairwise_cons] at hd
  obtain ⟨hr1, hp1, hH⟩ := hd
  refine ⟨fun i hi => ?_, fun i hi => ?_, ?_, fun s hs => (h.kp s hs).mono fun k _ ⟨i, hi, hk⟩ => ?_⟩
  · rcases List.mem_cons.1 hi with rfl | hi
    · intro s hs hl
      rcases List.mem_append.1 hs with hs | hs
      · obtain ⟨a, h1, h2, h3⟩ := hp s hs hl
        exact ⟨a, h1, ⟨h2.1, .inr h2.2⟩, h3⟩
      · obtain rfl := List.mem_singleton.1 hs
        obtain ⟨a, h1, h2, h3⟩ := SlAt.of_row hr hl
        refine ⟨a, h1, ⟨?_, .inl (hr.1 a h1)⟩, h3⟩
        rcases hr.2.2 with ⟨h4, h5⟩ | ⟨g, cap', cur, h4, h5, _⟩
        · simp only [Value.slice.injEq] at h4
          rw [h4.1] at h1; cases h1
        · simp only [Value.slice.injEq] at h4
          rw [h4.1] at h1
          obtain rfl := Option.some.inj h1
          exact h5
    · exact h.holds i (by simp [hi])
  · rcases List.mem_cons.1 hi with rfl | hi
    · rintro k ⟨h1, h2 | h2⟩
      · exact h.lt (row B O q m cap e 1 xs) (by simp) k ⟨h1, h2⟩
      · exact h.lt (pile B O' L) (by simp) k ⟨h1, h2⟩
    · exact h.lt i (by simp [hi])
  · refine List.pairwise_cons.2 ⟨fun j hj k hk hj2 => ?_, hH⟩
    obtain ⟨h1, h2 | h2⟩ := hk
    · exact hr1 j (by simp [hj]) k ⟨h1, h2⟩ hj2
    · exact hp1 j hj k ⟨h1, h2⟩ hj2
  · rcases List.mem_cons.1 hi with rfl | hi
    · exact ⟨_, .head _, hk.1, .inl hk.2⟩
    · rcases List.mem_cons.1 hi with rfl | hi
      · exact ⟨_, .head _, hk.1, .inr hk.2⟩
      · exact ⟨i, by simp [hi], hk⟩
theorem Pev.load_pile {a : Addr} {k B : Nat} {O : Nat → Prop} {L : List Sl} {s : Sl} {v : Value} (hx : evl l x = some (cx, .pointer (some (a.add k)))) (hcx : c = true → cx = true) (hp : pile B O L ∈ H) (hs : scalB P t = true)
    (hL : s ∈ L) (hq : s.q = some a) (hv : s.xs[k]? = some v) : Pev P n l (Cls H S) ⟨d, .load t x, ty, pos, af, g⟩ c v :=
  .load_of hx hcx fun _ w hw => run_loadVar_scal hs (by
    obtain ⟨a', h1, _, h3⟩ := hw.item hp s hL (by have := (List.getElem?_eq_some_iff.1 hv).1; omega)
    rw [hq] at h1
    obtain rfl := Option.some.inj h1
    exact h3 k v hv)
end
end Go.Eng
