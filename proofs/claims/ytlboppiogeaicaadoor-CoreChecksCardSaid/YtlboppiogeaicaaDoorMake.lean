/- Made slices of one-cell elements, and a square of rows. General. No condition. -/
import Derived.Test.YtlboppiogeaicaaDoorRow
import Derived.Laws.MakeOwn
namespace Go.Eng
open Go.RowKit
set_option linter.unusedVariables false
set_option linter.unusedSimpArgs false
section
variable {P : Program} {n : Nat} {l : Env} {H : List Item} {S : List World} {C : World → Prop} {ty : TypeId} {pos : String} {af : Array Edge}
variable {ops : Array Oper} {rest : List Oper} {Q : Exit → Act → World → Prop} {t : TypeId} {x y : Operand}

theorem madeCells_one (z0 : Value) (m : Nat) : madeCells #[z0] m = (List.replicate m z0).toArray := by
  apply Array.ext
  · simp [madeCells]
  · intro i h1 h2
    simp [madeCells, Nat.mod_one]
/-- the zero value of a type, where it is one cell -/
def zeroCell (P : Program) (e : TypeId) : Option Value := match P.info? e with
  | some i => match i.zero with
    | some z => match z.cells.toList with
      | [z0] => some z0
      | _ => none
    | none => none
  | none => none
theorem OL.makeSlice {e : TypeId} {dd m bb : Nat} {z0 : Value} {k1 k2 : IntKind} {a1 a2 : Int} (hx : evl l x = some (true, .int k1 a1)) (hy : evl l y = some (true, .int k2 a2)) (hn : Nat.ble (dd + 1) n = true)
    (hu : rowElem P t = some (e, 1, bb)) (hz : zeroCell P e = some z0) (h1 : a1 = (m : Int)) (h2 : a2 = (m : Int)) (hlim : m ≤ 9223372036854775807 ∧ m * bb ≤ 140737488355328)
    (k : ∀ b, AllLe S b → OL P n ops Q rest ((dd, true, .slice (some ⟨b, 0, none⟩) m m) :: l) (Cls (blk b e (List.replicate m z0) :: H) S)) :
    OL P n ops Q (⟨some dd, .makeSlice t x y, ty, pos, af, none⟩ :: rest) l (Cls H S) := by
  obtain ⟨i, z, g1, g2, g3, g4, g5, g6, g7⟩ := rowElem_spec hu
  subst h1
  subst h2
  have hcell : z.cells = #[z0] := by
    unfold zeroCell at hz
    rw [g2] at hz
    simp only [g3] at hz
    split at hz
    · rename_i z1 he
      obtain rfl := Option.some.inj hz
      apply Array.ext'
      exact he
    · cases hz
  refine OL.new (C' := fun b w => AllLe S b ∧ Cls (blk b e (List.replicate m z0) :: H) S w) rfl rfl hn (fun b => .slice (some ⟨b, 0, none⟩) m m) (fun a w hs hc => ⟨w.heap.size, w.alloc (.cells (List.replicate m z0).toArray e), ?_, AllLe.mk hc, hc.alloc e (List.replicate m z0)⟩) (fun b => ⟨fun a w hs hc => (k b hc.1).run a w hs hc.2⟩)
  have hb : (i.bytes : Int) * (m : Int) ≤ 281474976710656 := by
    have h3 := hlim.2
    rw [← g5, Nat.mul_comm] at h3
    have h5 : ((i.bytes * m : Nat) : Int) ≤ ((140737488355328 : Nat) : Int) := Int.ofNat_le.2 h3
    rw [Int.natCast_mul] at h5
    exact Int.le_trans h5 (by decide)
  have hr := run_make (P := P) w t e i z g1 g2 g3 k1 k2 (m : Int) (m : Int) (by omega) (by omega) hb (by omega)
  rw [hcell, g4, Nat.mul_one, Int.toNat_natCast, madeCells_one] at hr
  simp only [execOp, hs.eval hx rfl, hs.eval hy rfl, Sem.run_bind, hr, Result.andThen_ok]
  rfl
end
end Go.Eng
