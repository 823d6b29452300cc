/- Parts of slices, function values, stores into rows, made rows. General. No condition. -/
import Derived.Test.YtlboppiogeaicaaDoorStrs
namespace Go.Eng
open Go.RowKit
set_option linter.unusedVariables false
set_option linter.unusedSimpArgs false
section
variable {P : Program} {n : Nat} {l : Env} {H : List Item} {S : List World} {C : World → Prop} {c : Bool} {d : Option Nat} {ty : TypeId} {pos : String} {af : Array Edge} {g : Option (Nat × Bool)}
variable {ops : Array Oper} {rest : List Oper} {Q : Exit → Act → World → Prop}
variable {t : TypeId} {x y z : Operand} {cx cy cz : Bool}

def cutq (q : Option Addr) (cap i sz : Nat) : Option Addr := if cap = i then q else q.map (·.add (i * sz))
theorem SlAt.cut {w : World} {B : Nat} {q : Option Addr} {vs : List Value} {cap i sz : Nat} (h : SlAt w B q vs) (hl : vs.length ≤ cap * sz) : SlAt w B (cutq q cap i sz) (vs.drop (i * sz)) := by
  intro hv
  have hlt : i * sz < vs.length := by
    rw [List.length_drop] at hv; omega
  obtain ⟨a, rfl, hab, hc⟩ := h (by omega)
  have hne : ¬ cap = i := by
    intro e; subst e; omega
  refine ⟨a.add (i * sz), by simp [cutq, hne], by simpa [add_block] using hab, fun j v hj => ?_⟩
  rw [add_add]
  exact hc _ v (by rwa [List.getElem?_drop] at hj)

theorem Pev.slice_hi {e : TypeId} {sz len cp i : Nat} {k : IntKind} {j : Int} {q : Option Addr} (hx : evl l x = some (cx, .slice q len cp)) (hcx : c = true → cx = true) (hz : evl l z = some (cz, .int k j)) (hcz : c = true → cz = true)
    (hu : slElem P t = some (e, sz)) (hj : j = (i : Int)) (hb : c = true → i ≤ cp) : Pev P n l C ⟨d, .slice t x none (some z) none, ty, pos, af, g⟩ c (.slice q i cp) :=
  .of_run fun h a w hs hw => by
    subst hj
    have hb' := hb h
    unfold slElem at hu
    cases h1 : P.underlying t with
    | none => simp [h1] at hu
    | some d1 =>
      rw [h1] at hu
      cases d1 <;> simp only [reduceCtorEq] at hu
      rename_i e'
      cases h2 : sizeN P e' with
      | none => simp [h2] at hu
      | some k' =>
        simp only [execOp, hs.eval hx (hcx h), Option.map_some, Option.map_none, hs.eval hz (hcz h), Instr.sliceAt, Instr.slice, Sem.run_bind, run_underlying h1, Result.andThen_ok, Instr.sliceBounds, Instr.sliceBound, asIntOf, Sem.run_pure, run_sizeN h2]
        simp [hb', add_zero_]
theorem Pev.slice_lo {e : TypeId} {sz len cp i : Nat} {k : IntKind} {j : Int} {q : Option Addr} (hx : evl l x = some (cx, .slice q len cp)) (hcx : c = true → cx = true) (hy : evl l y = some (cy, .int k j)) (hcy : c = true → cy = true)
    (hu : slElem P t = some (e, sz)) (hj : j = (i : Int)) (hb : c = true → i ≤ len) : Pev P n l C ⟨d, .slice t x (some y) none none, ty, pos, af, g⟩ c (.slice (cutq q cp i sz) (len - i) (cp - i)) :=
  .of_run fun h a w hs hw => by
    subst hj
    have hb' := hb h
    unfold slElem at hu
    cases h1 : P.underlying t with
    | none => simp [h1] at hu
    | some d1 =>
      rw [h1] at hu
      cases d1 <;> simp only [reduceCtorEq] at hu
      rename_i e'
      cases h2 : sizeN P e' with
      | none => simp [h2] at hu
      | some k' =>
        rw [h2] at hu
        simp only [Option.some.injEq, Prod.mk.injEq] at hu
        obtain ⟨rfl, rfl⟩ := hu
        simp only [execOp, hs.eval hx (hcx h), Option.map_some, Option.map_none, hs.eval hy (hcy h), Instr.sliceAt, Instr.slice, Sem.run_bind, run_underlying h1, Result.andThen_ok, Instr.sliceBounds, Instr.sliceBound, asIntOf, Sem.run_pure, run_sizeN h2]
        simp [hb', cutq]
/-- an element's address, at a counted place that is known in range under the condition alone -/
theorem Pev.idxI {e : TypeId} {sz len cp : Nat} {ki : IntKind} {i : Int} {q : Addr} (hx : evl l x = some (cx, .slice (some q) len cp)) (hcx : c = true → cx = true) (hy : evl l y = some (cy, .int ki i)) (hcy : c = true → cy = true)
    (hu : slElem P t = some (e, sz)) (hi : c = true → 0 ≤ i ∧ i < len) : Pev P n l C ⟨d, .indexAddr t x y, ty, pos, af, g⟩ c (.pointer (some (q.add (i.toNat * sz)))) :=
  .of_run fun h a w hs hw => by
    obtain ⟨h1, h2⟩ := hi h
    obtain ⟨m, rfl⟩ := Int.eq_ofNat_of_zero_le h1
    simp only [execOp, hs.eval hx (hcx h), hs.eval hy (hcy h), Sem.run_bind, run_indexAt_slice hu (show m < len by omega), Result.andThen_ok]; rfl
theorem Pev.makeFunc {f : FuncId} {first caps : List Operand} {us vs : List Value} (h1 : Args l c first us) (h2 : Args l c caps vs) : Pev P n l C ⟨d, .makeFunc (.func f) first.toArray caps.toArray, ty, pos, af, g⟩ c (.func (.func f) us.toArray vs.toArray) :=
  .of_run fun h a w hs hw => by
    simp only [execOp, Instr.makeFunc]
    rw [List.map_toArray, List.map_toArray, h1.map hs h, h2.map hs h]
    rfl
end
end Go.Eng
