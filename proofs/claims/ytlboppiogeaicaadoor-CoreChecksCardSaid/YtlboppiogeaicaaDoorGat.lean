/- A guard that is known to hold is put away; slices held against nil; readings of slices of strings. General. No condition. -/
import Derived.Test.YtlboppiogeaicaaDoorCat
import Derived.WalkSpells
namespace Go.Eng
open Go.RowKit
set_option linter.unusedVariables false
set_option linter.unusedSimpArgs false
section
variable {P : Program} {n : Nat} {l : Env} {H : List Item} {S : List World} {C : World → Prop} {c : Bool} {d : Option Nat} {op : Op} {ty : TypeId} {pos : String} {af : Array Edge} {g : Option (Nat × Bool)}
variable {ops : Array Oper} {rest : List Oper} {Q : Exit → Act → World → Prop} {x y : Operand} {cx cy : Bool} {t : TypeId}

theorem OL.ungate (hg : Guard l ops g c) (hc : c = true) (h : OL P n ops Q (⟨d, op, ty, pos, af, none⟩ :: rest) l C) : OL P n ops Q (⟨d, op, ty, pos, af, g⟩ :: rest) l C := by
  refine ⟨fun a w hs hw => ?_⟩
  have h1 := h.run a w hs hw
  have hwant := Guard.wanted (o := ⟨d, op, ty, pos, af, g⟩) hs hg
  rw [hc] at hwant
  unfold wpList at h1 ⊢
  rw [if_pos hwant]
  rw [if_pos (by simp [Region.wanted])] at h1
  exact h1
theorem OL.gateOff {dd : Nat} (hg : Guard l ops g c) (hc : c = false) (hn : Nat.ble (dd + 1) n = true) (h : OL P n ops Q rest ((dd, false, undef) :: l) C) : OL P n ops Q (⟨some dd, op, ty, pos, af, g⟩ :: rest) l C := by
  refine ⟨fun a w hs hw => ?_⟩
  have hwant := Guard.wanted (o := ⟨some dd, op, ty, pos, af, g⟩) hs hg
  rw [hc] at hwant
  unfold wpList
  rw [if_neg (by simp [hwant])]
  exact h.run _ w (hs.put (Nat.le_of_ble_eq_true hn) false undef) hw

theorem slElem_und {e : TypeId × Nat} (hu : slElem P t = some e) : P.underlying t = some (.slice e.1) := by
  unfold slElem at hu
  cases h1 : P.underlying t with
  | none => simp [h1] at hu
  | some d1 =>
    rw [h1] at hu
    cases d1 <;> simp only [reduceCtorEq] at hu
    rename_i e'
    cases h2 : sizeN P e' with
    | none => simp [h2] at hu
    | some k' =>
      rw [h2] at hu
      obtain rfl := Option.some.inj hu
      rfl
theorem guard_slice {op : BinOp} {x y : Operand} {q q' : Option Addr} {m cp m' c' : Nat} {w : World} : (eqGuard op t x y (.slice q m cp) (.slice q' m' c')).run P w = .ok () w := by cases op <;> rfl
theorem Bin.slice_nil {q : Option Addr} {m cp m' c' : Nat} {e : TypeId × Nat} (hu : slElem P t = some e) : Bin P .eql t (.slice q m cp) (.slice none m' c') (.bool q.isNone) := ⟨fun x y w => by
  rw [Sem.run_bind, guard_slice, Result.andThen_ok]
  simp only [binOp]
  simp [Op.equal, Op.maxDepth, Lib.run_equalIn_slice_nil w 9999 t e.1 q m cp m' c' (slElem_und hu)]⟩
theorem Bin.slice_nnil {q : Option Addr} {m cp m' c' : Nat} {e : TypeId × Nat} (hu : slElem P t = some e) : Bin P .neq t (.slice q m cp) (.slice none m' c') (.bool (!q.isNone)) := ⟨fun x y w => by
  rw [Sem.run_bind, guard_slice, Result.andThen_ok]
  exact run_neq_slice_nil_any w t e.1 q m cp m' c' (slElem_und hu)⟩
end

/-! readings -/
section
variable {H : Type} {enc : TypeId × Value → H} {P : Program} {w : World} {spare : Nat → Bool} {held : Bool}
/-- a slice of strings that reads -/
theorem strs_of {t e : TypeId} {fuel : Nat} {cs : List Value} {x : DataW H × List MemPlace} (ht : P.underlying t = some (.slice e)) (he : P.underlying e = some .string) (hs : P.cellsOf e = 1) (h : DataW.trod enc P w 0 spare held fuel t cs = some x) :
    ∃ (q : Option Addr) (l : List ByteArray) (cap : Nat), cs = [.slice q l.length cap] ∧ l.length ≤ cap ∧ cap ≤ maxLen ∧ SlAt w w.heap.size q (strs l) := by
  obtain ⟨q, len, cap, rfl, hle, hcap, hq0, m, hm, hel⟩ := slice_reads ht hs h
  cases q with
  | none =>
    obtain rfl := hq0 rfl
    exact ⟨none, [], cap, rfl, hle, hcap, SlAt.nil⟩
  | some a =>
    obtain ⟨l, hl, hr⟩ := list_of (fun i (s : ByteArray) => w.cell? (a.add (i * 1)) = some (.string s)) len (fun i hi => by
      obtain ⟨cs', y, hc, hl1, ht'⟩ := hel a rfl i hi
      obtain ⟨s, e1, _, _⟩ := DataW.trod_string he ht'
      subst e1
      exact ⟨s, hc 0 _ rfl⟩)
    subst hl
    refine ⟨some a, l, cap, rfl, hle, hcap, fun hv => ⟨a, rfl, ?_, fun j v hj => ?_⟩⟩
    · rw [strs_length] at hv
      have := hr 0 _ (List.getElem?_eq_getElem hv)
      rw [Nat.zero_mul] at this
      exact cell_lt this
    · unfold strs at hj
      rw [List.getElem?_map] at hj
      obtain ⟨s, hs', rfl⟩ := Option.map_eq_some_iff.1 hj
      have := hr j s hs'
      rwa [Nat.mul_one] at this
end
end Go.Eng
