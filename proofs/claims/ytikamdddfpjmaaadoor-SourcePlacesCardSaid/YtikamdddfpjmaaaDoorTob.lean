/- A string made a slice of bytes. General. No condition. -/
import Derived.Test.YtikamdddfpjmaaaDoorStrs
import Derived.Test.YtikamdddfpjmaaaDoorStr
import Derived.Laws.IdiomStrings
namespace Go.Eng
open Go.RowKit
set_option linter.unusedVariables false
set_option linter.unusedSimpArgs false
section
variable {P : Program} {n : Nat} {l : Env} {H : List Item} {S : List World} {c : Bool} {d : Option Nat} {ty : TypeId} {pos : String} {af : Array Edge}
variable {ops : Array Oper} {rest : List Oper} {Q : Exit → Act → World → Prop} {x : Operand}

theorem OL.toBytes {src dst : TypeId} {s : ByteArray} {dd : Nat} (hx : evl l x = some (true, .string s)) (hn : Nat.ble (dd + 1) n = true) (hs : strB P src = true) (hd : bytesB P dst = true)
    (k : ∀ (w1 : World) (b cap : Nat), AllLe S b → SlAt w1 w1.heap.size (some ⟨b, 0, none⟩) (s.data.toList.map byteCell) → OL P n ops Q rest ((dd, true, .slice (some ⟨b, 0, none⟩) s.size cap) :: l) (Cls H (w1 :: S))) :
    OL P n ops Q (⟨some dd, .convert src dst x, ty, pos, af, none⟩ :: rest) l (Cls H S) := by
  unfold strB at hs
  unfold bytesB at hd
  cases h1 : P.underlying src with
  | none => simp [h1] at hs
  | some d1 =>
    rw [h1] at hs
    cases d1 <;> simp only [Bool.false_eq_true] at hs
    cases h2 : P.underlying dst with
    | none => simp [h2] at hd
    | some d2 =>
      rw [h2] at hd
      cases d2 <;> simp only [Bool.false_eq_true] at hd
      rename_i e
      have he : P.underlying e = some (.int .u8) := by
        cases h3 : P.underlying e with
        | none => simp [h3] at hd
        | some d3 =>
          rw [h3] at hd
          split at hd
          · rename_i hq; exact hq
          · cases hd
      refine OL.newT (α := World × Nat × Nat) (C' := fun r w => (AllLe S r.2.1 ∧ SlAt r.1 r.1.heap.size (some ⟨r.2.1, 0, none⟩) (s.data.toList.map byteCell)) ∧ Cls H (r.1 :: S) w) rfl rfl hn (fun r => .slice (some ⟨r.2.1, 0, none⟩) s.size r.2.2) (fun a w hs' hc => ?_) (fun r => ⟨fun a w hs hc => (k r.1 r.2.1 r.2.2 hc.1.1 hc.1.2).run a w hs hc.2⟩)
      obtain ⟨O, hO⟩ : ∃ O, O = (Obj.cells (bytesRow s (grownCap w s.size 0 e)) e ((bytesRow s (grownCap w s.size 0 e)).size, (bytesRow s (grownCap w s.size 0 e)).size + 1)) := ⟨_, rfl⟩
      have hr := run_bytes_of_string (P := P) w src dst e s h1 h2 he
      rw [← hO] at hr
      have hx0 : Ext w (w.drew.alloc O) := (Keep.trans (b := w.drew) ⟨rfl, rfl, rfl, Nat.le_refl _, fun _ _ _ => rfl⟩ (ext_alloc _ O))
      have hnew : (w.drew.alloc O).heap[w.heap.size]? = some O := by
        show (w.heap.push O)[w.heap.size]? = _
        simp
      refine ⟨(w.drew.alloc O, w.heap.size, grownCap w s.size 0 e), w.drew.alloc O, ?_, ⟨AllLe.mk hc, fun _ => ⟨_, rfl, (Array.getElem?_eq_some_iff.1 hnew).1, fun j v hj => ?_⟩⟩, (hc.ext hx0).note⟩
      · simp only [execOp, hs'.eval hx rfl, Sem.run_bind, hr, Result.andThen_ok]; rfl
      · rw [add_mid, Nat.zero_add]
        unfold World.cell?
        rw [hnew, hO]
        simp only
        unfold bytesRow
        have hjl := (List.getElem?_eq_some_iff.1 hj).1
        rw [List.length_map, Array.length_toList] at hjl
        rw [Array.getElem?_append_left (by simpa using hjl), Array.getElem?_map]
        rw [List.getElem?_map, Array.getElem?_toList] at hj
        exact hj
theorem SlAt.byte {w : World} {B : Nat} {q : Option Addr} {s : ByteArray} (h : SlAt w B q (s.data.toList.map byteCell)) {i : Nat} (hi : i < s.size) :
    ∃ a, q = some a ∧ a.block < B ∧ w.cell? (a.add (i * 1)) = some (.int .u8 (bt s i)) := by
  have hi' : i < s.data.toList.length := by rw [Array.length_toList]; exact hi
  obtain ⟨a, rfl, hab, hc⟩ := h (by rw [List.length_map]; omega)
  refine ⟨a, rfl, hab, ?_⟩
  rw [Nat.mul_one]
  refine hc i _ ?_
  rw [List.getElem?_map, List.getElem?_eq_getElem hi']
  unfold bt byteCell
  rw [List.getD_eq_getElem?_getD, List.getElem?_eq_getElem hi']
  rfl
end
end Go.Eng
