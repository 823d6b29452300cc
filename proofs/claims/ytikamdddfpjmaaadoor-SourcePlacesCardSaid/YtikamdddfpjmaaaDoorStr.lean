/- Rules for strings and bytes: parts of a string, an array taken as a slice, bytes made a string. General. No condition. -/
import Derived.Test.YtikamdddfpjmaaaDoorMem
import Derived.Laws.BytesArg
namespace Go.Eng
open Go.RowKit
set_option linter.unusedVariables false
set_option linter.unusedSimpArgs false

def byteCell (x : UInt8) : Value := .int .u8 x.toNat

section
variable {P : Program} {n : Nat} {l : Env} {H : List Item} {S : List World} {C : World → Prop} {c : Bool} {d : Option Nat} {ty : TypeId} {pos : String} {af : Array Edge} {g : Option (Nat × Bool)}
variable {t : TypeId} {x y z : Operand} {cx cy cz : Bool}

theorem Pev.sliceArr {b o len sz : Nat} (hx : evl l x = some (cx, .pointer (some ⟨b, o, none⟩))) (hc : c = true → cx = true) (hu : arrElem P t = some (len, sz)) (hl : Nat.beq len 0 = false) :
    Pev P n l C ⟨d, .slice t x none none none, ty, pos, af, g⟩ c (.slice (some ⟨b, o, none⟩) len len) :=
  .of_run fun h a w hs hw => by
    unfold arrElem at hu
    cases hq : P.underlying t with
    | none => simp [hq] at hu
    | some d1 =>
      rw [hq] at hu
      cases d1 <;> simp only [reduceCtorEq] at hu
      rename_i len' e'
      cases h3 : sizeN P e' with
      | none => simp [h3] at hu
      | some k' =>
        rw [h3] at hu
        simp only [Option.some.injEq, Prod.mk.injEq] at hu
        obtain ⟨rfl, rfl⟩ := hu
        have hne : len' ≠ 0 := fun e => by rw [e] at hl; cases hl
        simp only [execOp, hs.eval hx (hc h), Instr.sliceAt, Instr.sureAddr, Sem.run_bind, Sem.run_pure, Result.andThen_ok, run_underlying hq, run_sizeN h3, Instr.sliceBounds, Option.map_none]
        simp [hne, add_zero_]

theorem run_slice_str {w : World} {s : ByteArray} {lo hi : Nat} {kl kh : IntKind} (hu : strB P t = true) (h1 : lo ≤ hi) (h2 : hi ≤ s.size) :
    (Instr.sliceAt t (.string s) (some (.int kl (lo : Int))) (some (.int kh (hi : Int))) none).run P w = .ok (.string (s.extract lo hi)) w := by
  unfold strB at hu
  cases hq : P.underlying t with
  | none => simp [hq] at hu
  | some d1 =>
    rw [hq] at hu
    cases d1 <;> simp at hu
    simp [Instr.sliceAt, Instr.slice, run_underlying hq, Instr.sliceBounds, Instr.sliceBound, asIntOf, h1, h2]
theorem run_slice_str_lo {w : World} {s : ByteArray} {lo : Nat} {kl : IntKind} (hu : strB P t = true) (h1 : lo ≤ s.size) :
    (Instr.sliceAt t (.string s) (some (.int kl (lo : Int))) none none).run P w = .ok (.string (s.extract lo s.size)) w := by
  unfold strB at hu
  cases hq : P.underlying t with
  | none => simp [hq] at hu
  | some d1 =>
    rw [hq] at hu
    cases d1 <;> simp at hu
    simp [Instr.sliceAt, Instr.slice, run_underlying hq, Instr.sliceBounds, Instr.sliceBound, asIntOf, h1]
theorem run_slice_str_hi {w : World} {s : ByteArray} {hi : Nat} {kh : IntKind} (hu : strB P t = true) (h1 : hi ≤ s.size) :
    (Instr.sliceAt t (.string s) none (some (.int kh (hi : Int))) none).run P w = .ok (.string (s.extract 0 hi)) w := by
  unfold strB at hu
  cases hq : P.underlying t with
  | none => simp [hq] at hu
  | some d1 =>
    rw [hq] at hu
    cases d1 <;> simp at hu
    simp [Instr.sliceAt, Instr.slice, run_underlying hq, Instr.sliceBounds, Instr.sliceBound, asIntOf, h1]
theorem Pev.slice_str {s : ByteArray} {kl kh : IntKind} {i j : Int} (lo hi : Nat) (hx : evl l x = some (cx, .string s)) (hcx : c = true → cx = true) (hy : evl l y = some (cy, .int kl i)) (hcy : c = true → cy = true) (hz : evl l z = some (cz, .int kh j)) (hcz : c = true → cz = true)
    (hu : strB P t = true) (hb : c = true → i = lo ∧ j = hi ∧ lo ≤ hi ∧ hi ≤ s.size) : Pev P n l C ⟨d, .slice t x (some y) (some z) none, ty, pos, af, g⟩ c (.string (s.extract lo hi)) :=
  .of_run fun h a w hs hw => by
    obtain ⟨rfl, rfl, h1, h2⟩ := hb h
    simp only [execOp, hs.eval hx (hcx h), Option.map_some, Option.map_none, hs.eval hy (hcy h), hs.eval hz (hcz h), Sem.run_bind, run_slice_str hu h1 h2, Result.andThen_ok]; rfl
theorem Pev.slice_str_lo {s : ByteArray} {kl : IntKind} {i : Int} (lo : Nat) (hx : evl l x = some (cx, .string s)) (hcx : c = true → cx = true) (hy : evl l y = some (cy, .int kl i)) (hcy : c = true → cy = true)
    (hu : strB P t = true) (hb : c = true → i = lo ∧ lo ≤ s.size) : Pev P n l C ⟨d, .slice t x (some y) none none, ty, pos, af, g⟩ c (.string (s.extract lo s.size)) :=
  .of_run fun h a w hs hw => by
    obtain ⟨rfl, h1⟩ := hb h
    simp only [execOp, hs.eval hx (hcx h), Option.map_some, Option.map_none, hs.eval hy (hcy h), Sem.run_bind, run_slice_str_lo hu h1, Result.andThen_ok]; rfl
theorem Pev.slice_str_hi {s : ByteArray} {kh : IntKind} {j : Int} (hi : Nat) (hx : evl l x = some (cx, .string s)) (hcx : c = true → cx = true) (hz : evl l z = some (cz, .int kh j)) (hcz : c = true → cz = true)
    (hu : strB P t = true) (hb : c = true → j = hi ∧ hi ≤ s.size) : Pev P n l C ⟨d, .slice t x none (some z) none, ty, pos, af, g⟩ c (.string (s.extract 0 hi)) :=
  .of_run fun h a w hs hw => by
    obtain ⟨rfl, h1⟩ := hb h
    simp only [execOp, hs.eval hx (hcx h), Option.map_some, Option.map_none, hs.eval hz (hcz h), Sem.run_bind, run_slice_str_hi hu h1, Result.andThen_ok]; rfl

def bytesB (P : Program) (t : TypeId) : Bool := match P.underlying t with
  | some (.slice e) => match P.underlying e with
    | some (.int .u8) => true
    | _ => false
  | _ => false
theorem run_bytes_string {src dst : TypeId} {w : World} {a : Addr} {cap : Nat} {xs : List UInt8} (hs : bytesB P src = true) (hd : strB P dst = true) (hc : CellsAt w a (xs.map byteCell)) :
    (convert src dst (.slice (some a) xs.length cap)).run P w = .ok (.string ⟨xs.toArray⟩) w := by
  unfold bytesB at hs
  unfold strB at hd
  cases h1 : P.underlying src with
  | none => simp [h1] at hs
  | some d1 =>
    rw [h1] at hs
    cases d1 <;> simp only [Bool.false_eq_true] at hs
    rename_i e
    cases h2 : P.underlying e with
    | none => simp [h2] at hs
    | some d2 =>
      cases h3 : P.underlying dst with
      | none => simp [h3] at hd
      | some d3 =>
        rw [h3] at hd
        cases d3 <;> simp only [Bool.false_eq_true] at hd
        have he : P.underlying e = some (.int .u8) := by
          rw [h2]
          simp only [h2] at hs
          split at hs
          · rename_i hq; exact hq
          · cases hs
        have hl := run_loadCells_list (P := P) w a (xs.map byteCell) hc
        rw [List.length_map] at hl
        simp only [convert, Sem.run_bind, run_underlying h1, run_underlying h3, Result.andThen_ok, run_underlying he]
        rw [run_bytesToString (P := P) w a xs.length cap (xs.map fun x => (x.toNat : Int)) (by
          rw [hl]; congr 2; simp [byteCell, Function.comp_def])]
        congr 2
        have key : ∀ (ys : List UInt8) (r : ByteArray), (ys.map fun x => (x.toNat : Int)).foldl (fun r n => r.push (UInt8.ofNat n.toNat)) r = ⟨(r.data.toList ++ ys).toArray⟩ := by
          intro ys
          induction ys with
          | nil => intro r; simp
          | cons y ys ih =>
            intro r
            simp only [List.map_cons, List.foldl_cons, ih]
            congr 1
            simp [ByteArray.push]
        rw [key]
        rfl
theorem Pev.bytes_string {src dst : TypeId} {b o cap : Nat} {t' : TypeId} {cs : List Value} {xs : List UInt8} (hx : evl l x = some (cx, .slice (some ⟨b, o, none⟩) xs.length cap)) (hc : c = true → cx = true)
    (hp : blk b t' cs ∈ H) (hs : bytesB P src = true) (hd : strB P dst = true) (hcs : ∀ j, j < xs.length → cs[o + j]? = (xs.map byteCell)[j]?) :
    Pev P n l (Cls H S) ⟨d, .convert src dst x, ty, pos, af, g⟩ c (.string ⟨xs.toArray⟩) :=
  .of_run fun h a w hs' hw => by
    have hcell : CellsAt w ⟨b, o, none⟩ (xs.map byteCell) := fun j v hj => by
      have hjl : j < xs.length := by
        have := (List.getElem?_eq_some_iff.1 hj).1
        simpa using this
      rw [add_mid, blk_cell (hw.item hp), hcs j hjl]; exact hj
    simp only [execOp, hs'.eval hx (hc h), Sem.run_bind, run_bytes_string hs hd hcell, Result.andThen_ok]; rfl
theorem Bin.shr64 {k : IntKind} {yk : IntKind} {a b : Int} (hk : k.bits = 64) (h : 0 ≤ b ∧ b ≤ 64) : Bin P .shr t (.int k a) (.int yk b) (.int k (a / 2 ^ b.toNat)) := Bin.shr ⟨h.1, by rw [hk]; exact h.2⟩
end
end Go.Eng
