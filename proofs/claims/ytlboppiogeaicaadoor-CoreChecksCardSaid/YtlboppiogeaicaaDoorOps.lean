/- The rules for operations: moves, arithmetic, comparisons, addresses, loads, calls, new blocks, stores. General: any program P. No condition. -/
import Derived.Test.YtlboppiogeaicaaDoorRul
namespace Go.Eng
open Go.RowKit
set_option linter.unusedVariables false
set_option linter.unusedSimpArgs false

/-! ### What is read off the program's types -/

def lit : Nat → Option Nat
  | 0 => some 0 | 1 => some 1 | 2 => some 2 | 3 => some 3 | 4 => some 4 | 5 => some 5 | 6 => some 6 | 7 => some 7 | 8 => some 8 | 9 => some 9 | 10 => some 10 | 11 => some 11 | 12 => some 12 | 13 => some 13 | 14 => some 14 | 15 => some 15 | 16 => some 16 | 17 => some 17 | 18 => some 18 | 19 => some 19 | 20 => some 20 | 21 => some 21 | 22 => some 22 | 23 => some 23 | 24 => some 24 | 25 => some 25 | 26 => some 26 | 27 => some 27 | 28 => some 28 | 29 => some 29 | 30 => some 30 | 31 => some 31 | 32 => some 32 | 33 => some 33 | 34 => some 34 | 35 => some 35 | 36 => some 36 | 37 => some 37 | 38 => some 38 | 39 => some 39 | 40 => some 40 | 41 => some 41 | 42 => some 42 | 43 => some 43 | 44 => some 44 | 45 => some 45 | 46 => some 46 | 47 => some 47 | 48 => some 48 | 49 => some 49 | 50 => some 50 | 51 => some 51 | 52 => some 52 | 53 => some 53 | 54 => some 54 | 55 => some 55 | 56 => some 56 | 57 => some 57 | 58 => some 58 | 59 => some 59 | 60 => some 60 | 61 => some 61 | 62 => some 62 | 63 => some 63 | 64 => some 64
  | _ => none
theorem lit_eq {a b : Nat} (h : lit a = some b) : a = b := by
  unfold lit at h
  split at h <;> simp_all

def scalB (P : Program) (t : TypeId) : Bool := match P.underlying t with | some (.struct _) => false | some (.array ..) => false | some _ => true | none => false
def sizeN (P : Program) (t : TypeId) : Option Nat := match P.info? t with | some i => lit i.size | none => none
def aggN (P : Program) (t : TypeId) : Option Nat := match P.underlying t with
  | some (.struct _) => sizeN P t
  | some (.array ..) => sizeN P t
  | _ => none
def fldAt (P : Program) (t : TypeId) (i : Nat) : Option Nat := match P.underlying t with
  | some (.struct fs) => match fs[i]? with
    | some f => match sizeN P f.type with
      | some 0 => none
      | some (_ + 1) => lit f.offset
      | none => none
    | none => none
  | _ => none
def slElem (P : Program) (t : TypeId) : Option (TypeId × Nat) := match P.underlying t with
  | some (.slice e) => match sizeN P e with
    | some k => some (e, k)
    | none => none
  | _ => none
def arrElem (P : Program) (t : TypeId) : Option (Nat × Nat) := match P.underlying t with
  | some (.array n e) => match sizeN P e with
    | some k => some (n, k)
    | none => none
  | _ => none
def intK (P : Program) (t : TypeId) : Option IntKind := match P.underlying t with | some (.int k) => some k | _ => none
def boolB (P : Program) (t : TypeId) : Bool := match P.underlying t with | some .bool => true | _ => false
def strB (P : Program) (t : TypeId) : Bool := match P.underlying t with | some .string => true | _ => false
def callable (P : Program) (f : FuncId) : Bool := match P.funcs[f]? with | some fn => !(fn.name == "runtime.NumGoroutine") && fn.body.isSome | none => false

section types
variable {P : Program} {t : TypeId}
theorem run_isAgg_scal (h : scalB P t = true) (w : World) : (isAgg t).run P w = .ok false w := by
  unfold scalB at h
  cases hu : P.underlying t with
  | none => simp [hu] at h
  | some d =>
    unfold isAgg
    rw [Sem.run_bind, run_underlying hu w]
    rw [hu] at h
    cases d <;> simp_all
theorem sizeN_info {k : Nat} (h : sizeN P t = some k) : ∃ i, P.info? t = some i ∧ i.size = k := by
  unfold sizeN at h
  cases hq : P.info? t with
  | none => simp [hq] at h
  | some i => rw [hq] at h; exact ⟨i, rfl, lit_eq h⟩
theorem aggN_info {k : Nat} (h : aggN P t = some k) : ∃ d, P.underlying t = some d ∧ (match d with | .struct _ | .array _ _ => true | _ => false) = true ∧ sizeN P t = some k := by
  unfold aggN at h
  cases hu : P.underlying t with
  | none => simp [hu] at h
  | some d =>
    refine ⟨d, rfl, ?_⟩
    rw [hu] at h
    cases d <;> simp_all
theorem run_isAgg_agg {k : Nat} (h : aggN P t = some k) (w : World) : (isAgg t).run P w = .ok true w := by
  obtain ⟨d, hu, hd, _⟩ := aggN_info h
  unfold isAgg
  rw [Sem.run_bind, run_underlying hu w]
  cases d <;> simp_all
theorem run_sizeN {k : Nat} (h : sizeN P t = some k) (w : World) : (sizeOf t).run P w = .ok k w := by
  obtain ⟨i, hq, hs⟩ := sizeN_info h
  simp [sizeOf, typeInfo, hq, hs]
theorem aggN_size {k : Nat} (h : aggN P t = some k) : sizeN P t = some k := (aggN_info h).choose_spec.2.2
theorem run_loadVar_scal (h : scalB P t = true) {w : World} {a : Addr} {v : Value} (hc : w.cell? a = some v) : (loadVar t a).run P w = .ok v w := by
  simp [loadVar, Sem.run_bind, run_isAgg_scal h, hc]
/-- the cells from an address on -/
def CellsAt (w : World) (a : Addr) (vs : List Value) : Prop := ∀ j v, vs[j]? = some v → w.cell? (a.add j) = some v
theorem run_loadVar_agg {vs : List Value} (h : aggN P t = some vs.length) {w : World} {a : Addr} (hc : CellsAt w a vs) : (loadVar t a).run P w = .ok (.agg vs.toArray) w := by
  have hl := run_loadCells_list (P := P) w a vs hc
  simp [loadVar, Sem.run_bind, run_isAgg_agg h, run_sizeN (aggN_size h), hl]
end types

theorem add_zero_ (a : Addr) : a.add 0 = a := rfl
theorem add_mid {b o : Nat} (n : Nat) : (⟨b, o, none⟩ : Addr).add n = ⟨b, o + n, none⟩ := by
  unfold Addr.add; split
  · subst_vars; rfl
  · rfl
theorem add_block (a : Addr) (n : Nat) : (a.add n).block = a.block := by unfold Addr.add; split <;> rfl
theorem add_add (a : Addr) (i j : Nat) : (a.add i).add j = a.add (i + j) := by
  unfold Addr.add
  by_cases hi : i = 0 <;> by_cases hj : j = 0 <;> simp [hi, hj, Nat.add_assoc]

/-! ### Values without a look at memory -/

section
variable {P : Program} {n : Nat} {l : Env} {C : World → Prop} {c : Bool} {d : Option Nat} {ty : TypeId} {pos : String} {af : Array Edge} {g : Option (Nat × Bool)}

theorem Pev.of_run {o : Oper} {v : Value} (h : c = true → ∀ a w, Sees n l a → C w → (execOp a.eval o).run P w = .ok (.value v) w) : Pev P n l C o c v :=
  ⟨fun hc a w hs hw => by rw [h hc a w hs hw]; exact ⟨rfl, rfl⟩⟩

theorem Pev.move {x : Operand} {cx : Bool} {v : Value} (hx : evl l x = some (cx, v)) (hc : c = true → cx = true) : Pev P n l C ⟨d, .move x, ty, pos, af, g⟩ c v :=
  .of_run fun h a w hs hw => by show Result.ok (Next.value (a.eval x)) w = _; rw [hs.eval hx (hc h)]
theorem Pev.assign {x : Operand} {cx : Bool} {v : Value} (hx : evl l x = some (cx, v)) (hc : c = true → cx = true) : Pev P n l C ⟨d, .assign x, ty, pos, af, g⟩ c v :=
  .of_run fun h a w hs hw => by show Result.ok (Next.value (a.eval x)) w = _; rw [hs.eval hx (hc h)]

theorem run_pick {a : Act} {w : World} {x y z : Operand} {b : Bool} (hx : a.eval x = .bool b) : (execOp a.eval ⟨d, .pick x y z, ty, pos, af, g⟩).run P w = .ok (.value (bif b then a.eval y else a.eval z)) w := by
  simp only [execOp, hx, asBool]
  cases b <;> rfl
theorem Pev.pick_and {x y : Operand} {cx cy b p : Bool} (hx : evl l x = some (cx, .bool b)) (hc : c = true → cx = true) (hy : evl l y = some (cy, .bool p)) (hcy : (c && b) = true → cy = true) :
    Pev P n l C ⟨d, .pick x y (.const (.bool false)), ty, pos, af, g⟩ c (.bool (b && p)) :=
  .of_run fun h a w hs hw => by
    rw [run_pick (hs.eval hx (hc h))]
    cases b with
    | false => rfl
    | true => rw [cond_true, hs.eval hy (hcy (by simp [h]))]; rfl
theorem Pev.pick_or {x y : Operand} {cx cy b p : Bool} (hx : evl l x = some (cx, .bool b)) (hc : c = true → cx = true) (hy : evl l y = some (cy, .bool p)) (hcy : (c && !b) = true → cy = true) :
    Pev P n l C ⟨d, .pick x (.const (.bool true)) y, ty, pos, af, g⟩ c (.bool (b || p)) :=
  .of_run fun h a w hs hw => by
    rw [run_pick (hs.eval hx (hc h))]
    cases b with
    | true => rfl
    | false => rw [cond_false, hs.eval hy (hcy (by simp [h]))]; rfl

theorem Pev.nil_ptr {x : Operand} {cx : Bool} {q : Addr} (hx : evl l x = some (cx, .pointer (some q))) (hc : c = true → cx = true) : Pev P n l C ⟨d, .nilCheck x, ty, pos, af, g⟩ c (.pointer (some q)) :=
  .of_run fun h a w hs hw => by simp only [execOp, hs.eval hx (hc h)]; rfl

/-! binary operations -/

structure Bin (P : Program) (op : BinOp) (t : TypeId) (u v r : Value) : Prop where
  run : ∀ (x y : Operand) (w : World), (do eqGuard op t x y u v; binOp op t u v : Sem Value).run P w = .ok r w

theorem Pev.bin {op : BinOp} {t yt : TypeId} {x y : Operand} {cx cy : Bool} {u v r : Value} (hx : evl l x = some (cx, u)) (hcx : c = true → cx = true) (hy : evl l y = some (cy, v)) (hcy : c = true → cy = true)
    (hb : c = true → Bin P op t u v r) : Pev P n l C ⟨d, .binOp op t x y yt, ty, pos, af, g⟩ c r :=
  .of_run fun h a w hs hw => by
    have := (hb h).run x y w
    simp only [execOp, hs.eval hx (hcx h), hs.eval hy (hcy h), Sem.run_bind, this, Result.andThen_ok]
    rfl

theorem guard_int {op : BinOp} {t : TypeId} {x y : Operand} {k k' : IntKind} {a b : Int} {w : World} : (eqGuard op t x y (.int k a) (.int k' b)).run P w = .ok () w := by cases op <;> rfl
theorem guard_str {op : BinOp} {t : TypeId} {x y : Operand} {a b : ByteArray} {w : World} : (eqGuard op t x y (.string a) (.string b)).run P w = .ok () w := by cases op <;> rfl
theorem guard_bool {op : BinOp} {t : TypeId} {x y : Operand} {a b : Bool} {w : World} : (eqGuard op t x y (.bool a) (.bool b)).run P w = .ok () w := by cases op <;> rfl
variable {t : TypeId} {k : IntKind} {a b : Int}
theorem int_beq (a b : Int) : (a == b) = decide (a = b) := by by_cases h : a = b <;> simp [h]
theorem bin_int {op : BinOp} {r : Value} (h : (binOp op t (.int k a) (.int k b) : Sem Value) = pure r) : Bin P op t (.int k a) (.int k b) r := ⟨fun x y w => by
  rw [Sem.run_bind, guard_int, Result.andThen_ok, h]; rfl⟩
theorem Bin.lss : Bin P .lss t (.int k a) (.int k b) (.bool (decide (a < b))) := bin_int (by simp [binOp, Op.intCmp])
theorem Bin.leq : Bin P .leq t (.int k a) (.int k b) (.bool (decide (a ≤ b))) := bin_int (by simp [binOp, Op.intCmp])
theorem Bin.gtr : Bin P .gtr t (.int k a) (.int k b) (.bool (decide (b < a))) := bin_int (by simp [binOp, Op.intCmp])
theorem Bin.geq : Bin P .geq t (.int k a) (.int k b) (.bool (decide (b ≤ a))) := bin_int (by simp [binOp, Op.intCmp])
theorem Bin.eql : Bin P .eql t (.int k a) (.int k b) (.bool (decide (a = b))) := bin_int (by simp only [binOp, Op.intCmp, ne_eq, not_true, if_false, int_beq])
theorem Bin.neq : Bin P .neq t (.int k a) (.int k b) (.bool (!decide (a = b))) := bin_int (by simp only [binOp, Op.intCmp, ne_eq, not_true, if_false, bne, int_beq])
theorem Bin.add : Bin P .add t (.int k a) (.int k b) (.int k (k.wrap (a + b))) := bin_int (by simp [binOp, Op.intArith])
theorem Bin.sub : Bin P .sub t (.int k a) (.int k b) (.int k (k.wrap (a - b))) := bin_int (by simp [binOp, Op.intArith])
theorem Bin.mul : Bin P .mul t (.int k a) (.int k b) (.int k (k.wrap (a * b))) := bin_int (by simp [binOp, Op.intArith])
theorem Bin.add_in (h : -9223372036854775808 ≤ a + b ∧ a + b ≤ 9223372036854775807) : Bin P .add t (.int .i64 a) (.int .i64 b) (.int .i64 (a + b)) := bin_int (by simp [binOp, Op.intArith, IntWalk.i64_in _ h])
theorem Bin.sub_in (h : -9223372036854775808 ≤ a - b ∧ a - b ≤ 9223372036854775807) : Bin P .sub t (.int .i64 a) (.int .i64 b) (.int .i64 (a - b)) := bin_int (by simp [binOp, Op.intArith, IntWalk.i64_in _ h])
theorem Bin.mul_in (h : -9223372036854775808 ≤ a * b ∧ a * b ≤ 9223372036854775807) : Bin P .mul t (.int .i64 a) (.int .i64 b) (.int .i64 (a * b)) := bin_int (by simp [binOp, Op.intArith, IntWalk.i64_in _ h])
theorem Bin.quo (h : b ≠ 0) : Bin P .quo t (.int k a) (.int k b) (.int k (k.wrap (a.tdiv b))) := bin_int (by simp [binOp, Op.intDiv, h])
theorem Bin.rem (h : b ≠ 0) : Bin P .rem t (.int k a) (.int k b) (.int k (a.tmod b)) := bin_int (by simp [binOp, Op.intDiv, h])
theorem Bin.quo_in (h : 0 ≤ a ∧ a ≤ 9223372036854775807 ∧ 1 ≤ b) : Bin P .quo t (.int .i64 a) (.int .i64 b) (.int .i64 (a / b)) := bin_int (by simp [binOp, Op.intDiv, IntWalk.i64_quo _ _ h]; omega)
theorem Bin.rem_in (h : 0 ≤ a ∧ 1 ≤ b) : Bin P .rem t (.int k a) (.int k b) (.int k (a % b)) := bin_int (by simp [binOp, Op.intDiv, Int.tmod_eq_emod_of_nonneg h.1]; omega)
theorem Bin.and : Bin P .and t (.int k a) (.int k b) (.int k (bits .and k a b)) := bin_int (by simp only [binOp, ne_eq, not_true, if_false]; exact intBits_and k a b)
theorem Bin.or : Bin P .or t (.int k a) (.int k b) (.int k (bits .or k a b)) := bin_int (by simp only [binOp, ne_eq, not_true, if_false]; exact intBits_or k a b)
theorem Bin.xor : Bin P .xor t (.int k a) (.int k b) (.int k (bits .xor k a b)) := bin_int (by simp only [binOp, ne_eq, not_true, if_false]; exact intBits_xor k a b)
theorem Bin.andNot : Bin P .andNot t (.int k a) (.int k b) (.int k (bits .andNot k a b)) := bin_int (by simp only [binOp, ne_eq, not_true, if_false]; exact intBits_andNot k a b)
theorem bin_shift {op : BinOp} {yk : IntKind} {r : Value} (h : (binOp op t (.int k a) (.int yk b) : Sem Value) = pure r) : Bin P op t (.int k a) (.int yk b) r := ⟨fun x y w => by
  rw [Sem.run_bind, guard_int, Result.andThen_ok, h]; rfl⟩
theorem Bin.shl {yk : IntKind} (h : 0 ≤ b ∧ b ≤ k.bits) : Bin P .shl t (.int k a) (.int yk b) (.int k (k.wrap (a * 2 ^ b.toNat))) := bin_shift (by simp only [binOp]; exact shift_shl k yk a b h.1 h.2)
theorem Bin.shr {yk : IntKind} (h : 0 ≤ b ∧ b ≤ k.bits) : Bin P .shr t (.int k a) (.int yk b) (.int k (a / 2 ^ b.toNat)) := bin_shift (by simp only [binOp]; exact shift_shr k yk a b h.1 h.2)

theorem bytes_beq (s u : ByteArray) : (s.toList == u.toList) = decide (s = u) := by
  rw [ByteArray.toList_eq, ByteArray.toList_eq]
  by_cases h : s = u
  · subst h; simp
  · have h2 : ¬ s.data.toList = u.data.toList := fun e => h (by cases s; cases u; simp_all)
    rw [decide_eq_false h]; exact beq_eq_false_iff_ne.2 h2
theorem bin_str {op : BinOp} {s u : ByteArray} {r : Value} (h : (binOp op t (.string s) (.string u) : Sem Value) = pure r) : Bin P op t (.string s) (.string u) r := ⟨fun x y w => by
  rw [Sem.run_bind, guard_str, Result.andThen_ok, h]; rfl⟩
theorem Bin.str_eql {s u : ByteArray} : Bin P .eql t (.string s) (.string u) (.bool (decide (s = u))) := bin_str (by simp only [binOp, Op.stringOp, bytes_beq])
theorem Bin.str_neq {s u : ByteArray} : Bin P .neq t (.string s) (.string u) (.bool (!decide (s = u))) := bin_str (by simp only [binOp, Op.stringOp, bytes_beq])
theorem Bin.str_add {s u : ByteArray} (h : s.size + u.size ≤ 9223372036854775807) : Bin P .add t (.string s) (.string u) (.string (s ++ u)) := bin_str (by
  simp only [binOp, Op.stringOp]
  rw [if_neg (by simp [IntKind.max, IntKind.signed, IntKind.bits]; omega)])
theorem Bin.str_lss {s u : ByteArray} : Bin P .lss t (.string s) (.string u) (.bool (Op.bytesLess s.toList u.toList)) := bin_str (by simp only [binOp, Op.stringOp])

theorem run_equalIn_bool {w : World} {p q : Bool} (dd : Nat) (hu : boolB P t = true) : (Op.equalIn (dd + 1) t (.bool p) (.bool q)).run P w = .ok (p == q) w := by
  unfold boolB at hu
  cases h : P.underlying t with
  | none => simp [h] at hu
  | some dd =>
    rw [h] at hu
    cases dd <;> simp at hu
    simp only [Op.equalIn, Sem.run_bind, run_underlying h, Result.andThen_ok]; rfl
theorem run_equal_bool {w : World} {p q : Bool} (hu : boolB P t = true) : (Op.equal t (.bool p) (.bool q)).run P w = .ok (p == q) w := run_equalIn_bool 9999 hu
theorem Bin.bool_eql {p q : Bool} (hu : boolB P t = true) : Bin P .eql t (.bool p) (.bool q) (.bool (p == q)) := ⟨fun x y w => by
  rw [Sem.run_bind, guard_bool, Result.andThen_ok]
  simp only [binOp, Sem.run_bind, run_equal_bool hu, Result.andThen_ok]; rfl⟩
theorem Bin.bool_neq {p q : Bool} (hu : boolB P t = true) : Bin P .neq t (.bool p) (.bool q) (.bool (p != q)) := ⟨fun x y w => by
  rw [Sem.run_bind, guard_bool, Result.andThen_ok]
  simp only [binOp, Sem.run_bind, run_equal_bool hu, Result.andThen_ok]; rfl⟩

theorem Pev.not {t : TypeId} {x : Operand} {cx p : Bool} (hx : evl l x = some (cx, .bool p)) (hc : c = true → cx = true) : Pev P n l C ⟨d, .unOp .not t x, ty, pos, af, g⟩ c (.bool (!p)) :=
  .of_run fun h a w hs hw => by simp only [execOp, hs.eval hx (hc h), Op.unary, Sem.run_bind]; rfl
theorem Pev.neg {t : TypeId} {x : Operand} {cx : Bool} {m : Int} (hx : evl l x = some (cx, .int k m)) (hc : c = true → cx = true) : Pev P n l C ⟨d, .unOp .neg t x, ty, pos, af, g⟩ c (.int k (k.wrap (0 - m))) :=
  .of_run fun h a w hs hw => by simp only [execOp, hs.eval hx (hc h), Op.unary, Op.intArith, Sem.run_bind]; rfl
theorem Pev.neg_in {t : TypeId} {x : Operand} {cx : Bool} {m : Int} (hx : evl l x = some (cx, .int .i64 m)) (hc : c = true → cx = true) (hm : -9223372036854775807 ≤ m ∧ m ≤ 9223372036854775807) :
    Pev P n l C ⟨d, .unOp .neg t x, ty, pos, af, g⟩ c (.int .i64 (-m)) := by
  have := Pev.neg (P := P) (n := n) (C := C) (d := d) (ty := ty) (pos := pos) (af := af) (g := g) (t := t) hx hc
  rwa [IntWalk.i64_in _ (by omega), Int.zero_sub] at this

theorem Pev.extract {x : Operand} {cx : Bool} {vs : List Value} {i : Nat} {v : Value} (hx : evl l x = some (cx, .tuple vs.toArray)) (hc : c = true → cx = true) (hv : vs[i]? = some v) : Pev P n l C ⟨d, .extract x i, ty, pos, af, g⟩ c v :=
  .of_run fun h a w hs hw => by
    have hv' : vs.toArray[i]? = some v := by simpa using hv
    simp only [execOp, hs.eval hx (hc h), Instr.extract, hv', Sem.run_bind]; rfl

theorem run_conv_int {src dst : TypeId} {kd : IntKind} {m : Int} {w : World} (hs : (P.underlying src).isSome = true) (hk : intK P dst = some kd) : (convert src dst (.int k m)).run P w = .ok (.int kd (kd.wrap m)) w := by
  cases h1 : P.underlying src with
  | none => simp [h1] at hs
  | some ds =>
    unfold intK at hk
    cases h2 : P.underlying dst with
    | none => simp [h2] at hk
    | some dd =>
      rw [h2] at hk
      cases dd <;> simp at hk
      subst hk
      simp only [convert, Sem.run_bind, run_underlying h1, run_underlying h2, Result.andThen_ok]
      cases ds <;> rfl
theorem Pev.conv_int {src dst : TypeId} {x : Operand} {cx : Bool} {kd : IntKind} {m : Int} (hx : evl l x = some (cx, .int k m)) (hc : c = true → cx = true) (hs : (P.underlying src).isSome = true) (hk : intK P dst = some kd) :
    Pev P n l C ⟨d, .convert src dst x, ty, pos, af, g⟩ c (.int kd (kd.wrap m)) :=
  .of_run fun h a w hs' hw => by
    simp only [execOp, hs'.eval hx (hc h), Sem.run_bind, run_conv_int hs hk, Result.andThen_ok]; rfl

theorem run_len_str {w : World} {t ty : TypeId} {s : ByteArray} (hu : strB P t = true) : (Builtin.len_ #[t] ty #[.string s]).run P w = .ok (.int .i64 s.size) w := by
  unfold strB at hu
  cases h : P.underlying t with
  | none => simp [h] at hu
  | some dd =>
    rw [h] at hu
    cases dd <;> simp at hu
    simp [Builtin.len_, run_underlying h, goInt]
theorem run_len_slice {w : World} {t ty : TypeId} {q : Option Addr} {m cp : Nat} {e : TypeId × Nat} (hu : slElem P t = some e) : (Builtin.len_ #[t] ty #[.slice q m cp]).run P w = .ok (.int .i64 m) w := by
  unfold slElem at hu
  cases h : P.underlying t with
  | none => simp [h] at hu
  | some dd =>
    rw [h] at hu
    cases dd <;> simp at hu
    simp [Builtin.len_, run_underlying h, goInt]
theorem run_builtin_len {w : World} {a : Act} {x : Operand} {t : TypeId} {v : Value} (h : (Builtin.len_ #[t] ty #[a.eval x]).run P w = .ok v w) :
    (execOp a.eval ⟨d, .call { callee := .builtin .len, args := #[x], argTypes := #[t] }, ty, pos, af, g⟩).run P w = .ok (.value v) w := by
  simp [execOp, resolve, invoke, builtin, h]
theorem Pev.len_str {t : TypeId} {x : Operand} {cx : Bool} {s : ByteArray} (hx : evl l x = some (cx, .string s)) (hc : c = true → cx = true) (hu : strB P t = true) :
    Pev P n l C ⟨d, .call { callee := .builtin .len, args := #[x], argTypes := #[t] }, ty, pos, af, g⟩ c (.int .i64 s.size) :=
  .of_run fun h a w hs hw => run_builtin_len (by rw [hs.eval hx (hc h)]; exact run_len_str hu)
theorem Pev.len_slice {t : TypeId} {x : Operand} {cx : Bool} {q : Option Addr} {m cp : Nat} {e : TypeId × Nat} (hx : evl l x = some (cx, .slice q m cp)) (hc : c = true → cx = true) (hu : slElem P t = some e) :
    Pev P n l C ⟨d, .call { callee := .builtin .len, args := #[x], argTypes := #[t] }, ty, pos, af, g⟩ c (.int .i64 m) :=
  .of_run fun h a w hs hw => run_builtin_len (by rw [hs.eval hx (hc h)]; exact run_len_slice hu)

/-- the byte at a place, as a number -/
def bt (s : ByteArray) (m : Nat) : Int := ((s.data.toList.getD m 0).toNat : Int)
theorem bt_lo (s : ByteArray) (m : Nat) : 0 ≤ bt s m := by unfold bt; omega
theorem bt_hi (s : ByteArray) (m : Nat) : bt s m ≤ 255 := by unfold bt; have := (s.data.toList.getD m 0).toNat_lt; omega
theorem Pev.index_str {t : TypeId} {x y : Operand} {cx cy : Bool} {s : ByteArray} {ki : IntKind} {i : Int} {m : Nat} (hx : evl l x = some (cx, .string s)) (hcx : c = true → cx = true) (hy : evl l y = some (cy, .int ki i)) (hcy : c = true → cy = true)
    (hu : strB P t = true) (hm : c = true → i = (m : Int) ∧ m < s.size) : Pev P n l C ⟨d, .index t x y, ty, pos, af, g⟩ c (.int .u8 (bt s m)) :=
  .of_run fun h a w hs hw => by
    obtain ⟨rfl, hlt⟩ := hm h
    unfold strB at hu
    cases h1 : P.underlying t with
    | none => simp [h1] at hu
    | some dd =>
      rw [h1] at hu
      cases dd <;> simp at hu
      have hb : bt s m = (s[m].toNat : Int) := by
        unfold bt
        have : m < s.data.toList.length := by simpa using hlt
        rw [List.getD_eq_getElem?_getD, List.getElem?_eq_getElem this]
        rfl
      simp [execOp, hs.eval hx (hcx h), hs.eval hy (hcy h), Instr.index, asIntOf, run_underlying h1, hlt, hb]
end
end Go.Eng
