/- The rules for memory: addresses, loads, calls, new blocks, stores. General: any program P. No condition. -/
import Derived.Test.YtlboppiogeaicaaDoorOps
namespace Go.Eng
open Go.RowKit
set_option linter.unusedVariables false
set_option linter.unusedSimpArgs false

/-- of the items none owns block k -/
inductive NotOwned : List Item → Nat → Prop where
  | nil {k : Nat} : NotOwned [] k
  | blk {b : Nat} {t : TypeId} {c : List Value} {H : List Item} {k : Nat} (h : k ≠ b) (r : NotOwned H k) : NotOwned (blk b t c :: H) k
  | any {i : Item} {H : List Item} {k : Nat} (h : ¬ i.own k) (r : NotOwned H k) : NotOwned (i :: H) k
theorem NotOwned.not {H : List Item} {k : Nat} (h : NotOwned H k) : ¬ owned H k := by
  induction h with
  | nil => rintro ⟨i, hi, _⟩; cases hi
  | @blk b t c H k h r ih =>
    rintro ⟨i, hi, hk⟩
    cases hi with
    | head => exact h hk
    | tail _ hi => exact ih ⟨i, hi, hk⟩
  | @any i H k h r ih =>
    rintro ⟨j, hj, hk⟩
    cases hj with
    | head => exact h hk
    | tail _ hj => exact ih ⟨j, hj, hk⟩

/-- a list taken to pieces: what the first k are -/
inductive Take : Nat → List Value → List Value → Prop where
  | zero {l : List Value} : Take 0 l []
  | succ {k : Nat} {v : Value} {l r : List Value} (h : Take k l r) : Take (k + 1) (v :: l) (v :: r)
theorem Take.get {k : Nat} {l r : List Value} (h : Take k l r) : r.length = k ∧ ∀ (j : Nat) (v : Value), r[j]? = some v → l[j]? = some v := by
  induction h with
  | zero => exact ⟨rfl, fun j v hv => by simp at hv⟩
  | @succ k v l r _ ih =>
    refine ⟨by simp [ih.1], fun j u hu => ?_⟩
    cases j with
    | zero => simpa using hu
    | succ j => exact ih.2 j u (by simpa using hu)

/-- the cells that a value takes -/
inductive CellsL : Value → List Value → Prop where
  | one {v : Value} (h : v.cells = #[v]) : CellsL v [v]
  | agg {c : List Value} : CellsL (.agg c.toArray) c
theorem CellsL.eq {v : Value} {cs : List Value} (h : CellsL v cs) : v.cells = cs.toArray := by
  cases h with
  | one h => exact h
  | agg => rfl
/-- vs laid over the head of l -/
inductive Over : List Value → List Value → List Value → Prop where
  | nil {l : List Value} : Over l [] l
  | cons {x v : Value} {l vs r : List Value} (h : Over l vs r) : Over (x :: l) (v :: vs) (v :: r)
/-- vs laid over l from place o on -/
inductive Put : List Value → Nat → List Value → List Value → Prop where
  | here {l vs r : List Value} (h : Over l vs r) : Put l 0 vs r
  | skip {x : Value} {l vs r : List Value} {o : Nat} (h : Put l o vs r) : Put (x :: l) (o + 1) vs (x :: r)

def putL : List Value → Nat → List Value → List Value
  | l, _, [] => l
  | l, o, v :: r => putL (l.set o v) (o + 1) r
theorem putL_cons : ∀ (vs : List Value) (x : Value) (l : List Value) (o : Nat), putL (x :: l) (o + 1) vs = x :: putL l o vs
  | [], _, _, _ => rfl
  | v :: vs, x, l, o => by rw [putL, List.set_cons_succ, putL_cons, putL]
theorem Over.eq {l vs r : List Value} (h : Over l vs r) : vs.length ≤ l.length ∧ putL l 0 vs = r := by
  induction h with
  | nil => exact ⟨by simp, rfl⟩
  | @cons x v l vs r h ih => exact ⟨by simp [ih.1], by rw [putL, List.set_cons_zero, putL_cons, ih.2]⟩
theorem Put.eq {l vs r : List Value} {o : Nat} (h : Put l o vs r) : o + vs.length ≤ l.length ∧ putL l o vs = r := by
  induction h with
  | here h => exact ⟨by have := h.eq.1; omega, h.eq.2⟩
  | @skip x l vs r o h ih => exact ⟨by have := ih.1; simp; omega, by rw [putL_cons, ih.2]⟩
/-- item i at its place is j now -/
inductive Swap : Nat → List Item → Item → Item → List Item → Prop where
  | z {i j : Item} {H : List Item} : Swap 0 (i :: H) i j (j :: H)
  | s {p : Nat} {k i j : Item} {H H' : List Item} (h : Swap p H i j H') : Swap (p + 1) (k :: H) i j (k :: H')
theorem Swap.eq {p : Nat} {H H' : List Item} {i j : Item} (h : Swap p H i j H') : H[p]? = some i ∧ H' = H.set p j := by
  induction h with
  | z => exact ⟨rfl, rfl⟩
  | @s p k i j H H' h ih => exact ⟨by simpa using ih.1, by rw [List.set_cons_succ, ← ih.2]⟩

def AllLe : List World → Nat → Prop
  | [], _ => True
  | s :: r, b => s.heap.size ≤ b ∧ AllLe r b
theorem AllLe.mk {H : List Item} {S : List World} {w : World} (h : Cls H S w) : AllLe S w.heap.size := by
  have := h.kp
  clear h
  induction S with
  | nil => trivial
  | cons s S ih => exact ⟨(this s (.head _)).size, ih fun x hx => this x (.tail _ hx)⟩

section
variable {P : Program} {n : Nat} {l : Env} {H : List Item} {S : List World} {C : World → Prop} {c : Bool} {d : Option Nat} {ty : TypeId} {pos : String} {af : Array Edge} {g : Option (Nat × Bool)}
variable {t : TypeId} {x y : Operand} {cx cy : Bool}

/-! addresses -/

theorem run_fieldAt {i off : Nat} {a : Addr} {w : World} (hf : fldAt P t i = some off) : (Instr.fieldAt t (.pointer (some a)) i).run P w = .ok (.pointer (some (a.add off))) w := by
  unfold fldAt at hf
  cases hu : P.underlying t with
  | none => simp [hu] at hf
  | some dd =>
    rw [hu] at hf
    cases dd <;> simp only [reduceCtorEq] at hf
    rename_i fs
    cases hq : fs[i]? with
    | none => simp [hq] at hf
    | some f =>
      rw [hq] at hf
      simp only at hf
      cases hz : sizeN P f.type with
      | none => simp [hz] at hf
      | some k =>
        rw [hz] at hf
        cases k with
        | zero => simp at hf
        | succ k =>
          have hf := lit_eq hf
          subst hf
          simp [Instr.fieldAt, run_underlying hu, hq, Instr.sureAddr, fieldPlace, run_sizeN hz]
theorem Pev.fld {i off b o : Nat} (hx : evl l x = some (cx, .pointer (some ⟨b, o, none⟩))) (hc : c = true → cx = true) (hf : fldAt P t i = some off) : Pev P n l C ⟨d, .fieldAddr t x i, ty, pos, af, g⟩ c (.pointer (some ⟨b, o + off, none⟩)) :=
  .of_run fun h a w hs hw => by simp only [execOp, hs.eval hx (hc h), Sem.run_bind, run_fieldAt hf, Result.andThen_ok, add_mid]; rfl
theorem Pev.fldA {i off : Nat} {q : Addr} (hx : evl l x = some (cx, .pointer (some q))) (hc : c = true → cx = true) (hf : fldAt P t i = some off) : Pev P n l C ⟨d, .fieldAddr t x i, ty, pos, af, g⟩ c (.pointer (some (q.add off))) :=
  .of_run fun h a w hs hw => by simp only [execOp, hs.eval hx (hc h), Sem.run_bind, run_fieldAt hf, Result.andThen_ok]; rfl

theorem run_indexAt_slice {e : TypeId} {sz m len cp : Nat} {ki : IntKind} {a : Addr} {w : World} (hu : slElem P t = some (e, sz)) (hm : m < len) : (Instr.indexAt t (.slice (some a) len cp) (.int ki (m : Int))).run P w = .ok (.pointer (some (a.add (m * sz)))) w := by
  unfold slElem at hu
  cases h1 : P.underlying t with
  | none => simp [h1] at hu
  | some dd =>
    rw [h1] at hu
    cases dd <;> simp only [reduceCtorEq] at hu
    rename_i e'
    cases h2 : sizeN P e' with
    | none => simp [h2] at hu
    | some k =>
      rw [h2] at hu
      simp only [Option.some.injEq, Prod.mk.injEq] at hu
      obtain ⟨rfl, rfl⟩ := hu
      simp [Instr.indexAt, asIntOf, run_underlying h1, run_sizeN h2, hm]
theorem Pev.idx {e : TypeId} {sz m len cp : Nat} {ki : IntKind} {i : Int} {q : Addr} (hx : evl l x = some (cx, .slice (some q) len cp)) (hcx : c = true → cx = true) (hy : evl l y = some (cy, .int ki i)) (hcy : c = true → cy = true)
    (hu : slElem P t = some (e, sz)) (hi : i = (m : Int)) (hm : c = true → m < len) : Pev P n l C ⟨d, .indexAddr t x y, ty, pos, af, g⟩ c (.pointer (some (q.add (m * sz)))) :=
  .of_run fun h a w hs hw => by
    subst hi
    simp only [execOp, hs.eval hx (hcx h), hs.eval hy (hcy h), Sem.run_bind, run_indexAt_slice hu (hm h), Result.andThen_ok]; rfl
/-- at a row of the call's own: the place is told by numbers -/
theorem Pev.idxB {e : TypeId} {sz m len cp b o : Nat} {ki : IntKind} {i : Int} (hx : evl l x = some (cx, .slice (some ⟨b, o, none⟩) len cp)) (hcx : c = true → cx = true) (hy : evl l y = some (cy, .int ki i)) (hcy : c = true → cy = true)
    (hu : slElem P t = some (e, sz)) (hi : c = true → 0 ≤ i ∧ i < len) (hm : i.toNat = m) : Pev P n l C ⟨d, .indexAddr t x y, ty, pos, af, g⟩ c (.pointer (some ⟨b, o + m * sz, none⟩)) :=
  .of_run fun h a w hs hw => by
    obtain ⟨h1, h2⟩ := hi h
    have e : i = (m : Int) := by omega
    subst e
    simp only [execOp, hs.eval hx (hcx h), hs.eval hy (hcy h), Sem.run_bind, run_indexAt_slice hu (show m < len by omega), Result.andThen_ok, add_mid]; rfl

/-! loads -/

theorem run_loadAt {w : World} {a : Addr} {v : Value} (h : (loadVar t a).run P w = .ok v w) : (Instr.loadAt t (.pointer (some a))).run P w = .ok v w := by simp [Instr.loadAt, Instr.sureAddr, h]
theorem Pev.load_of {q : Addr} {v : Value} (hx : evl l x = some (cx, .pointer (some q))) (hcx : c = true → cx = true) (h : c = true → ∀ w, C w → (loadVar t q).run P w = .ok v w) : Pev P n l C ⟨d, .load t x, ty, pos, af, g⟩ c v :=
  .of_run fun hc a w hs hw => by simp only [execOp, hs.eval hx (hcx hc), Sem.run_bind, run_loadAt (h hc w hw), Result.andThen_ok]; rfl

theorem Cls.item {w : World} (h : Cls H S w) {i : Item} (hp : i ∈ H) : i.holds w := h.holds i hp

/-- one cell of a block that is known whole -/
theorem Pev.load_blk {b o : Nat} {t' : TypeId} {cs : List Value} {v : Value} (hx : evl l x = some (cx, .pointer (some ⟨b, o, none⟩))) (hcx : c = true → cx = true)
    (hp : blk b t' cs ∈ H) (hs : scalB P t = true) (hv : cs[o]? = some v) : Pev P n l (Cls H S) ⟨d, .load t x, ty, pos, af, g⟩ c v :=
  .load_of hx hcx fun _ w hw => run_loadVar_scal hs (by rw [blk_cell (hw.item hp)]; exact hv)
/-- several cells of a block that is known whole -/
theorem Pev.load_blkA {b o k : Nat} {t' : TypeId} {cs vs : List Value} (hx : evl l x = some (cx, .pointer (some ⟨b, o, none⟩))) (hcx : c = true → cx = true)
    (hp : blk b t' cs ∈ H) (hs : aggN P t = some k) (hv : Take k (cs.drop o) vs) : Pev P n l (Cls H S) ⟨d, .load t x, ty, pos, af, g⟩ c (.agg vs.toArray) :=
  .load_of hx hcx fun _ w hw => run_loadVar_agg (by rw [hv.get.1]; exact hs) fun j v hj => by
    rw [add_mid, blk_cell (hw.item hp)]
    have := hv.get.2 j v hj
    rwa [List.getElem?_drop] at this

theorem Cls.cell {w s : World} (h : Cls H S w) (hq : s ∈ S) {a : Addr} (hlt : a.block < s.heap.size) (hno : NotOwned H a.block) : w.cell? a = s.cell? a :=
  World.cell?_of_block ((h.kp s hq).block a.block hlt hno.not)
/-- one cell of a kept world -/
theorem Pev.load_kept {s : World} {a : Addr} {v : Value} (hx : evl l x = some (cx, .pointer (some a))) (hcx : c = true → cx = true) (hq : s ∈ S) (hs : scalB P t = true)
    (hv : c = true → s.cell? a = some v) (hlt : c = true → a.block < s.heap.size) (hno : c = true → NotOwned H a.block) : Pev P n l (Cls H S) ⟨d, .load t x, ty, pos, af, g⟩ c v :=
  .load_of hx hcx fun h w hw => run_loadVar_scal hs (by rw [hw.cell hq (hlt h) (hno h)]; exact hv h)
theorem Pev.load_keptA {s : World} {a : Addr} {vs : List Value} {k : Nat} (hx : evl l x = some (cx, .pointer (some a))) (hcx : c = true → cx = true) (hq : s ∈ S) (hs : aggN P t = some k)
    (hv : c = true → CellsAt s a vs) (hk : vs.length = k) (hlt : c = true → a.block < s.heap.size) (hno : c = true → NotOwned H a.block) : Pev P n l (Cls H S) ⟨d, .load t x, ty, pos, af, g⟩ c (.agg vs.toArray) :=
  .load_of hx hcx fun h w hw => run_loadVar_agg (by rw [hk]; exact hs) fun j v hj => by
    rw [hw.cell hq (by rw [add_block]; exact hlt h) (by rw [add_block]; exact hno h)]; exact hv h j v hj
/-- one cell out of a run of cells of a kept world -/
theorem CellsAt.at_ {s : World} {a : Addr} {vs : List Value} (h : CellsAt s a vs) {j : Nat} {v : Value} (hj : vs[j]? = some v) : s.cell? (a.add j) = some v := h j v hj

/-! calls -/

inductive Args (l : Env) (c : Bool) : List Operand → List Value → Prop where
  | nil : Args l c [] []
  | cons {x : Operand} {cx : Bool} {v : Value} {xs : List Operand} {vs : List Value} (hx : evl l x = some (cx, v)) (hc : c = true → cx = true) (r : Args l c xs vs) : Args l c (x :: xs) (v :: vs)
theorem Args.map {a : Act} (hs : Sees n l a) (hc : c = true) {xs : List Operand} {vs : List Value} (h : Args l c xs vs) : xs.map a.eval = vs := by
  induction h with
  | nil => rfl
  | cons hx hcx r ih => rw [List.map_cons, hs.eval hx (hcx hc), ih]

theorem run_callFunc_body {f : FuncId} (h : callable P f = true) (args : Array Value) (w : World) : (callFunc f args).run P w = .ok (.enter f args) w := by
  unfold callable at h
  cases hf : P.funcs[f]? with
  | none => simp [hf] at h
  | some fn =>
    rw [hf] at h
    simp only [Bool.and_eq_true, Bool.not_eq_true', Option.isSome_iff_ne_none] at h
    have hb : fn.body ≠ none := h.2
    have hnm : ¬ fn.name = "runtime.NumGoroutine" := by simpa using h.1
    simp [callFunc, hf, hnm, hb]
theorem run_call {f : FuncId} {args : Array Operand} {ats : Array TypeId} {a : Act} {w : World} (h : callable P f = true) :
    (execOp a.eval ⟨d, .call { callee := .value (.func f), args := args, argTypes := ats }, ty, pos, af, g⟩).run P w = .ok (.enter f (args.map a.eval)) w := by
  simp only [execOp, resolve, Act.eval, Deferred.ofValue, invoke, Sem.run_bind, Sem.run_pure, Result.andThen_ok]
  simpa using run_callFunc_body h (args.map a.eval) w
theorem run_callv {f : FuncId} {first cap : Array Value} {args : Array Operand} {ats : Array TypeId} {a : Act} {w : World} (h : callable P f = true) (hx : a.eval x = .func (.func f) first cap) :
    (execOp a.eval ⟨d, .call { callee := .value x, args := args, argTypes := ats }, ty, pos, af, g⟩).run P w = .ok (.enter f (first ++ args.map a.eval ++ cap)) w := by
  simp only [execOp, resolve, hx, Deferred.ofValue, invoke, Sem.run_bind, Sem.run_pure, Result.andThen_ok]
  exact run_callFunc_body h _ w

/-- a call whose result does not hang on the world, and that leaves the world in its class -/
theorem Pev.call {f : FuncId} {args : List Operand} {vs : List Value} {ats : Array TypeId} {v : Value} (hf : callable P f = true) (ha : Args l c args vs)
    (h : c = true → ∀ w, C w → Calls P f vs.toArray w fun e w' => e = .returned v ∧ C w') :
    Pev P n l C ⟨d, .call { callee := .value (.func f), args := args.toArray, argTypes := ats }, ty, pos, af, g⟩ c v :=
  ⟨fun hc a w hs hw => by
    rw [run_call hf]
    refine ⟨rfl, ?_⟩
    rw [List.map_toArray, ha.map hs hc]
    exact h hc w hw⟩
theorem Pev.callv {f : FuncId} {first cap : List Value} {args : List Operand} {vs : List Value} {ats : Array TypeId} {v : Value} (hx : evl l x = some (cx, .func (.func f) first.toArray cap.toArray)) (hcx : c = true → cx = true)
    (hf : callable P f = true) (ha : Args l c args vs)
    (h : c = true → ∀ w, C w → Calls P f (first ++ vs ++ cap).toArray w fun e w' => e = .returned v ∧ C w') :
    Pev P n l C ⟨d, .call { callee := .value x, args := args.toArray, argTypes := ats }, ty, pos, af, g⟩ c v :=
  ⟨fun hc a w hs hw => by
    rw [run_callv hf (hs.eval hx (hcx hc))]
    refine ⟨rfl, ?_⟩
    rw [List.map_toArray, ha.map hs hc]
    simpa using h hc w hw⟩

variable {ops : Array Oper} {rest : List Oper} {Q : Exit → Act → World → Prop}

/-- a call in general: of what it leaves behind, 'k' is asked for every result -/
theorem OL.call {f : FuncId} {args : List Operand} {vs : List Value} {ats : Array TypeId} {dd : Nat} (hn : Nat.ble (dd + 1) n = true) (hf : callable P f = true) (ha : Args l true args vs)
    (R : Value → World → Prop) (h : ∀ w, C w → Calls P f vs.toArray w fun e w' => ∃ v, e = .returned v ∧ R v w')
    (k : ∀ v, OL P n ops Q rest ((dd, true, v) :: l) (R v)) : OL P n ops Q (⟨some dd, .call { callee := .value (.func f), args := args.toArray, argTypes := ats }, ty, pos, af, none⟩ :: rest) l C := by
  have hn' := Nat.le_of_ble_eq_true hn
  refine ⟨fun a w hs hc => ?_⟩
  refine wpList_plain rfl fun K hK => ?_
  show Oper.upon P _ a K Q ((execOp a.eval _).run P w)
  rw [run_call hf]
  show Calls P f _ w _
  rw [List.map_toArray, ha.map hs rfl]
  refine (h w hc).mono fun e w' ⟨v, he, hr⟩ => ?_
  subst he
  exact hK _ _ ((k v).run _ w' (hs.put hn' true v) hr)
theorem OL.call0 {f : FuncId} {args : List Operand} {vs : List Value} {ats : Array TypeId} (hf : callable P f = true) (ha : Args l true args vs)
    (R : World → Prop) (h : ∀ w, C w → Calls P f vs.toArray w fun e w' => (∃ v, e = .returned v) ∧ R w')
    (k : OL P n ops Q rest l R) : OL P n ops Q (⟨none, .call { callee := .value (.func f), args := args.toArray, argTypes := ats }, ty, pos, af, none⟩ :: rest) l C := by
  refine ⟨fun a w hs hc => ?_⟩
  refine wpList_plain rfl fun K hK => ?_
  show Oper.upon P _ a K Q ((execOp a.eval _).run P w)
  rw [run_call hf]
  show Calls P f _ w _
  rw [List.map_toArray, ha.map hs rfl]
  refine (h w hc).mono fun e w' ⟨⟨v, he⟩, hr⟩ => ?_
  subst he
  exact hK _ _ (k.run _ w' hs hr)

/-- a call whose result is known, and that turns the class -/
theorem OL.callF {C' : World → Prop} {f : FuncId} {args : List Operand} {vs : List Value} {ats : Array TypeId} {dd : Nat} {v : Value} (hn : Nat.ble (dd + 1) n = true) (hf : callable P f = true) (ha : Args l true args vs)
    (h : ∀ w, C w → Calls P f vs.toArray w fun e w' => e = .returned v ∧ C' w')
    (k : OL P n ops Q rest ((dd, true, v) :: l) C') : OL P n ops Q (⟨some dd, .call { callee := .value (.func f), args := args.toArray, argTypes := ats }, ty, pos, af, none⟩ :: rest) l C :=
  OL.call hn hf ha (fun u w => u = v ∧ C' w) (fun w hw => (h w hw).mono fun e w' he => ⟨v, he.1, rfl, he.2⟩) (fun u => ⟨fun a w hs hc => by obtain ⟨rfl, hc⟩ := hc; exact k.run a w hs hc⟩)
/-- a call whose result is one of several: told by x -/
theorem OL.callE {α : Type} (V : α → Value) (Φ : α → Prop) (C' : α → World → Prop) {f : FuncId} {args : List Operand} {vs : List Value} {ats : Array TypeId} {dd : Nat} (hn : Nat.ble (dd + 1) n = true) (hf : callable P f = true) (ha : Args l true args vs)
    (h : ∀ w, C w → Calls P f vs.toArray w fun e w' => ∃ x, e = .returned (V x) ∧ Φ x ∧ C' x w')
    (k : ∀ x, Φ x → OL P n ops Q rest ((dd, true, V x) :: l) (C' x)) : OL P n ops Q (⟨some dd, .call { callee := .value (.func f), args := args.toArray, argTypes := ats }, ty, pos, af, none⟩ :: rest) l C :=
  OL.call hn hf ha (fun u w => ∃ x, u = V x ∧ Φ x ∧ C' x w) (fun w hw => (h w hw).mono fun e w' ⟨x, he, hx, hc⟩ => ⟨V x, he, x, rfl, hx, hc⟩)
    (fun u => ⟨fun a w hs hc => by obtain ⟨x, rfl, hx, hc⟩ := hc; exact (k x hx).run a w hs hc⟩)

/-! new blocks -/

theorem OL.new {o : Oper} {dd : Nat} {C' : Nat → World → Prop} (hg : o.guard = none) (hd : o.dst = some dd) (hn : Nat.ble (dd + 1) n = true) (V : Nat → Value)
    (hv : ∀ a w, Sees n l a → C w → ∃ b w', (execOp a.eval o).run P w = .ok (.value (V b)) w' ∧ C' b w')
    (k : ∀ b, OL P n ops Q rest ((dd, true, V b) :: l) (C' b)) : OL P n ops Q (o :: rest) l C := by
  have hn' := Nat.le_of_ble_eq_true hn
  refine ⟨fun a w hs hc => ?_⟩
  refine wpList_plain hg fun K hK => ?_
  obtain ⟨b, w', hr, hc'⟩ := hv a w hs hc
  show Oper.upon P o a K Q ((execOp a.eval o).run P w)
  rw [hr]
  show K (a.put o.dst (V b)) w'
  rw [hd]
  exact hK _ _ ((k b).run _ w' (hs.put hn' true _) hc')

/-- a variable that begins with a value -/
theorem OL.box {e : TypeId} {dd : Nat} {v : Value} {cs : List Value} (hn : Nat.ble (dd + 1) n = true) (hx : evl l x = some (true, v)) (hv : CellsL v cs)
    (k : ∀ b, AllLe S b → OL P n ops Q rest ((dd, true, .pointer (some ⟨b, 0, none⟩)) :: l) (Cls (blk b e cs :: H) S)) :
    OL P n ops Q (⟨some dd, .box e x, ty, pos, af, none⟩ :: rest) l (Cls H S) :=
  OL.new (C' := fun b w => AllLe S b ∧ Cls (blk b e cs :: H) S w) rfl rfl hn (fun b => .pointer (some ⟨b, 0, none⟩))
    (fun a w hs hc => ⟨w.heap.size, w.alloc (.cells v.cells e), by simp only [execOp, hs.eval hx rfl]; rfl, AllLe.mk hc, by rw [hv.eq]; exact hc.alloc e cs⟩)
    (fun b => ⟨fun a w hs hc => (k b hc.1).run a w hs hc.2⟩)

def zeroV (P : Program) (t : TypeId) : Option Value := match P.info? t with | some i => i.zero | none => none
theorem run_zeroV {v : Value} {w : World} (h : zeroV P t = some v) : (zeroValue t).run P w = .ok v w := by
  unfold zeroV at h
  cases hi : P.info? t with
  | none => simp [hi] at h
  | some i =>
    rw [hi] at h
    simp only at h
    simp [zeroValue, typeInfo, hi, h]
theorem OL.alloc {e : TypeId} {dd : Nat} {v : Value} {cs : List Value} (hn : Nat.ble (dd + 1) n = true) (hz : zeroV P e = some v) (hv : CellsL v cs)
    (k : ∀ b, AllLe S b → OL P n ops Q rest ((dd, true, .pointer (some ⟨b, 0, none⟩)) :: l) (Cls (blk b e cs :: H) S)) :
    OL P n ops Q (⟨some dd, .alloc e, ty, pos, af, none⟩ :: rest) l (Cls H S) :=
  OL.new (C' := fun b w => AllLe S b ∧ Cls (blk b e cs :: H) S w) rfl rfl hn (fun b => .pointer (some ⟨b, 0, none⟩))
    (fun a w hs hc => ⟨w.heap.size, w.alloc (.cells v.cells e), by
      simp only [execOp, Instr.alloc, Sem.run_bind, run_zeroV hz, Result.andThen_ok]; rfl, AllLe.mk hc, by rw [hv.eq]; exact hc.alloc e cs⟩)
    (fun b => ⟨fun a w hs hc => (k b hc.1).run a w hs hc.2⟩)

theorem Cls.start_blk {w : World} {b : Nat} {t : TypeId} {cs : List Value} (h : (blk b t cs).holds w) : Cls [blk b t cs] [w] w where
  holds := fun i hi => by simp only [List.mem_singleton] at hi; subst hi; exact h
  lt := fun i hi k hk => by
    simp only [List.mem_singleton] at hi; subst hi
    have hk' : k = b := hk
    subst hk'
    have h' : w.heap[k]? = some (.cells cs.toArray t (0, 0)) := h
    rcases Nat.lt_or_ge k w.heap.size with hl | hl
    · exact hl
    · rw [Array.getElem?_eq_none hl] at h'; cases h'
  dj := List.pairwise_singleton _ _
  kp := fun s hs => by simp only [List.mem_singleton] at hs; subst hs; exact .refl _ _
/-- behind a call that turned block b alone -/
theorem Cls.turn_blk {w w' : World} (h : Cls H S w) {p b : Nat} {t : TypeId} {cs cs' : List Value} {H' : List Item} (hs : Swap p H (blk b t cs) (blk b t cs') H') (hk : Keep (fun k => k = b) w w') (hh : (blk b t cs').holds w') : Cls H' S w' := by
  obtain ⟨hp, rfl⟩ := hs.eq
  refine h.turn p hp hk hh (fun q hq => ?_) (fun q hq => hq)
  have hq' : q = b := hq
  subst hq'
  exact ⟨.inl rfl, Nat.lt_of_lt_of_le (h.lt _ (List.mem_of_getElem? hp) q rfl) hk.size⟩
/-- an array behind a pointer -/
theorem Pev.idxArr {m len sz b o : Nat} {ki : IntKind} {i : Int} (hx : evl l x = some (cx, .pointer (some ⟨b, o, none⟩))) (hcx : c = true → cx = true) (hy : evl l y = some (cy, .int ki i)) (hcy : c = true → cy = true)
    (hu : arrElem P t = some (len, sz)) (hi : c = true → 0 ≤ i ∧ i < len) (hm : i.toNat = m) : Pev P n l C ⟨d, .indexAddr t x y, ty, pos, af, g⟩ c (.pointer (some ⟨b, o + m * sz, none⟩)) :=
  .of_run fun h a w hs hw => by
    obtain ⟨h1, h2⟩ := hi h
    unfold arrElem at hu
    cases hq : P.underlying t with
    | none => simp [hq] at hu
    | some d1 =>
      rw [hq] at hu
      cases d1 <;> simp only [reduceCtorEq] at hu
      rename_i len' e'
      cases h3 : sizeN P e' with
      | none => simp [h3] at hu
      | some k' =>
        rw [h3] at hu
        simp only [Option.some.injEq, Prod.mk.injEq] at hu
        obtain ⟨rfl, rfl⟩ := hu
        subst hm
        simp only [execOp, hs.eval hx (hcx h), hs.eval hy (hcy h), Instr.indexAt, asIntOf, Instr.sureAddr, Sem.run_bind, Sem.run_pure, Result.andThen_ok, run_underlying hq, run_sizeN h3]
        rw [if_pos ⟨h1, h2⟩]
        simp only [Sem.run_bind, run_sizeN h3, Result.andThen_ok, Sem.run_pure, add_mid]

/-! stores into a block that is known whole -/

def oneL : List Value → Bool
  | [] => true
  | v :: r => v.oneCell' && oneL r
theorem putL_length' : ∀ (vs l : List Value) (o : Nat), (putL l o vs).length = l.length
  | [], l, o => rfl
  | v :: r, l, o => by rw [putL, putL_length']; simp

theorem run_storeCells_blk {b o : Nat} {t : TypeId} : ∀ (vs : List Value) (i : Nat) (cs : List Value) (w : World), w.heap[b]? = some (.cells cs.toArray t (0, 0)) → o + i + vs.length ≤ cs.length → oneL vs = true →
    ∃ w', (storeCells ⟨b, o, none⟩ vs i).run P w = .ok () w' ∧ w'.heap[b]? = some (.cells (putL cs (o + i) vs).toArray t (0, 0)) ∧ Keep (fun k => k = b) w w'
  | [], i, cs, w, hg, _, _ => ⟨w, rfl, hg, .refl _ _⟩
  | v :: r, i, cs, w, hg, hl, h1 => by
    simp only [oneL, Bool.and_eq_true] at h1
    simp only [List.length_cons] at hl
    have hcell : w.cell? ⟨b, o + i, none⟩ = some (cs[o + i]'(by omega)) := by simp [World.cell?, hg]
    have hfro : w.frozen? ⟨b, o + i, none⟩ = false := by simp [World.frozen?, hg]
    have hst : (store ((⟨b, o, none⟩ : Addr).add i) v).run P w = .ok () (w.setCell ⟨b, o + i, none⟩ v) := by
      rw [add_mid, run_store P w _ v _ h1.1, hcell]
      simp [hfro]
    have hg' : (w.setCell ⟨b, o + i, none⟩ v).heap[b]? = some (.cells (cs.set (o + i) v).toArray t (0, 0)) := by
      simp [World.setCell, Array.getElem?_modify, hg]
    obtain ⟨w', hr, hh, hk⟩ := run_storeCells_blk (o := o) r (i + 1) (cs.set (o + i) v) (w.setCell ⟨b, o + i, none⟩ v) hg' (by simp; omega) h1.2
    refine ⟨w', ?_, hh, ?_⟩
    · simp only [storeCells, Sem.run_bind, hst, Result.andThen_ok, hr]
    · exact Keep.trans (b := w.setCell ⟨b, o + i, none⟩ v) ⟨rfl, rfl, rfl, by simp [World.setCell], fun k _ hne => Below.heap_setCell _ _ _ _ (fun e => hne e)⟩ hk

theorem run_storeAt_blk {b o : Nat} {t' : TypeId} {v : Value} {k : Nat} {cs vs : List Value} {w : World} (hw : w.heap[b]? = some (.cells cs.toArray t' (0, 0))) (hs : sizeN P t = some k) (hv : v.cells = vs.toArray) (hk : vs.length = k)
    (hl : o + vs.length ≤ cs.length) (h1 : oneL vs = true) :
    ∃ w', (Instr.storeAt t (.pointer (some ⟨b, o, none⟩)) v).run P w = .ok () w' ∧ w'.heap[b]? = some (.cells (putL cs o vs).toArray t' (0, 0)) ∧ Keep (fun k => k = b) w w' := by
  obtain ⟨w', hr, hh, hkp⟩ := run_storeCells_blk (P := P) (o := o) vs 0 cs w hw (by omega) h1
  refine ⟨w', ?_, hh, hkp⟩
  have hsz : v.cells.size = k := by rw [hv]; simpa using hk
  simp only [Instr.storeAt, Instr.sureAddr, storeVar, Sem.run_bind, Sem.run_pure, Result.andThen_ok, run_sizeN hs, hsz, ne_eq, not_true, if_false]
  rw [hv]
  exact hr

theorem OL.storeL {p : Nat} {b o k : Nat} {t' : TypeId} {cs cs' vs : List Value} {v : Value} {H' : List Item} (hx : evl l x = some (true, .pointer (some ⟨b, o, none⟩))) (hy : evl l y = some (true, v)) (hv : v.cells = vs.toArray)
    (hs : sizeN P t = some k) (hk : vs.length = k) (h1 : oneL vs = true) (hcs : o + vs.length ≤ cs.length ∧ putL cs o vs = cs')
    (hH : Swap p H (blk b t' cs) (blk b t' cs') H') (kk : OL P n ops Q rest l (Cls H' S)) : OL P n ops Q (⟨none, .store t x y, ty, pos, af, none⟩ :: rest) l (Cls H S) := by
  obtain ⟨hl, rfl⟩ := hcs
  obtain ⟨hp, rfl⟩ := hH.eq
  refine OL.store_ (C' := Cls (H.set p (blk b t' (putL cs o vs))) S) rfl rfl (fun a w hs' hc => ?_) kk
  obtain ⟨w', hr, hh, hkp⟩ := run_storeAt_blk (P := P) (hc.item (List.mem_of_getElem? hp)) hs hv hk hl h1
  refine ⟨w', ?_, hc.turn p hp (j := blk b t' (putL cs o vs)) hkp hh (fun q hq => ?_) (fun q hq => hq)⟩
  · simp only [execOp, hs'.eval hx rfl, hs'.eval hy rfl, Sem.run_bind, hr, Result.andThen_ok]; rfl
  · have hq' : q = b := hq
    subst hq'
    exact ⟨.inl rfl, Nat.lt_of_lt_of_le (hc.lt _ (List.mem_of_getElem? hp) q rfl) hkp.size⟩
/-- a store into a block written out cell by cell -/
theorem OL.storeB {p : Nat} {b o k : Nat} {t' : TypeId} {cs cs' vs : List Value} {v : Value} {H' : List Item} (hx : evl l x = some (true, .pointer (some ⟨b, o, none⟩))) (hy : evl l y = some (true, v)) (hv : CellsL v vs)
    (hs : sizeN P t = some k) (hk : vs.length = k) (h1 : oneL vs = true) (hH : Swap p H (blk b t' cs) (blk b t' cs') H') (hcs : Put cs o vs cs')
    (kk : OL P n ops Q rest l (Cls H' S)) : OL P n ops Q (⟨none, .store t x y, ty, pos, af, none⟩ :: rest) l (Cls H S) :=
  OL.storeL hx hy hv.eq hs hk h1 hcs.eq hH kk
/-- a store of one cell at a place that is reckoned -/
theorem OL.storeI {p : Nat} {b o : Nat} {t' : TypeId} {cs : List Value} {v : Value} {H' : List Item} (hx : evl l x = some (true, .pointer (some ⟨b, o, none⟩))) (hy : evl l y = some (true, v)) (hv : v.cells = #[v])
    (hs : sizeN P t = some 1) (h1 : oneL [v] = true) (hH : Swap p H (blk b t' cs) (blk b t' (cs.set o v)) H') (hl : o < cs.length)
    (kk : OL P n ops Q rest l (Cls H' S)) : OL P n ops Q (⟨none, .store t x y, ty, pos, af, none⟩ :: rest) l (Cls H S) :=
  OL.storeL (vs := [v]) hx hy hv hs rfl h1 ⟨by simp; omega, rfl⟩ hH kk

/-! literals -/

theorem fold_put (off : Nat) : ∀ (c : List Value) (j : Nat) (cells : Array Value),
    ((c.zipIdx j).foldl (fun (cs : Array Value) (x : Value × Nat) => cs.setIfInBounds (off + x.2) x.1) cells) = (putL cells.toList (off + j) c).toArray
  | [], _, _ => rfl
  | v :: c, j, cells => by
    rw [List.zipIdx_cons, List.foldl_cons, fold_put off c (j + 1), putL]
    congr 1
    simp [Nat.add_assoc]
theorem fold_put_array (off : Nat) (c : List Value) (cells : Array Value) :
    (c.toArray.zipIdx.foldl (fun (cs : Array Value) (x : Value × Nat) => cs.setIfInBounds (off + x.2) x.1) cells) = (putL cells.toList off c).toArray := by
  rw [← Array.foldl_toList]
  have := fold_put off c 0 cells
  simpa using this

/-- the parts of a literal, laid over its zero -/
inductive Fill (l : Env) (place : Nat → Option (Nat × Nat)) : List Value → List (Nat × Operand) → List Value → Prop where
  | nil {cs : List Value} : Fill l place cs [] cs
  | cons {cs cs' cs'' vs : List Value} {i off sz : Nat} {x : Operand} {v : Value} {ps : List (Nat × Operand)} (hx : evl l x = some (true, v)) (hv : CellsL v vs) (hp : place i = some (off, sz)) (hs : vs.length = sz)
      (hput : Put cs off vs cs') (r : Fill l place cs' ps cs'') : Fill l place cs ((i, x) :: ps) cs''
theorem Fill.run {a : Act} (hs : Sees n l a) {place : Nat → Option (Nat × Nat)} {cs cs' : List Value} {ps : List (Nat × Operand)} (h : Fill l place cs ps cs') :
    Instr.fill place cs.toArray (ps.map fun p => (p.1, a.eval p.2)) = some cs'.toArray := by
  induction h with
  | nil => rfl
  | @cons cs cs' cs'' vs i off sz x v ps hx hv hp hsz hput r ih =>
    simp only [List.map_cons, Instr.fill, hp, hs.eval hx rfl, hv.eq]
    rw [if_neg (by
      have := hput.eq.1
      simp [hsz]; omega)]
    rw [fold_put_array]
    simp only [hput.eq.2]
    exact ih

def structPlaces (P : Program) (t : TypeId) (i : Nat) : Option (Nat × Nat) := match P.underlying t with
  | some (.struct fs) => match fs[i]? with
    | some f => match sizeN P f.type with
      | some k => match lit f.offset with
        | some o => some (o, k)
        | none => none
      | none => none
    | none => none
  | _ => none
theorem mapM_places {w : World} : ∀ (fs : List Field), (∀ f ∈ fs, (sizeN P f.type).isSome = true) →
    ((fs.mapM fun f => do pure (f.offset, ← sizeOf f.type) : Sem (List (Nat × Nat))).run P w) = .ok (fs.map fun f => (f.offset, (sizeN P f.type).getD 0)) w
  | [], _ => rfl
  | f :: fs, h => by
    have h0 := h f (.head _)
    cases hz : sizeN P f.type with
    | none => simp [hz] at h0
    | some k =>
      have ih := mapM_places (w := w) fs (fun g hg => h g (.tail _ hg))
      simp only [List.mapM_cons, Sem.run_bind, run_sizeN hz, Result.andThen_ok, Sem.run_pure, ih, List.map_cons, hz, Option.getD_some]
def sizedB (P : Program) (t : TypeId) : Bool := match P.underlying t with | some (.struct fs) => fs.toList.all fun f => (sizeN P f.type).isSome && (lit f.offset).isSome | _ => false
/-- a struct's literal -/
theorem Pev.build {parts : List (Nat × Operand)} {z : Value} {cs cs' : List Value} (hz : zeroV P t = some z) (hcs : CellsL z cs) (hb : sizedB P t = true) (hf : Fill l (structPlaces P t) cs parts cs') (hc : c = true) :
    Pev P n l C ⟨d, .build t parts.toArray, ty, pos, af, g⟩ c (.agg cs'.toArray) :=
  .of_run fun h a w hs hw => by
    unfold sizedB at hb
    cases hu : P.underlying t with
    | none => simp [hu] at hb
    | some dd =>
      rw [hu] at hb
      cases dd <;> simp only [Bool.false_eq_true] at hb
      rename_i fs
      have hb2 : ∀ f ∈ fs.toList, (sizeN P f.type).isSome = true ∧ (lit f.offset).isSome = true := fun f hf => by simpa using List.all_eq_true.1 hb f hf
      have hb' : ∀ f ∈ fs.toList, (sizeN P f.type).isSome = true := fun f hf => (hb2 f hf).1
      have hm := mapM_places (P := P) (w := w) fs.toList hb'
      have hrun := hf.run hs
      have hpl : (fun i => (fs.map fun f => (f.offset, (sizeN P f.type).getD 0))[i]?) = structPlaces P t := by
        funext i
        unfold structPlaces
        rw [hu]
        simp only [Array.getElem?_map]
        cases hi : fs[i]? with
        | none => rfl
        | some f =>
          have h1 := hb' f (by simpa using Array.mem_of_getElem? hi)
          have h2 := (hb2 f (by simpa using Array.mem_of_getElem? hi)).2
          cases hz : sizeN P f.type with
          | none => simp [hz] at h1
          | some k =>
            cases ho : lit f.offset with
            | none => simp [ho] at h2
            | some o =>
              simp only [Option.map_some, hz, ho, Option.getD_some]
              rw [lit_eq ho]
      have hm2 : (fs.mapM fun f => do pure (f.offset, ← sizeOf f.type) : Sem (Array (Nat × Nat))).run P w = .ok (fs.map fun f => (f.offset, (sizeN P f.type).getD 0)) w := by
        rw [Array.mapM_eq_mapM_toList, Sem.run_map, hm]
        simp only [Result.andThen_ok]
        congr 1
        rw [← Array.toList_map]
      simp only [execOp, Instr.build, Sem.run_bind, run_zeroV hz, Result.andThen_ok, run_underlying hu, hm2, hcs.eq]
      have hparts : (parts.toArray.map fun p => (p.1, a.eval p.2)).toList = parts.map fun p => (p.1, a.eval p.2) := by simp
      rw [hparts, hpl, hrun]
      rfl

def repL (z : List Value) : Nat → List Value
  | 0 => []
  | k + 1 => z ++ repL z k
/-- one list behind the other -/
inductive App : List Value → List Value → List Value → Prop where
  | nil {l : List Value} : App [] l l
  | cons {x : Value} {c l r : List Value} (h : App c l r) : App (x :: c) l (x :: r)
theorem App.eq {c l r : List Value} (h : App c l r) : c ++ l = r := by
  induction h with
  | nil => rfl
  | cons _ ih => rw [List.cons_append, ih]
/-- the elements of a slice's literal, each at its place -/
inductive Elems (l : Env) (sz : Nat) : Nat → List (Nat × Operand) → List Value → Prop where
  | nil {i : Nat} : Elems l sz i [] []
  | cons {i : Nat} {x : Operand} {v : Value} {vs cs cs' : List Value} {ps : List (Nat × Operand)} (hx : evl l x = some (true, v)) (hv : CellsL v vs) (hs : vs.length = sz) (r : Elems l sz (i + 1) ps cs) (ha : App vs cs cs') :
      Elems l sz i ((i, x) :: ps) cs'
theorem putL_eq : ∀ (vs l : List Value) (o : Nat), o + vs.length ≤ l.length → putL l o vs = l.take o ++ vs ++ l.drop (o + vs.length)
  | [], l, o, _ => by simp [putL]
  | v :: vs, l, o, h => by
    simp only [List.length_cons] at h
    rw [putL, putL_eq vs _ _ (by simp; omega)]
    have ho : o < l.length := by omega
    rw [List.take_set, List.drop_set]
    simp only [List.length_cons]
    rw [show (if o < o + 1 + vs.length then List.drop (o + 1 + vs.length) l else (List.drop (o + 1 + vs.length) l).set (o - (o + 1 + vs.length)) v) = List.drop (o + (vs.length + 1)) l from by rw [if_pos (by omega)]; congr 1; omega]
    have : (List.take (o + 1) l).set o v = List.take o l ++ [v] := by
      rw [List.take_succ_eq_append_getElem ho, List.set_append_right _ _ (by simp; omega)]
      simp [Nat.min_eq_left (Nat.le_of_lt ho)]
    rw [this]
    simp
theorem Elems.run {a : Act} (hs : Sees n l a) {sz : Nat} {i : Nat} {ps : List (Nat × Operand)} {cs : List Value} (h : Elems l sz i ps cs) :
    ∀ (cells : Array Value), cells.size = (i + ps.length) * sz →
    Instr.fill (fun j => some (j * sz, sz)) cells (ps.map fun p => (p.1, a.eval p.2)) = some (cells.toList.take (i * sz) ++ cs).toArray := by
  induction h with
  | @nil i =>
    intro cells hc
    simp only [List.length_nil, Nat.add_zero] at hc
    rw [← hc, List.take_of_length_le (by simp)]
    simp [Instr.fill]
  | @cons i x v vs cs cs' ps hx hv hsz r ha ih =>
    intro cells hc
    obtain rfl := ha.eq
    simp only [List.length_cons] at hc
    have hle : i * sz + sz ≤ cells.size := by
      rw [hc, ← Nat.succ_mul]
      exact Nat.mul_le_mul_right _ (by omega)
    simp only [List.map_cons, Instr.fill, hs.eval hx rfl, hv.eq]
    rw [if_neg (by simp [hsz]; omega), fold_put_array]
    rw [ih _ (by rw [List.size_toArray, putL_length', Array.length_toList, hc]; congr 1; omega)]
    congr 2
    rw [putL_eq _ _ _ (by simp [hsz]; omega)]
    simp only [hsz]
    have e1 : (cells.toList.take (i * sz)).length = i * sz := by simp; omega
    rw [show (i + 1) * sz = i * sz + sz from by rw [Nat.succ_mul]]
    rw [List.take_append_of_le_length (by simp [hsz]; omega), List.take_append]
    simp [hsz, Nat.min_eq_left (show i * sz ≤ cells.size by omega), List.take_of_length_le]

theorem range_map_size {m : Nat} {f : Nat → Value} : ((Array.range m).map f).size = m := by simp
/-- a slice's literal: a row of the call's own -/
theorem OL.buildSlice {e : TypeId} {sz len dd : Nat} {parts : List (Nat × Operand)} {cs : List Value} (hn : Nat.ble (dd + 1) n = true) (hu : slElem P t = some (e, sz)) (hz : (zeroV P e).isSome = true)
    (hp : Elems l sz 0 parts cs) (hlen : parts.length = len) (hl : Nat.ble (len * sz) 16777216 = true)
    (k : ∀ b, AllLe S b → OL P n ops Q rest ((dd, true, .slice (some ⟨b, 0, none⟩) len len) :: l) (Cls (blk b e cs :: H) S)) :
    OL P n ops Q (⟨some dd, .buildSlice t len parts.toArray, ty, pos, af, none⟩ :: rest) l (Cls H S) :=
  OL.new (C' := fun b w => AllLe S b ∧ Cls (blk b e cs :: H) S w) rfl rfl hn (fun b => .slice (some ⟨b, 0, none⟩) len len)
    (fun a w hs hc => ⟨w.heap.size, w.alloc (.cells cs.toArray e), by
      unfold slElem at hu
      cases h1 : P.underlying t with
      | none => simp [h1] at hu
      | some d1 =>
        rw [h1] at hu
        cases d1 <;> simp only [reduceCtorEq] at hu
        rename_i e'
        cases h2 : sizeN P e' with
        | none => simp [h2] at hu
        | some k' =>
          rw [h2] at hu
          simp only [Option.some.injEq, Prod.mk.injEq] at hu
          obtain ⟨rfl, rfl⟩ := hu
          cases hzz : zeroV P e' with
          | none => simp [hzz] at hz
          | some z =>
            have hle := Nat.le_of_ble_eq_true hl
            have hparts : (parts.toArray.map fun p => (p.1, a.eval p.2)).toList = parts.map fun p => (p.1, a.eval p.2) := by simp
            have hfill := fun (cells : Array Value) (hc : cells.size = len * k') => hp.run hs cells (by rw [hlen, Nat.zero_add]; exact hc)
            simp only [execOp, Instr.buildSlice, Sem.run_bind, run_underlying h1, run_sizeN h2, Result.andThen_ok]
            rw [if_neg (by omega)]
            by_cases h0 : len * k' = 0
            · simp only [h0, if_true, Sem.run_pure, Sem.run_bind, Result.andThen_ok, hparts]
              rw [hfill _ (by rw [range_map_size, h0])]
              simp [newRow]
            · simp only [h0, if_false, Sem.run_bind, run_zeroV hzz, Sem.run_pure, Result.andThen_ok, hparts]
              rw [hfill _ range_map_size]
              simp [newRow], AllLe.mk hc, hc.alloc e cs⟩)
    (fun b => ⟨fun a w hs hc => (k b hc.1).run a w hs hc.2⟩)

/-! short forms -/
theorem yes {p : Prop} : p → true = true := fun _ => rfl
section
variable {dd : Nat} {v u r : Value} {K : Act → Prop}
theorem omv (hn : Nat.ble (dd + 1) n = true) (hx : evl l x = some (true, v)) (k : OL P n ops Q rest ((dd, true, v) :: l) C) : OL P n ops Q (⟨some dd, .move x, ty, pos, af, none⟩ :: rest) l C := OL.op Guard.none rfl hn (Pev.move hx yes) k
theorem oas (hn : Nat.ble (dd + 1) n = true) (hx : evl l x = some (true, v)) (k : OL P n ops Q rest ((dd, true, v) :: l) C) : OL P n ops Q (⟨some dd, .assign x, ty, pos, af, none⟩ :: rest) l C := OL.op Guard.none rfl hn (Pev.assign hx yes) k
theorem obn {op : BinOp} {yt : TypeId} (hn : Nat.ble (dd + 1) n = true) (hx : evl l x = some (true, u)) (hy : evl l y = some (true, v)) (hb : Bin P op t u v r) (k : OL P n ops Q rest ((dd, true, r) :: l) C) : OL P n ops Q (⟨some dd, .binOp op t x y yt, ty, pos, af, none⟩ :: rest) l C := OL.op Guard.none rfl hn (Pev.bin hx (fun _ => rfl) hy (fun _ => rfl) (fun _ => hb)) k
theorem ofa {i off b o : Nat} (hn : Nat.ble (dd + 1) n = true) (hx : evl l x = some (true, .pointer (some ⟨b, o, none⟩))) (hf : fldAt P t i = some off) (k : OL P n ops Q rest ((dd, true, .pointer (some ⟨b, o + off, none⟩)) :: l) C) : OL P n ops Q (⟨some dd, .fieldAddr t x i, ty, pos, af, none⟩ :: rest) l C := OL.op Guard.none rfl hn (Pev.fld hx (fun _ => rfl) hf) k
theorem old {b o : Nat} {t' : TypeId} {cs : List Value} (hn : Nat.ble (dd + 1) n = true) (hx : evl l x = some (true, .pointer (some ⟨b, o, none⟩))) (hp : blk b t' cs ∈ H) (hs : scalB P t = true) (hv : cs[o]? = some v) (k : OL P n ops Q rest ((dd, true, v) :: l) (Cls H S)) : OL P n ops Q (⟨some dd, .load t x, ty, pos, af, none⟩ :: rest) l (Cls H S) := OL.op Guard.none rfl hn (Pev.load_blk hx (fun _ => rfl) hp hs hv) k
theorem oex {vs : List Value} {i : Nat} (hn : Nat.ble (dd + 1) n = true) (hx : evl l x = some (true, .tuple vs.toArray)) (hv : vs[i]? = some v) (k : OL P n ops Q rest ((dd, true, v) :: l) C) : OL P n ops Q (⟨some dd, .extract x i, ty, pos, af, none⟩ :: rest) l C := OL.op Guard.none rfl hn (Pev.extract hx (fun _ => rfl) hv) k
theorem qmv (hn : Nat.ble (dd + 1) n = true) (hx : evl l x = some (true, v)) (k : QL P n ops C K rest ((dd, true, v) :: l)) : QL P n ops C K (⟨some dd, .move x, ty, pos, af, none⟩ :: rest) l := QL.op Guard.none rfl hn (Pev.move hx yes) k
theorem qas (hn : Nat.ble (dd + 1) n = true) (hx : evl l x = some (true, v)) (k : QL P n ops C K rest ((dd, true, v) :: l)) : QL P n ops C K (⟨some dd, .assign x, ty, pos, af, none⟩ :: rest) l := QL.op Guard.none rfl hn (Pev.assign hx yes) k
theorem qbn {op : BinOp} {yt : TypeId} (hn : Nat.ble (dd + 1) n = true) (hx : evl l x = some (true, u)) (hy : evl l y = some (true, v)) (hb : Bin P op t u v r) (k : QL P n ops C K rest ((dd, true, r) :: l)) : QL P n ops C K (⟨some dd, .binOp op t x y yt, ty, pos, af, none⟩ :: rest) l := QL.op Guard.none rfl hn (Pev.bin hx (fun _ => rfl) hy (fun _ => rfl) (fun _ => hb)) k
theorem qfa {i off b o : Nat} (hn : Nat.ble (dd + 1) n = true) (hx : evl l x = some (true, .pointer (some ⟨b, o, none⟩))) (hf : fldAt P t i = some off) (k : QL P n ops C K rest ((dd, true, .pointer (some ⟨b, o + off, none⟩)) :: l)) : QL P n ops C K (⟨some dd, .fieldAddr t x i, ty, pos, af, none⟩ :: rest) l := QL.op Guard.none rfl hn (Pev.fld hx (fun _ => rfl) hf) k
theorem qld {b o : Nat} {t' : TypeId} {cs : List Value} (hn : Nat.ble (dd + 1) n = true) (hx : evl l x = some (true, .pointer (some ⟨b, o, none⟩))) (hp : blk b t' cs ∈ H) (hs : scalB P t = true) (hv : cs[o]? = some v) (k : QL P n ops (Cls H S) K rest ((dd, true, v) :: l)) : QL P n ops (Cls H S) K (⟨some dd, .load t x, ty, pos, af, none⟩ :: rest) l := QL.op Guard.none rfl hn (Pev.load_blk hx (fun _ => rfl) hp hs hv) k
end
end
end Go.Eng
