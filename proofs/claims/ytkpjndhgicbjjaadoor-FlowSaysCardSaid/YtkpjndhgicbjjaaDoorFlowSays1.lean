/- Texts of the proof of FlowSays, part 1: rules of a calculus for walking, plain laws, and walks of the functions that the law reaches. No condition. -/
import Derived.WalkKit
import Derived.Deep.Quiet
import Derived.ProofKit
import Derived.OpenShut
import Derived.LoopN
import Derived.CallsIn
import Derived.OrdersIn
import Derived.LoopNIn
import Derived.TacticsIn
import Derived.RangeFuncLeaves
import Derived.Lib.TrailingZeros
import Derived.Maps.AppendAt
import Derived.WideKeyArgs
import Derived.ChangeArms
import Derived.DataReads
import Derived.Laws.MakeOwn
import Derived.WalkSpells
import Derived.Laws.Slices
import Derived.Laws.Small
import Derived.MapKept
import Derived.Maps.RangeRun
import Derived.Laws.Bits64b
import Derived.Test.YtkpjndhgicbjjaaDoorProg
set_option linter.unusedVariables false
set_option linter.unusedSimpArgs false
/- A small calculus for walks: the temporaries as a list of entries, memory as a list of owned items and of worlds that are kept; rules for the operations. General: any program P. No condition. -/
namespace Go.Eng
open Go.RowKit
/-! ### Entries: slot, condition, value -/
abbrev Env := List (Nat × Bool × Value)
def look : Env → Nat → Option (Bool × Value)
 | [], _ => none
 | (t, e) :: r, s => bif Nat.beq t s then some e else look r s
def evl (l : Env) : Operand → Option (Bool × Value)
 | .tmp t => look l t
 | .const v => some (true, v)
 | .global g => some (true, .pointer (some ⟨g, 0, none⟩))
 | .func f => some (true, .func (.func f) #[] #[])
structure Nm where
 n : Nat
 M : List Deferred
 r : Option Nat
structure Sees (n : Nm) (l : Env) (a : Act) : Prop where
 df : a.defers = n.M
 sz : a.tmps.size = n.n
 at_ : ∀ t c v, look l t = some (c, v) → a.tmps[t]? = some (bif c then v else undef)
theorem Sees.eval {n : Nm} {l : Env} {a : Act} (h : Sees n l a) {x : Operand} {c : Bool} {v : Value} (hx : evl l x = some (c, v)) (hc : c = true) : a.eval x = v := by
 subst hc
 match x, hx with
 | .tmp t, hx =>
  have := h.at_ t true v hx
  simp only [Act.eval, Array.getD_eq_getD_getElem?, this]; rfl
 | .const u, hx => simp only [evl, Option.some.injEq, Prod.mk.injEq] at hx; exact hx.2
 | .global g, hx => simp only [evl, Option.some.injEq, Prod.mk.injEq] at hx; exact hx.2
 | .func f, hx => simp only [evl, Option.some.injEq, Prod.mk.injEq] at hx; exact hx.2
theorem Sees.put {n : Nm} {l : Env} {a : Act} (h : Sees n l a) {d : Nat} (hd : d < n.n) (c : Bool) (v : Value) :
  Sees n ((d, c, v) :: l) (a.put (some d) (bif c then v else undef)) := by
 refine ⟨h.df, ?_, fun t c' v' ht => ?_⟩
 ·show (a.tmps.setIfInBounds d _).size = n.n
  rw [Array.size_setIfInBounds]; exact h.sz
 ·show (a.tmps.setIfInBounds d _)[t]? = _
  rw [Array.getElem?_setIfInBounds]
  simp only [look] at ht
  by_cases e : d = t
  ·subst e
   rw [Nat.beq_refl, cond_true] at ht
   simp only [Option.some.injEq, Prod.mk.injEq] at ht
   obtain ⟨rfl, rfl⟩ := ht
   rw [if_pos rfl, if_pos (by rw [h.sz]; exact hd)]
  ·rw [show Nat.beq d t = false from by rw [Bool.eq_false_iff]; intro hb; exact e (Nat.eq_of_beq_eq_true hb), cond_false] at ht
   rw [if_neg e]
   exact h.at_ t c' v' ht
inductive Sub (l : Env) : Env → Prop where
 | nil : Sub l []
 | cons {t : Nat} {c : Bool} {v : Value} {l' : Env} (h : look l t = some (c, v)) (r : Sub l l') : Sub l ((t, c, v) :: l')
theorem Sub.look {l l' : Env} (h : Sub l l') : ∀ t c v, look l' t = some (c, v) → Eng.look l t = some (c, v) := by
 induction h with
 | nil => intro t c v h; cases h
 | @cons t0 c0 v0 l0 h0 _ ih =>
  intro t c v ht
  simp only [Eng.look] at ht
  by_cases e : t0 = t
  ·subst e
   rw [Nat.beq_refl, cond_true] at ht
   rw [h0]; exact ht
  ·rw [show Nat.beq t0 t = false from by rw [Bool.eq_false_iff]; intro hb; exact e (Nat.eq_of_beq_eq_true hb), cond_false] at ht
   exact ih t c v ht
theorem Sees.sub {n : Nm} {l l' : Env} {a : Act} (h : Sees n l a) (hs : Sub l l') : Sees n l' a :=
 ⟨h.df, h.sz, fun t c v ht => h.at_ t c v (hs.look t c v ht)⟩
/-! ### Guards -/
inductive Guard (l : Env) (ops : Array Oper) : Option (Nat × Bool) → Bool → Prop where
 | none : Guard l ops .none true
 | yes {j d : Nat} {b : Bool} (hd : (ops[j]?).bind (·.dst) = some d) (h : look l d = some (true, .bool b)) : Guard l ops (some (j, true)) b
 | no {j d : Nat} {b : Bool} (hd : (ops[j]?).bind (·.dst) = some d) (h : look l d = some (true, .bool b)) : Guard l ops (some (j, false)) (!b)
 | cyes {j d : Nat} {c b : Bool} (hd : (ops[j]?).bind (·.dst) = some d) (h : look l d = some (c, .bool b)) : Guard l ops (some (j, true)) (c && b)
 | cno {j d : Nat} {c b : Bool} (hd : (ops[j]?).bind (·.dst) = some d) (h : look l d = some (c, .bool b)) : Guard l ops (some (j, false)) (c && !b)
theorem yielded_of {n : Nm} {l : Env} {a : Act} (hs : Sees n l a) {ops : Array Oper} {j d : Nat} {c b : Bool} (hd : (ops[j]?).bind (·.dst) = some d) (h : look l d = some (c, .bool b)) :
  yielded ops a.tmps j = if c then some b else none := by
 have ht := hs.at_ d c _ h
 unfold yielded
 rw [hd]
 simp only [Option.bind_some, ht]
 cases c <;> simp [undef]
theorem Guard.wanted {n : Nm} {l : Env} {a : Act} (hs : Sees n l a) {ops : Array Oper} {o : Oper} {c : Bool} (h : Guard l ops o.guard c) :
  Region.wanted o (yielded ops a.tmps) = c := by
 unfold Region.wanted
 generalize o.guard = g at h
 cases h with
 | none => rfl
 | @yes j d b hd h => simp only [yielded_of hs hd h, if_true]; cases c <;> rfl
 | @no j d b hd h => simp only [yielded_of hs hd h, if_true]; cases b <;> rfl
 | @cyes j d c b hd h => simp only [yielded_of hs hd h]; cases c <;> cases b <;> rfl
 | @cno j d c b hd h => simp only [yielded_of hs hd h]; cases c <;> cases b <;> rfl
theorem Sub.cons_eq {l l' : Env} {t : Nat} {c : Bool} {v v' : Value} (h : Eng.look l t = some (c, v')) (hv : v' = v) (r : Sub l l') : Sub l ((t, c, v) :: l') := .cons (by rw [h, hv]) r
/-! what a tactic finds by itself, as an argument that is filled in -/
theorem Sub.au {l l' : Env} (h : Sub l l' := by (repeat (first | exact Sub.nil | apply Sub.cons rfl | (refine Sub.cons_eq rfl (congrArg (Value.int .i64) (by first | omega | (simp only; omega))) ?_))); first | done | fail) : Sub l l' := h
theorem Guard.au {l : Env} {ops : Array Oper} {g : Option (Nat × Bool)} {c : Bool} (h : Guard l ops g c := by (first | exact Guard.none | exact Guard.yes rfl rfl | exact Guard.no rfl rfl | exact Guard.cyes rfl rfl | exact Guard.cno rfl rfl); first | done | fail) : Guard l ops g c := h
/-! ### Memory: items and kept worlds -/
structure Item where
 own : Nat → Prop
 holds : World → Prop
 stab : ∀ w w' : World, (∀ k, own k → w'.heap[k]? = w.heap[k]?) → holds w → holds w'
structure Keep (O : Nat → Prop) (s w : World) : Prop where
 os : w.os = s.os
 tape : w.tape = s.tape
 output : w.output = s.output
 size : s.heap.size ≤ w.heap.size
 block : ∀ k, k < s.heap.size → ¬ O k → w.heap[k]? = s.heap[k]?
theorem Keep.refl (O : Nat → Prop) (s : World) : Keep O s s := ⟨rfl, rfl, rfl, Nat.le_refl _, fun _ _ _ => rfl⟩
theorem Keep.trans {O : Nat → Prop} {a b c : World} (h : Keep O a b) (k : Keep O b c) : Keep O a c :=
 ⟨k.os.trans h.os, k.tape.trans h.tape, k.output.trans h.output, Nat.le_trans h.size k.size, fun i hi ho => (k.block i (Nat.lt_of_lt_of_le hi h.size) ho).trans (h.block i hi ho)⟩
theorem Keep.mono {O O' : Nat → Prop} {s w : World} (h : Keep O s w) (ho : ∀ k, k < s.heap.size → O k → O' k) : Keep O' s w :=
 ⟨h.os, h.tape, h.output, h.size, fun k hk hn => h.block k hk fun x => hn (ho k hk x)⟩
abbrev Ext (w w' : World) : Prop := Keep (fun _ => False) w w'
theorem Ext.below {w w' : World} (h : Ext w w') : Below w.heap.size w w' := ⟨h.os, h.tape, h.output, h.size, fun k hk => h.block k hk id⟩
theorem Ext.of_below {w w' : World} (h : Below w.heap.size w w') : Ext w w' := ⟨h.os, h.tape, h.output, h.size, fun k hk _ => h.block k hk⟩
def owned (H : List Item) (k : Nat) : Prop := ∃ i ∈ H, i.own k
structure Cls (H : List Item) (S : List World) (w : World) : Prop where
 holds : ∀ i ∈ H, i.holds w
 lt : ∀ i ∈ H, ∀ k, i.own k → k < w.heap.size
 dj : H.Pairwise fun i j => ∀ k, i.own k → ¬ j.own k
 kp : ∀ s ∈ S, Keep (owned H) s w
theorem Cls.start (w : World) : Cls [] [w] w :=
 {holds := fun i hi => by cases hi
  lt := fun i hi => by cases hi
  dj := List.Pairwise.nil
  kp := fun s hs => by simp only [List.mem_singleton] at hs; subst hs; exact .refl _ _ }
theorem Cls.ext {H : List Item} {S : List World} {w w' : World} (h : Cls H S w) (he : Ext w w') : Cls H S w' :=
 ⟨fun i hi => i.stab w w' (fun k hk => he.block k (h.lt i hi k hk) id) (h.holds i hi), fun i hi k hk => Nat.lt_of_lt_of_le (h.lt i hi k hk) he.size, h.dj,
  fun s hs => (h.kp s hs).trans (he.mono fun _ _ x => x.elim)⟩
theorem Cls.drew {H : List Item} {S : List World} {w : World} (h : Cls H S w) : Cls H S { w with drawn := w.drawn + 1 } :=
 h.ext ⟨rfl, rfl, rfl, Nat.le_refl _, fun _ _ _ => rfl⟩
theorem Cls.forget {H : List Item} {S S' : List World} {w : World} (h : Cls H S w) (hs : ∀ s ∈ S', s ∈ S) : Cls H S' w := ⟨h.holds, h.lt, h.dj, fun s x => h.kp s (hs s x)⟩
theorem Cls.note {H : List Item} {S : List World} {w : World} (h : Cls H S w) : Cls H (w :: S) w :=
 ⟨h.holds, h.lt, h.dj, fun s x => by cases x with | head => exact .refl _ _ | tail _ x => exact h.kp s x⟩
theorem Cls.add {H : List Item} {S : List World} {w w' : World} (h : Cls H S w) (he : Ext w w') (i : Item) (hi : i.holds w') (ho : ∀ k, i.own k → w.heap.size ≤ k ∧ k < w'.heap.size) : Cls (i :: H) S w' := by
 have h' := h.ext he
 refine ⟨fun j hj => ?_, fun j hj => ?_, .cons (fun j hj k hk hk' => ?_) h'.dj, fun s hs => (h'.kp s hs).mono fun k _ ⟨j, hj, x⟩ => ⟨j, .tail _ hj, x⟩⟩
 ·cases hj with
  | head => exact hi
  | tail _ hj => exact h'.holds j hj
 ·cases hj with
  | head => exact fun k hk => (ho k hk).2
  | tail _ hj => exact h'.lt j hj
 ·have := h.lt j hj k hk'; have := (ho k hk).1; omega
theorem Cls.turn {H : List Item} {S : List World} {w w' : World} (h : Cls H S w) (p : Nat) {i j : Item} (hp : H[p]? = some i) (hw : Keep i.own w w') (hj : j.holds w')
  (ho : ∀ k, j.own k → (i.own k ∨ w.heap.size ≤ k) ∧ k < w'.heap.size) (hk : ∀ k, i.own k → j.own k) : Cls (H.set p j) S w' := by
 have hlt : p < H.length := by
  rcases Nat.lt_or_ge p H.length with hl | hl
  ·exact hl
  ·rw [List.getElem?_eq_none hl] at hp; cases hp
 have hpi : H[p] = i := by rw [List.getElem?_eq_getElem hlt] at hp; exact Option.some.inj hp
 have far : ∀ q (hq : q < H.length), q ≠ p → ∀ k, H[q].own k → ¬ i.own k := by
  intro q hq hne k hk hik
  rcases Nat.lt_or_gt_of_ne hne with hl | hl
  ·exact List.pairwise_iff_getElem.1 h.dj q p hq hlt hl k hk (hpi ▸ hik)
  ·exact List.pairwise_iff_getElem.1 h.dj p q hlt hq hl k (hpi ▸ hik) hk
 have mem : ∀ x ∈ H.set p j, x = j ∨ ∃ q, ∃ hq : q < H.length, q ≠ p ∧ x = H[q] := by
  intro x hx
  obtain ⟨q, hq, e⟩ := List.getElem_of_mem hx
  rw [List.getElem_set] at e
  by_cases hqp : p = q
  ·rw [if_pos hqp] at e; exact .inl e.symm
  ·rw [if_neg hqp] at e; exact .inr ⟨q, by simpa using hq, Ne.symm hqp, e.symm⟩
 refine ⟨fun x hx => ?_, fun x hx k hxk => ?_, ?_, fun s hs => ?_⟩
 ·rcases mem x hx with rfl | ⟨q, hq, hne, rfl⟩
  ·exact hj
  ·exact H[q].stab w w' (fun k hk => hw.block k (h.lt _ (List.getElem_mem hq) k hk) (far q hq hne k hk)) (h.holds _ (List.getElem_mem hq))
 ·rcases mem x hx with rfl | ⟨q, hq, hne, rfl⟩
  ·exact (ho k hxk).2
  ·exact Nat.lt_of_lt_of_le (h.lt _ (List.getElem_mem hq) k hxk) hw.size
 ·rw [List.pairwise_iff_getElem]
  intro a b ha hb hab k hka hkb
  rw [List.getElem_set] at hka hkb
  simp only [List.length_set] at ha hb
  by_cases h1 : p = a
  ·subst h1
   rw [if_pos rfl] at hka
   rw [if_neg (by omega)] at hkb
   rcases (ho k hka).1 with h2 | h2
   ·exact far b hb (by omega) k hkb h2
   ·have := h.lt _ (List.getElem_mem hb) k hkb; omega
  ·rw [if_neg h1] at hka
   by_cases h2 : p = b
   ·subst h2
    rw [if_pos rfl] at hkb
    rcases (ho k hkb).1 with h3 | h3
    ·exact far a ha (by omega) k hka h3
    ·have := h.lt _ (List.getElem_mem ha) k hka; omega
   ·rw [if_neg h2] at hkb
    exact List.pairwise_iff_getElem.1 h.dj a b ha hb hab k hka hkb
 ·have hin : ∀ k, i.own k → owned (H.set p j) k := fun k hik => ⟨j, List.mem_of_getElem? (List.getElem?_set_self (by simpa using hlt)), hk k hik⟩
  have hs1 := h.kp s hs
  refine ⟨hw.os.trans hs1.os, hw.tape.trans hs1.tape, hw.output.trans hs1.output, Nat.le_trans hs1.size hw.size, fun k hks hno => ?_⟩
  have h1 : ¬ i.own k := fun x => hno (hin k x)
  refine (hw.block k (Nat.lt_of_lt_of_le hks hs1.size) h1).trans (hs1.block k hks ?_)
  rintro ⟨x, hx, hxk⟩
  obtain ⟨q, hq, rfl⟩ := List.getElem_of_mem hx
  by_cases hqp : q = p
  ·subst hqp; exact h1 (hpi ▸ hxk)
  ·exact hno ⟨H[q], List.mem_of_getElem? (by rw [List.getElem?_set_ne (Ne.symm hqp)]; exact List.getElem?_eq_getElem hq), hxk⟩
/-! ### Blocks -/
def blk (b : Nat) (t : TypeId) (c : List Value) : Item :=
 ⟨fun k => k = b, fun w => w.heap[b]? = some (.cells c.toArray t (0, 0)), fun w w' hk h => (hk b rfl).trans h⟩
theorem blk_cell {w : World} {b o : Nat} {t : TypeId} {c : List Value} (h : (blk b t c).holds w) : w.cell? ⟨b, o, none⟩ = c[o]? := by
 have h' : w.heap[b]? = some (.cells c.toArray t (0, 0)) := h
 simp [World.cell?, h']
theorem ext_alloc (w : World) (o : Obj) : Ext w (w.alloc o) := Ext.of_below ((Below.refl _ _).alloc (Nat.le_refl _) o)
theorem Cls.alloc {H : List Item} {S : List World} {w : World} (h : Cls H S w) (t : TypeId) (c : List Value) :
  Cls (blk w.heap.size t c :: H) S (w.alloc (.cells c.toArray t)) :=
 h.add (ext_alloc w _) _ (heap_alloc_new w _) (fun k hk => by
  have hk' : k = w.heap.size := hk
  subst hk'; simp)
end Go.Eng

/- Codes walked in whatever round of a range over a function, with whatever deferred calls: the rules of control out of the kit's fenced ones. General. No condition. -/
namespace Go.Eng
open Go.RowKit
def wideR (r : Option Nat) : Fence := { Fence.wide with round := r }
theorem fencedR (P : Program) (r : Option Nat) (m : Machine) : m.fenced P (wideR r) := fenced_wide P m
def opCalm (o : Oper) : Bool := match o.op with
 | .defer _ => false
 | _ => true
def calmC : Code → Bool
 | .region _ ops _ => ops.toList.all opCalm
 | .seq a b => calmC a && calmC b
 | .cond _ a b => calmC a && calmC b
 | .block _ a => calmC a
 | .loop a => calmC a
 | .scope a => calmC a
 | _ => true
def wpp (r : Option Nat) (P : Program) (c : Code) (Q : Exit → Act → World → Prop) (a : Act) (w : World) : Prop := (r.isSome = true → calmC c = true) → c.wpIn (wideR r) 0 P Q a w
section
variable {P : Program} {r : Option Nat} {Q : Exit → Act → World → Prop} {a : Act} {w : World} {x y c : Code} {ops : Array Oper}
theorem wpp_mono {Q' : Exit → Act → World → Prop} (h : wpp r P c Q a w) (hq : ∀ e a w, Q e a w → Q' e a w) : wpp r P c Q' a w := fun hp => wpIn_mono (h hp) hq
theorem wpp_seq (h : wpp r P x (Exit.then (wpp r P y Q) Q) a w) : wpp r P (.seq x y) Q a w := fun hp => by
 have hp2 : r.isSome = true → calmC x = true ∧ calmC y = true := fun h => by have := hp h; simpa [calmC] using this
 refine wpIn_seq (wpIn_mono (h fun h => (hp2 h).1) fun e a w hq => ?_)
 cases e with
 | normal => exact hq fun h => (hp2 h).2
 | _ => exact hq
theorem wpp_cond_split {o : Operand} {t : Bool} (hc : a.eval o = .bool t) (ht : t = true → wpp r P x Q a w) (hf : t = false → wpp r P y Q a w) : wpp r P (.cond o x y) Q a w := fun hp => by
 have hp2 : r.isSome = true → calmC x = true ∧ calmC y = true := fun h => by have := hp h; simpa [calmC] using this
 exact wpIn_cond_split hc (fun h => ht h fun h => (hp2 h).1) (fun h => hf h fun h => (hp2 h).2)
theorem wpp_block {id : Nat} (h : wpp r P c (Exit.inBlock id Q) a w) : wpp r P (.block id c) Q a w := fun hp => wpIn_block (h hp)
theorem wpp_skip (h : Q .normal a w) : wpp r P .skip Q a w := fun _ => wpIn_skip h
theorem wpp_exit {id : Nat} (h : Q (.exit id) a w) : wpp r P (.exit id) Q a w := fun _ => wpIn_exit h
theorem wpp_ret (h : Q .ret a w) : wpp r P .ret Q a w := fun _ => wpIn_ret h
def roundsP (r : Option Nat) (P : Program) (c : Code) (Q : Exit → Act → World → Prop) : Nat → Act → World → Prop
 | 0, _, _ => False
 | m + 1, a, w => wpp r P c (Exit.then (roundsP r P c Q m) Q) a w
theorem wpp_loop (m : Nat) (h : roundsP r P c Q m a w) : wpp r P (.loop c) Q a w := fun hp => by
 have hp : r.isSome = true → calmC c = true := hp
 refine wpIn_loop_rounds m ?_
 induction m generalizing a w with
 | zero => exact h.elim
 | succ m ih =>
  refine wpIn_mono (h hp) fun e a w hq => ?_
  cases e with
  | normal => exact ih hq
  | _ => exact hq
theorem asks_outgrownR {b : Frame} {k : List Go.Item} {cs : List Frame} {i : Nat} {rest : List Nat} {o : Oper}
  (ho : ops[i]? = some o) (hw : Region.wanted o (yielded ops a.tmps) = true) (hb : b.kind ≠ .early) (hs : o.semAt b.roundOf a.eval = execOp a.eval o) (h : o.asks P a w) :
  Outgrown P (lone (b.atR a (.inRegion ops (i :: rest) :: k)) cs w) := by
 obtain ⟨hm, hkept⟩ := h
 have hg := stepGR_op (P := P) (b := b) (k := k) (cs := cs) (w := w) (rest := rest) ho hw
 rw [hs] at hg
 have hes : noRoomEvent ∈ (stepG P true { frame := b.atR a (.inRegion ops (i :: rest) :: k), callers := cs, status := .running, dying := none } w).es := by
  rw [hg]
  have hk : ((b.atR a (.inRegion ops (i :: rest) :: k)).kind == CallKind.early) = false := by simpa [Frame.atR] using hb
  have hm' : noRoomEvent ∈ Sem.events P (execOp a.eval o) w #[] := hm
  simp only [stepG.apply, Sem.runT_eq, if_true, hk, Bool.false_eq_true, if_false]
  rw [GStep.es_after]
  refine Array.mem_append.2 (.inl (seen_keeps P _ _ ?_))
  cases hrun : (execOp a.eval o).run P w with
  | ok x w' => exact hm'
  | halt x w' =>
   rw [hrun] at hkept
   cases x with
   | unsupported u => cases u <;> first | exact hkept.elim | exact hm'
   | blocked => exact hkept.elim
   | waiting => exact hkept.elim
   | _ => exact hm'
 refine Outgrown.now (o := { g := 0, fn := (b.atR a (.inRegion ops (i :: rest) :: k)).fn, pos := (b.atR a (.inRegion ops (i :: rest) :: k)).place, act := .mark .noRoom }) ?_ rfl rfl
 rw [stepT, move_lone]
 refine runT_lists P _ 0 { frame := b.atR a (.inRegion ops (i :: rest) :: k), callers := cs, status := .running, dying := none } (by simp [lone]) _ ?_
 exact mem_ofEvents (e := noRoomEvent) (by simpa [lone] using hes)
theorem wpp_ops2 {Y : Exit → Act → World → Prop} (l2 : List Nat) (hY : ∀ a w, Y .normal a w → ∀ (b : Frame) (k : List Go.Item) (cs : List Frame), b.roundOf = r → ∃ e a' w', Q e a' w' ∧ ArrivesIn (Machine.fenced P (wideR r)) P (lone (b.atR a (.inRegion ops l2 :: k)) cs w) b k cs e a' w')
  (hne : ∀ e a w, e ≠ .normal → Y e a w → Q e a w) (l : List Nat) : ∀ (a : Act) (w : World), wpOps P ops Y l a w → (r.isSome = true → ops.toList.all opCalm = true) → ∀ (b : Frame) (k : List Go.Item) (cs : List Frame), b.roundOf = r →
   ∃ e a' w', Q e a' w' ∧ ArrivesIn (Machine.fenced P (wideR r)) P (lone (b.atR a (.inRegion ops (l ++ l2) :: k)) cs w) b k cs e a' w' := by
 induction l with
 | nil => exact fun a w h _ b k cs hro => hY a w h b k cs hro
 | cons i rest0 ih =>
  intro a w h hcalm b k cs hro
  obtain ⟨rest, hrest⟩ : ∃ rest, rest0 ++ l2 = rest := ⟨_, rfl⟩
  rw [hrest] at ih
  rw [List.cons_append, hrest]
  simp only [wpOps] at h
  cases ho : ops[i]? with
  | none =>
   simp only [ho] at h
   obtain ⟨e, a', w', hq, harr⟩ := ih a w h hcalm b k cs hro
   have hs := stepR_op_skip (P := P) (b := b) (a := a) (k := k) (cs := cs) (w := w) (ops := ops) (i := i) (rest := rest) (by simp [ho])
   simp only [ho, Option.bind_none, Act.put] at hs
   exact ⟨e, a', w', hq, .of_steps (.one (fencedR _ _ _) hs) harr⟩
  | some o =>
   simp only [ho] at h
   have hsem : o.semAt b.roundOf a.eval = execOp a.eval o := by
    rw [hro]
    cases hr : r with
    | none => rfl
    | some l0 =>
     refine Oper.semAt_eq _ _ _ fun c hc => ?_
     have h1 := hcalm (by rw [hr]; rfl)
     rw [List.all_eq_true] at h1
     have h2 := h1 o (by
      have := Array.mem_of_getElem? ho
      simpa using this)
     unfold opCalm at h2
     rw [hc] at h2
     cases h2
   by_cases hw : Region.wanted o (yielded ops a.tmps) = true
   ·simp only [hw, if_true] at h
    rcases h with h | ⟨hasks, a₀, w₀, hq⟩
    case inr =>
     by_cases hk : b.kind = .early
     ·exact ⟨.outgrown, a₀, w₀, hne _ _ _ (by simp) hq, .inl hk⟩
     ·exact ⟨.outgrown, a₀, w₀, hne _ _ _ (by simp) hq, .inr (asks_outgrownR ho hw hk hsem hasks)⟩
    simp only [Oper.wp, Oper.upon] at h
    have h0 : (lone (b.atR a (.inRegion ops (i :: rest) :: k)) cs w).fenced P (wideR r) := fencedR _ _ _
    have hg := stepGR_op (P := P) (b := b) (k := k) (cs := cs) (w := w) (rest := rest) ho hw
    rw [hsem] at hg
    have hfin : ∀ v, (b.atR a (.inRegion ops (i :: rest) :: k)).finish v = b.atR (a.put o.dst v) (.inRegion ops rest :: k) := by
     intro v; rw [Frame.finish_atR, ho]; rfl
    split at h
    ·rename_i v w' hr'
     obtain ⟨e, a', w'', hq, harr⟩ := ih _ _ h hcalm b k cs hro
     refine ⟨e, a', w'', hq, .of_steps (.one h0 (step_lone_go ?_)) harr⟩
     rw [hg, ← hfin]; simp [stepG.apply, hr']
    ·rename_i w' hr'
     obtain ⟨e, a', w'', hq, harr⟩ := ih _ _ h hcalm b k cs hro
     refine ⟨e, a', w'', hq, .of_steps (.one h0 (step_lone_go ?_)) harr⟩
     rw [hg, ← hfin]; simp [stepG.apply, hr']
    ·rename_i d w' hr'
     obtain ⟨e, a', w'', hq, harr⟩ := ih _ _ h hcalm b k cs hro
     refine ⟨e, a', w'', hq, .of_steps (.one h0 (step_lone_go ?_)) harr⟩
     have : ({ b.atR a (.inRegion ops (i :: rest) :: k) with defers := d :: a.defers } : Frame).finish undef =
       b.atR ({ a with defers := d :: a.defers }.put o.dst undef) (.inRegion ops rest :: k) := by
      have := Frame.finish_atR b { a with defers := d :: a.defers } ops i rest k undef
      rw [ho] at this; exact this
     rw [hg]; simp only [stepG.apply, Sem.runT_eq, hr', GStep.bare_after]
     exact congrArg (fun fr => GStep.go { frame := fr, callers := cs, status := .running, dying := none } w') this
    ·rename_i f args w' hr'
     obtain ⟨e, w'', fr, hR, hsteps, hfn, hleave⟩ := h (b.atR a (.inRegion ops (i :: rest) :: k) :: cs)
     have hsteps := comesIn_wide.2 hsteps
     have henter : step P (lone (b.atR a (.inRegion ops (i :: rest) :: k)) cs w) =
       .next (lone (Frame.enter P f args .normal) (b.atR a (.inRegion ops (i :: rest) :: k) :: cs) w') :=
      step_lone_go (by rw [hg]; simp [stepG.apply, hr', Frame.atR])
     cases e with
     | returned v =>
      obtain ⟨e, a', w₃, hq, harr⟩ := ih _ _ hR hcalm b k cs hro
      refine ⟨e, a', w₃, hq, .of_steps (.head h0 henter (StepsIn.trans hsteps (.one (fencedR _ _ _) ?_))) harr⟩
      rw [← hfin]; exact step_leave_returned hleave
     | panicked chain =>
      refine ⟨.panic chain, a, w'', hne _ _ _ (by simp) hR, .inRegion ops (i :: rest) :: k, .head h0 henter (StepsIn.trans hsteps (.one (fencedR _ _ _) ?_))⟩
      rw [← Frame.raise_atR]; exact step_leave_panicked hleave
     | outgrown =>
      obtain ⟨a₀, w₀, hq⟩ := hR
      exact ⟨.outgrown, a₀, w₀, hne _ _ _ (by simp) hq, .inr (Outgrown.of_steps (.one henter) hsteps)⟩
    ·rename_i row args w' hr'
     obtain ⟨v, w'', hR, hsteps⟩ := h (b.atR a (.inRegion ops (i :: rest) :: k)) cs
     have hsteps := stepsIn_wide.2 hsteps
     have henter : step P (lone (b.atR a (.inRegion ops (i :: rest) :: k)) cs w) =
       .next (lone (Frame.ofRow P row args .normal) (b.atR a (.inRegion ops (i :: rest) :: k) :: cs) w') :=
      step_lone_go (by rw [hg]; simp [stepG.apply, hr', Frame.atR])
     obtain ⟨e, a', w₃, hq, harr⟩ := ih _ _ hR hcalm b k cs hro
     refine ⟨e, a', w₃, hq, .of_steps (.head h0 henter ?_) harr⟩
     rw [← hfin]; exact hsteps
    ·rename_i v w' hr'
     refine ⟨_, a, w', hne _ _ _ (by simp) h, .inRegion ops (i :: rest) :: k, .one h0 (step_lone_go ?_)⟩
     rw [hg, ← Frame.raise_atR]; simp [stepG.apply, hr']
    ·exact h.elim
   ·simp only [hw, if_false, Bool.false_eq_true] at h
    obtain ⟨e, a', w', hq, harr⟩ := ih _ _ h hcalm b k cs hro
    have hs := stepR_op_skip (P := P) (b := b) (a := a) (k := k) (cs := cs) (w := w) (ops := ops) (i := i) (rest := rest)
     (by simp [ho]; simpa using hw)
    simp only [ho, Option.bind_some] at hs
    exact ⟨e, a', w', hq, .of_steps (.one (fencedR _ _ _) hs) harr⟩
theorem wpp_ops (l : List Nat) (a : Act) (w : World) (h : wpOps P ops Q l a w) (hcalm : r.isSome = true → ops.toList.all opCalm = true) (b : Frame) (k : List Go.Item) (cs : List Frame) (hro : b.roundOf = r) :
   ∃ e a' w', Q e a' w' ∧ ArrivesIn (Machine.fenced P (wideR r)) P (lone (b.atR a (.inRegion ops l :: k)) cs w) b k cs e a' w' := by
 have := wpp_ops2 (r := r) (Q := Q) [] (fun a w h b k cs _ => ⟨.normal, a, w, h, .one (fencedR _ _ _) stepR_region_end⟩) (fun e a w _ h => h) l a w h hcalm b k cs hro
 rwa [List.append_nil] at this
theorem wpOps_of_list (l : List Oper) : ∀ (k : Nat), (∀ j, j < l.length → l[j]? = ops[k + j]?) → ∀ a w, wpList P ops Q l a w → wpOps P ops Q (List.range' k l.length) a w := by
 induction l with
 | nil => intro k _ a w h; exact h
 | cons o l ih =>
  intro k h a w hw
  have h0 : ops[k]? = some o := by simpa using (h 0 (by simp)).symm
  have ih' := ih (k + 1) (fun j hj => by have := h (j + 1) (by simpa using hj); simpa [Nat.add_assoc, Nat.add_comm 1 j] using this)
  simp only [List.length_cons, List.range'_succ, wpOps, h0]
  unfold wpList at hw
  split at hw
  ·rename_i hwt
   rw [if_pos hwt]
   exact hw.imp (Oper.wp_mono (fun a w h => ih' a w h)) id
  ·rename_i hwt
   rw [if_neg hwt]
   exact ih' _ _ hw
theorem wpp_region {id : Nat} (h : wpOps P ops Q (List.range ops.size) a w) : wpp r P (.region id ops false) Q a w := fun hp b k cs hro _ _ =>
 let ⟨e, a', w', q, s⟩ := wpp_ops _ a w h hp b k cs hro; ⟨e, a', w', q, .of_steps (.one (fencedR _ _ _) stepR_region) s⟩
theorem wpp_region_draw {id : Nat} (h : ∀ t, wpOps P ops Q (Region.schedule (P.follows .mixedOrders) ops t) a { w with drawn := w.drawn + 1 }) : wpp r P (.region id ops true) Q a w := fun hp b k cs hro _ _ =>
 let ⟨e, a', w', q, s⟩ := wpp_ops _ a _ (h _) hp b k cs hro; ⟨e, a', w', q, .of_steps (.one (fencedR _ _ _) stepR_region_draw) s⟩
theorem wpp_region_any {id : Nat} (hm : P.follows .mixedOrders = true) (h : wpAny P .any ops Q ops.size (Array.replicate ops.size false) a { w with drawn := w.drawn + 1 }) : wpp r P (.region id ops true) Q a w :=
 wpp_region_draw fun t => by
  simp only [Region.schedule, hm, Bool.true_or, if_true]
  exact wpAny_sound ops.size t _ a _ h
theorem wpp_region_lit {id : Nat} {l : List Oper} (h : wpList P l.toArray Q l a w) : wpp r P (.region id l.toArray false) Q a w := by
 refine wpp_region ?_
 have := wpOps_eq_wpList (P := P) (ops := l.toArray) (Q := Q) l 0 (fun j => by simp)
 rw [List.range_eq_range']
 have hs : l.toArray.size = l.length := by simp
 rw [hs, this]
 exact h
theorem wpp_region_quiet {id : Nat} {C : World → Prop} (hm : P.follows .mixedOrders = true) (hB : Region.lexB .any ops = true) (hC : C { w with drawn := w.drawn + 1 })
  (h : wpQuiet P ops C (fun a' => ∀ w', C w' → Q .normal a' w') ops.toList a) : wpp r P (.region id ops true) Q a w := by
 simp only [Region.lexB, Bool.and_eq_true] at hB
 refine wpp_region_any hm (wpAny_of_quiet (Q := fun a' => ∀ w', C w' → Q .normal a' w') (fun _ w' hw' h => h w' hw') _ _ _ _ hC ?_)
 have := wpAnyQ_lex (C := C) (md := .any) hB.1 ops.toList 0 (Array.replicate ops.size false) a (by simp) (by simpa using hB.2) h
 simpa using this
theorem calls_of_wpp {f : FuncId} {fn : Func} {args : Array Value} {R : Ending → World → Prop} (hf : P.funcs[f]? = some fn) (hb : fn.body = some c)
  (h : wpp none P c (bodyPost P fn R) { tmps := args ++ Array.replicate (fn.ntmps - args.size) undef, defers := [] } w) : Calls P f args w R :=
 calls_of_wp hf hb (wpIn_wide.1 (h fun h => by cases h))
end
end Go.Eng

/- The rules of the calculus: control flow, pure operations, loads, calls, new blocks, stores. General: any program P. No condition. -/
namespace Go.Eng
open Go.RowKit
/-! ### Judgements -/
structure Pev (P : Program) (n : Nm) (l : Env) (C : World → Prop) (o : Oper) (c : Bool) (v : Value) : Prop where
 run : c = true → ∀ a w, Sees n l a → C w → Oper.quietUpon P C w v ((execOp a.eval o).run P w)
structure QL (P : Program) (n : Nm) (ops : Array Oper) (C : World → Prop) (K : Act → Prop) (rest : List Oper) (l : Env) : Prop where
 run : ∀ a, Sees n l a → wpQuiet P ops C K rest a
structure OL (P : Program) (n : Nm) (ops : Array Oper) (Q : Exit → Act → World → Prop) (rest : List Oper) (l : Env) (C : World → Prop) : Prop where
 run : ∀ a w, Sees n l a → C w → wpList P ops Q rest a w
structure W (P : Program) (n : Nm) (c : Code) (Q : Exit → Act → World → Prop) (l : Env) (C : World → Prop) : Prop where
 run : ∀ a w, Sees n l a → C w → wpp n.r P c Q a w
structure At (n : Nm) (Q : Exit → Act → World → Prop) (e : Exit) (l : Env) (C : World → Prop) : Prop where
 run : ∀ a w, Sees n l a → C w → Q e a w
section
variable {P : Program} {n : Nm} {l l' : Env} {C : World → Prop} {ops : Array Oper} {Q : Exit → Act → World → Prop} {rest : List Oper} {o : Oper} {K : Act → Prop}
/-! ### Control flow -/
theorem W.seq {x y : Code} (h : W P n x (Exit.then (wpp n.r P y Q) Q) l C) : W P n (.seq x y) Q l C := ⟨fun a w hs hc => wpp_seq (h.run a w hs hc)⟩
theorem W.reg {id : Nat} {l0 : List Oper} (h : OL P n l0.toArray Q l0 l C) : W P n (.region id l0.toArray false) Q l C := ⟨fun a w hs hc => wpp_region_lit (h.run a w hs hc)⟩
theorem W.regd {id : Nat} {l0 : List Oper} (hm : P.follows .mixedOrders = true) (hB : Region.lexB .any l0.toArray = true) (hC : ∀ w, C w → C { w with drawn := w.drawn + 1 })
  (h : QL P n l0.toArray C (fun a' => ∀ w', C w' → Q .normal a' w') l0 l) : W P n (.region id l0.toArray true) Q l C :=
 ⟨fun a w hs hc => wpp_region_quiet (C := C) hm hB (hC w hc) (by simpa using h.run a hs)⟩
theorem W.cond {x : Operand} {y z : Code} {b : Bool} (hx : evl l x = some (true, .bool b)) (ht : b = true → W P n y Q l C) (hf : b = false → W P n z Q l C) : W P n (.cond x y z) Q l C :=
 ⟨fun a w hs hc => wpp_cond_split (hs.eval hx rfl) (fun h => (ht h).run a w hs hc) (fun h => (hf h).run a w hs hc)⟩
theorem W.block {id : Nat} {c : Code} (h : W P n c (Exit.inBlock id Q) l C) : W P n (.block id c) Q l C := ⟨fun a w hs hc => wpp_block (h.run a w hs hc)⟩
theorem W.skip (h : At n Q .normal l C) : W P n .skip Q l C := ⟨fun a w hs hc => wpp_skip (h.run a w hs hc)⟩
theorem W.exit {id : Nat} (h : At n Q (.exit id) l C) : W P n (.exit id) Q l C := ⟨fun a w hs hc => wpp_exit (h.run a w hs hc)⟩
theorem W.ret (h : At n Q .ret l C) : W P n .ret Q l C := ⟨fun a w hs hc => wpp_ret (h.run a w hs hc)⟩
theorem W.sub {c : Code} {C' : World → Prop} (hs : Sub l l') (hc : ∀ w, C w → C' w) (h : W P n c Q l' C') : W P n c Q l C := ⟨fun a w s c => h.run a w (s.sub hs) (hc w c)⟩
theorem At.sub {e : Exit} {C' : World → Prop} (hs : Sub l l') (hc : ∀ w, C w → C' w) (h : At n Q e l' C') : At n Q e l C := ⟨fun a w s c => h.run a w (s.sub hs) (hc w c)⟩
theorem At.next {y : Code} (h : W P n y Q l C) : At n (Exit.then (wpp n.r P y Q) Q) .normal l C := ⟨h.run⟩
theorem At.then_ret {k : Act → World → Prop} (h : At n Q .ret l C) : At n (Exit.then k Q) .ret l C := ⟨h.run⟩
theorem At.then_exit {k : Act → World → Prop} {id : Nat} (h : At n Q (.exit id) l C) : At n (Exit.then k Q) (.exit id) l C := ⟨h.run⟩
theorem At.in_ret {id : Nat} (h : At n Q .ret l C) : At n (Exit.inBlock id Q) .ret l C := ⟨h.run⟩
theorem At.in_normal {id : Nat} (h : At n Q .normal l C) : At n (Exit.inBlock id Q) .normal l C := ⟨h.run⟩
theorem At.in_exit {id : Nat} (h : At n Q .normal l C) : At n (Exit.inBlock id Q) (.exit id) l C := ⟨fun a w hs hc => by
 show if id = id then Q .normal a w else Q (.exit id) a w
 rw [if_pos rfl]; exact h.run a w hs hc⟩
theorem At.in_other {id id' : Nat} (hne : Nat.beq id' id = false) (h : At n Q (.exit id') l C) : At n (Exit.inBlock id Q) (.exit id') l C := ⟨fun a w hs hc => by
 show if id' = id then Q .normal a w else Q (.exit id') a w
 rw [if_neg (fun e => by rw [e, Nat.beq_refl] at hne; cases hne)]; exact h.run a w hs hc⟩
def Again (n : Nm) {G : Type} (Φ : G → Prop) (μ : G → Nat) (lg : G → Env) (Cg : G → World → Prop) (g : G) (a : Act) (w : World) : Prop :=
 ∃ g', Φ g' ∧ μ g' < μ g ∧ Sees n (lg g') a ∧ Cg g' w
theorem W.loop {c : Code} {G : Type} (Φ : G → Prop) (μ : G → Nat) (lg : G → Env) (Cg : G → World → Prop) (g0 : G) (h0 : Φ g0) (hs0 : Sub l (lg g0)) (hc0 : ∀ w, C w → Cg g0 w)
  (body : ∀ g, Φ g → W P n c (Exit.then (Again n Φ μ lg Cg g) Q) (lg g) (Cg g)) : W P n (.loop c) Q l C := by
 have key : ∀ m g, μ g < m → Φ g → ∀ a w, Sees n (lg g) a → Cg g w → roundsP n.r P c Q m a w := by
  intro m
  induction m with
  | zero => intro g h; omega
  | succ m ih =>
   intro g hm hg a w hs hc
   show wpp n.r P c (Exit.then (roundsP n.r P c Q m) Q) a w
   refine wpp_mono ((body g hg).run a w hs hc) fun e a' w' hq => ?_
   cases e with
   | normal =>
    obtain ⟨g', hg', hlt, hs', hc'⟩ := hq
    exact ih g' (by omega) hg' a' w' hs' hc'
   | _ => exact hq
 exact ⟨fun a w hs hc => wpp_loop _ (key (μ g0 + 1) g0 (by omega) h0 a w (hs.sub hs0) (hc0 w hc))⟩
theorem At.again {G : Type} {Φ : G → Prop} {μ : G → Nat} {lg : G → Env} {Cg : G → World → Prop} {g : G} (g' : G) (hg : Φ g') (hm : μ g' < μ g) (hs : Sub l (lg g')) (hc : ∀ w, C w → Cg g' w) :
  At n (Exit.then (Again n Φ μ lg Cg g) Q) .normal l C := ⟨fun a w s c => ⟨g', hg, hm, s.sub hs, hc w c⟩⟩
/-! ### Entering and leaving a function -/
def argEnv : Nat → List Value → Env
 | _, [] => []
 | i, v :: r => (i, true, v) :: argEnv (i + 1) r
theorem look_argEnv : ∀ (vs : List Value) (i t : Nat) (c : Bool) (v : Value), look (argEnv i vs) t = some (c, v) → c = true ∧ i ≤ t ∧ vs[t - i]? = some v := by
 intro vs
 induction vs with
 | nil => intro i t c v h; cases h
 | cons u r ih =>
  intro i t c v h
  simp only [argEnv, look] at h
  by_cases e : i = t
  ·subst e
   rw [Nat.beq_refl, cond_true] at h
   simp only [Option.some.injEq, Prod.mk.injEq] at h
   exact ⟨h.1.symm, Nat.le_refl _, by simp [h.2]⟩
  ·rw [show Nat.beq i t = false from by rw [Bool.eq_false_iff]; intro hb; exact e (Nat.eq_of_beq_eq_true hb), cond_false] at h
   obtain ⟨h1, h2, h3⟩ := ih (i + 1) t c v h
   refine ⟨h1, by omega, ?_⟩
   rw [show t - i = (t - (i + 1)) + 1 from by omega, List.getElem?_cons_succ]; exact h3
theorem sees_args {n : Nat} {args : Array Value} (h : args.size ≤ n) : Sees ⟨n, [], none⟩ (argEnv 0 args.toList) { tmps := args ++ Array.replicate (n - args.size) undef, defers := [] } := by
 refine ⟨rfl, by simp; omega, fun t c v ht => ?_⟩
 obtain ⟨rfl, _, h3⟩ := look_argEnv _ 0 t c v ht
 have h4 : args[t]? = some v := by simpa using h3
 have h5 : t < args.size := by
  rcases Nat.lt_or_ge t args.size with hl | hl
  ·exact hl
  ·rw [Array.getElem?_eq_none hl] at h4; cases h4
 show (args ++ _)[t]? = some v
 rw [Array.getElem?_append_left h5]; exact h4
theorem enter {f : FuncId} {fn : Func} {c : Code} {args : List Value} {R : Ending → World → Prop} {w : World} {m : Nat} (hf : P.funcs[f]? = some fn) (hb : fn.body = some c) (hn : fn.ntmps = m) (ha : Nat.ble args.length m = true)
  (hC : C w) (h : W P ⟨m, [], none⟩ c (bodyPost P fn R) (argEnv 0 args) C) : Calls P f args.toArray w R := by
 subst hn
 exact calls_of_wpp hf hb (h.run _ w (by have := sees_args (args := args.toArray) (n := fn.ntmps) (by simpa using Nat.le_of_ble_eq_true ha); simpa using this) hC)
theorem At.fin0 {m : Nat} {r : Option Nat} {fn : Func} {R : Ending → World → Prop} (hr : fn.results = #[]) (h : ∀ w, C w → R (.returned (.tuple #[])) w) : At ⟨m, [], r⟩ (bodyPost P fn R) .ret l C :=
 ⟨fun a w hs hc => ⟨hs.df, .tuple #[], by simp [results, hr], h w hc⟩⟩
theorem At.fin1 {m : Nat} {r : Option Nat} {fn : Func} {R : Ending → World → Prop} {t : Nat} {v : Value} (hr : fn.results = #[.tmp t]) (ht : look l t = some (true, v)) (h : ∀ w, C w → R (.returned v) w) : At ⟨m, [], r⟩ (bodyPost P fn R) .ret l C :=
 ⟨fun a w hs hc => ⟨hs.df, v, by have := hs.at_ t true v ht; simp [results, hr, Array.getD_eq_getD_getElem?, this], h w hc⟩⟩
theorem At.fin2 {m : Nat} {r : Option Nat} {fn : Func} {R : Ending → World → Prop} {t u : Nat} {v v' : Value} (hr : fn.results = #[.tmp t, .tmp u]) (ht : look l t = some (true, v)) (hu : look l u = some (true, v'))
  (h : ∀ w, C w → R (.returned (.tuple #[v, v'])) w) : At ⟨m, [], r⟩ (bodyPost P fn R) .ret l C :=
 ⟨fun a w hs hc => ⟨hs.df, .tuple #[v, v'], by have h1 := hs.at_ t true v ht; have h2 := hs.at_ u true v' hu; simp [results, hr, Array.getD_eq_getD_getElem?, h1, h2], h w hc⟩⟩
theorem At.end_ {fn : Func} {R : Ending → World → Prop} (h : At n (bodyPost P fn R) .ret l C) : At n (bodyPost P fn R) .normal l C := ⟨h.run⟩
/-! ### Lists of operations -/
theorem QL.nil (h : At n Q .normal l C) : QL P n ops C (fun a' => ∀ w', C w' → Q .normal a' w') [] l := ⟨fun a hs w hc => h.run a w hs hc⟩
theorem OL.nil (h : At n Q .normal l C) : OL P n ops Q [] l C := ⟨fun a w hs hc => h.run a w hs hc⟩
theorem QL.op {d : Nat} {c : Bool} {v : Value} (hg : Guard l ops o.guard c) (hd : o.dst = some d) (hn : Nat.ble (d + 1) n.n = true) (hv : Pev P n l C o c v)
  (k : QL P n ops C K rest ((d, c, v) :: l)) : QL P n ops C K (o :: rest) l := by
 have hn' := Nat.le_of_ble_eq_true hn
 refine ⟨fun a hs => ?_⟩
 unfold wpQuiet
 rw [hg.wanted hs]
 cases c with
 | true => exact ⟨v, fun w hw => hv.run rfl a w hs hw, by rw [hd]; exact k.run _ (hs.put hn' true v)⟩
 | false => rw [hd]; exact k.run _ (hs.put hn' false v)
theorem OL.op {d : Nat} {c : Bool} {v : Value} (hg : Guard l ops o.guard c) (hd : o.dst = some d) (hn : Nat.ble (d + 1) n.n = true) (hv : Pev P n l C o c v)
  (k : OL P n ops Q rest ((d, c, v) :: l) C) : OL P n ops Q (o :: rest) l C := by
 have hn' := Nat.le_of_ble_eq_true hn
 refine ⟨fun a w hs hc => ?_⟩
 unfold wpList
 rw [hg.wanted hs]
 cases c with
 | true =>
  refine .inl (Oper.wp_of_quiet (C := C) (K := fun a' => ∀ w', C w' → wpList P ops Q rest a' w') hc (fun a' w' hw' h => h w' hw') ⟨v, fun w hw => hv.run rfl a w hs hw, fun w' hw' => ?_⟩)
  rw [hd]; exact k.run _ w' (hs.put hn' true v) hw'
 | false => rw [hd]; exact k.run _ w (hs.put hn' false v) hc
theorem OL.store_ {C' : World → Prop} (hg : o.guard = none) (hd : o.dst = none) (hv : ∀ a w, Sees n l a → C w → ∃ w', (execOp a.eval o).run P w = .ok .skip w' ∧ C' w')
  (k : OL P n ops Q rest l C') : OL P n ops Q (o :: rest) l C := by
 refine ⟨fun a w hs hc => ?_⟩
 refine wpList_plain hg fun K hK => ?_
 obtain ⟨w', hr, hc'⟩ := hv a w hs hc
 show Oper.upon P o a K Q ((execOp a.eval o).run P w)
 rw [hr]
 show K (a.put o.dst undef) w'
 rw [hd]
 exact hK _ _ (k.run a w' hs hc')
/-! ### Several steps at once -/
theorem OL.nx {y : Code} (h : W P n y Q l C) : OL P n ops (Exit.then (wpp n.r P y Q) Q) [] l C := OL.nil (At.next h)
theorem W.sr {id : Nat} {l0 : List Oper} {y : Code} (h : OL P n l0.toArray (Exit.then (wpp n.r P y Q) Q) l0 l C) : W P n (.seq (.region id l0.toArray false) y) Q l C := W.seq (W.reg h)
theorem OL.nsr {id : Nat} {l0 : List Oper} {y : Code} (h : OL P n l0.toArray (Exit.then (wpp n.r P y Q) Q) l0 l C) : OL P n ops (Exit.then (wpp n.r P (Code.seq (.region id l0.toArray false) y) Q) Q) [] l C := OL.nx (W.sr h)
theorem W.sk {y : Code} (h : W P n y Q l C) : W P n .skip (Exit.then (wpp n.r P y Q) Q) l C := W.skip (At.next h)
theorem W.sb {id : Nat} {c y : Code} (h : W P n c (Exit.inBlock id (Exit.then (wpp n.r P y Q) Q)) l C) : W P n (.seq (.block id c) y) Q l C := W.seq (W.block h)
inductive Rch : (Exit → Act → World → Prop) → (Exit → Act → World → Prop) → Prop where
 | nil {Q : Exit → Act → World → Prop} : Rch Q Q
 | th {k : Act → World → Prop} {Q Q' : Exit → Act → World → Prop} (h : Rch Q Q') : Rch (Exit.then k Q) Q'
 | bl {id : Nat} {Q Q' : Exit → Act → World → Prop} (h : Rch Q Q') : Rch (Exit.inBlock id Q) Q'
theorem Rch.ret {Q' : Exit → Act → World → Prop} (h : Rch Q Q') (k : At n Q' .ret l C) : At n Q .ret l C := by
 induction h with
 | nil => exact k
 | th _ ih => exact At.then_ret (ih k)
 | bl _ ih => exact At.in_ret (ih k)
theorem W.rt {Q' : Exit → Act → World → Prop} (h : At n Q' .ret l C) (hr : Rch Q Q' := by (repeat (first | with_reducible apply Rch.th | with_reducible apply Rch.bl | exact Rch.nil)); first | done | fail) : W P n .ret Q l C := W.ret (hr.ret h)
inductive Ech (id : Nat) : (Exit → Act → World → Prop) → (Exit → Act → World → Prop) → Prop where
 | hit {Q : Exit → Act → World → Prop} : Ech id (Exit.inBlock id Q) Q
 | th {k : Act → World → Prop} {Q Q' : Exit → Act → World → Prop} (h : Ech id Q Q') : Ech id (Exit.then k Q) Q'
 | bl {id' : Nat} {Q Q' : Exit → Act → World → Prop} (hne : Nat.beq id id' = false) (h : Ech id Q Q') : Ech id (Exit.inBlock id' Q) Q'
theorem Ech.exit {id : Nat} {Q' : Exit → Act → World → Prop} (h : Ech id Q Q') (k : At n Q' .normal l C) : At n Q (.exit id) l C := by
 induction h with
 | hit => exact At.in_exit k
 | th _ ih => exact At.then_exit (ih k)
 | bl hne _ ih => exact At.in_other hne (ih k)
theorem W.xt {id : Nat} {Q' : Exit → Act → World → Prop} (h : At n Q' .normal l C) (he : Ech id Q Q' := by (repeat (first | with_reducible exact Ech.hit | with_reducible apply Ech.th | (with_reducible apply Ech.bl; rfl))); first | done | fail) : W P n (.exit id) Q l C := W.exit (he.exit h)
theorem W.cnd {x : Operand} {y z : Code} {b : Bool} {p q : Prop} (ht : p → W P n y Q l C) (hf : q → W P n z Q l C) (hx : evl l x = some (true, .bool b) := by rfl)
  (hp : (b = true) = p := by ((try simp only [Bool.and_eq_true, Bool.or_eq_true, Bool.not_eq_true', Bool.and_eq_false_iff, Bool.or_eq_false_iff, Bool.not_eq_false', decide_eq_true_eq, decide_eq_false_iff_not, Int.not_lt, Int.not_le]); rfl))
  (hq : (b = false) = q := by ((try simp only [Bool.and_eq_true, Bool.or_eq_true, Bool.not_eq_true', Bool.and_eq_false_iff, Bool.or_eq_false_iff, Bool.not_eq_false', decide_eq_true_eq, decide_eq_false_iff_not, Int.not_lt, Int.not_le]); rfl)) : W P n (.cond x y z) Q l C :=
 W.cond hx (fun h => ht (hp ▸ h)) (fun h => hf (hq ▸ h))
section
variable {dd : Nat} {v : Value} {b : Bool} {op : Op} {ty : TypeId} {pos : String} {af : Array Edge} {j d : Nat}
theorem oop (hn : Nat.ble (dd + 1) n.n = true) (hv : Pev P n l C ⟨some dd, op, ty, pos, af, none⟩ true v) (k : OL P n ops Q rest ((dd, true, v) :: l) C) : OL P n ops Q (⟨some dd, op, ty, pos, af, none⟩ :: rest) l C := OL.op Guard.none rfl hn hv k
theorem oy (hd : (ops[j]?).bind (·.dst) = some d) (h : look l d = some (true, .bool b)) (hn : Nat.ble (dd + 1) n.n = true) (hv : Pev P n l C ⟨some dd, op, ty, pos, af, some (j, true)⟩ b v) (k : OL P n ops Q rest ((dd, b, v) :: l) C) : OL P n ops Q (⟨some dd, op, ty, pos, af, some (j, true)⟩ :: rest) l C := OL.op (Guard.yes hd h) rfl hn hv k
theorem ono (hd : (ops[j]?).bind (·.dst) = some d) (h : look l d = some (true, .bool b)) (hn : Nat.ble (dd + 1) n.n = true) (hv : Pev P n l C ⟨some dd, op, ty, pos, af, some (j, false)⟩ (!b) v) (k : OL P n ops Q rest ((dd, !b, v) :: l) C) : OL P n ops Q (⟨some dd, op, ty, pos, af, some (j, false)⟩ :: rest) l C := OL.op (Guard.no hd h) rfl hn hv k
theorem qop (hn : Nat.ble (dd + 1) n.n = true) (hv : Pev P n l C ⟨some dd, op, ty, pos, af, none⟩ true v) (k : QL P n ops C K rest ((dd, true, v) :: l)) : QL P n ops C K (⟨some dd, op, ty, pos, af, none⟩ :: rest) l := QL.op Guard.none rfl hn hv k
theorem qy (hd : (ops[j]?).bind (·.dst) = some d) (h : look l d = some (true, .bool b)) (hn : Nat.ble (dd + 1) n.n = true) (hv : Pev P n l C ⟨some dd, op, ty, pos, af, some (j, true)⟩ b v) (k : QL P n ops C K rest ((dd, b, v) :: l)) : QL P n ops C K (⟨some dd, op, ty, pos, af, some (j, true)⟩ :: rest) l := QL.op (Guard.yes hd h) rfl hn hv k
theorem qno (hd : (ops[j]?).bind (·.dst) = some d) (h : look l d = some (true, .bool b)) (hn : Nat.ble (dd + 1) n.n = true) (hv : Pev P n l C ⟨some dd, op, ty, pos, af, some (j, false)⟩ (!b) v) (k : QL P n ops C K rest ((dd, !b, v) :: l)) : QL P n ops C K (⟨some dd, op, ty, pos, af, some (j, false)⟩ :: rest) l := QL.op (Guard.no hd h) rfl hn hv k
end
end
end Go.Eng

/- The rules for operations: moves, arithmetic, comparisons, addresses, loads, calls, new blocks, stores. General: any program P. No condition. -/
namespace Go.Eng
open Go.RowKit
/-! ### What is read off the program's types -/
def lit : Nat → Option Nat
 | 0 => some 0 | 1 => some 1 | 2 => some 2 | 3 => some 3 | 4 => some 4 | 5 => some 5 | 6 => some 6 | 7 => some 7 | 8 => some 8 | 9 => some 9 | 10 => some 10 | 11 => some 11 | 12 => some 12 | 13 => some 13 | 14 => some 14 | 15 => some 15 | 16 => some 16 | 17 => some 17 | 18 => some 18 | 19 => some 19 | 20 => some 20 | 21 => some 21 | 22 => some 22 | 23 => some 23 | 24 => some 24 | 25 => some 25 | 26 => some 26 | 27 => some 27 | 28 => some 28 | 29 => some 29 | 30 => some 30 | 31 => some 31 | 32 => some 32 | 33 => some 33 | 34 => some 34 | 35 => some 35 | 36 => some 36 | 37 => some 37 | 38 => some 38 | 39 => some 39 | 40 => some 40 | 41 => some 41 | 42 => some 42 | 43 => some 43 | 44 => some 44 | 45 => some 45 | 46 => some 46 | 47 => some 47 | 48 => some 48 | 49 => some 49 | 50 => some 50 | 51 => some 51 | 52 => some 52 | 53 => some 53 | 54 => some 54 | 55 => some 55 | 56 => some 56 | 57 => some 57 | 58 => some 58 | 59 => some 59 | 60 => some 60 | 61 => some 61 | 62 => some 62 | 63 => some 63 | 64 => some 64 | 65 => some 65 | 66 => some 66 | 67 => some 67 | 68 => some 68 | 69 => some 69 | 70 => some 70 | 71 => some 71 | 72 => some 72 | 73 => some 73 | 74 => some 74 | 75 => some 75 | 76 => some 76 | 77 => some 77 | 78 => some 78 | 79 => some 79 | 80 => some 80 | 81 => some 81 | 82 => some 82 | 83 => some 83 | 84 => some 84 | 85 => some 85 | 86 => some 86 | 87 => some 87 | 88 => some 88 | 89 => some 89 | 90 => some 90 | 91 => some 91 | 92 => some 92 | 93 => some 93 | 94 => some 94 | 95 => some 95 | 96 => some 96 | 97 => some 97 | 98 => some 98 | 99 => some 99 | 100 => some 100 | 101 => some 101 | 102 => some 102 | 103 => some 103 | 104 => some 104 | 105 => some 105 | 106 => some 106 | 107 => some 107 | 108 => some 108 | 109 => some 109 | 110 => some 110 | 111 => some 111 | 112 => some 112 | 113 => some 113 | 114 => some 114 | 115 => some 115 | 116 => some 116 | 117 => some 117 | 118 => some 118 | 119 => some 119 | 120 => some 120 | 121 => some 121 | 122 => some 122 | 123 => some 123 | 124 => some 124 | 125 => some 125 | 126 => some 126 | 127 => some 127 | 128 => some 128
 | _ => none
theorem lit_eq {a b : Nat} (h : lit a = some b) : a = b := by
 unfold lit at h
 split at h <;> simp_all
def scalB (P : Program) (t : TypeId) : Bool := match P.underlying t with | some (.struct _) => false | some (.array ..) => false | some _ => true | none => false
def sizeN (P : Program) (t : TypeId) : Option Nat := match P.info? t with | some i => lit i.size | none => none
def aggN (P : Program) (t : TypeId) : Option Nat := match P.underlying t with
 | some (.struct _) => sizeN P t
 | some (.array ..) => sizeN P t
 | _ => none
def fldAt (P : Program) (t : TypeId) (i : Nat) : Option Nat := match P.underlying t with
 | some (.struct fs) => match fs[i]? with
  | some f => match sizeN P f.type with
   | some 0 => none
   | some (_ + 1) => lit f.offset
   | none => none
  | none => none
 | _ => none
def slElem (P : Program) (t : TypeId) : Option (TypeId × Nat) := match P.underlying t with
 | some (.slice e) => match sizeN P e with
  | some k => some (e, k)
  | none => none
 | _ => none
def arrElem (P : Program) (t : TypeId) : Option (Nat × Nat) := match P.underlying t with
 | some (.array n e) => match sizeN P e with
  | some k => some (n, k)
  | none => none
 | _ => none
def boolB (P : Program) (t : TypeId) : Bool := match P.underlying t with | some .bool => true | _ => false
def callable (P : Program) (f : FuncId) : Bool := match P.funcs[f]? with | some fn => !(fn.name == "runtime.NumGoroutine") && fn.body.isSome | none => false
section types
variable {P : Program} {t : TypeId}
theorem run_isAgg_scal (h : scalB P t = true) (w : World) : (isAgg t).run P w = .ok false w := by
 unfold scalB at h
 cases hu : P.underlying t with
 | none => simp [hu] at h
 | some d =>
  unfold isAgg
  rw [Sem.run_bind, run_underlying hu w]
  rw [hu] at h
  cases d <;> simp_all
theorem sizeN_info {k : Nat} (h : sizeN P t = some k) : ∃ i, P.info? t = some i ∧ i.size = k := by
 unfold sizeN at h
 cases hq : P.info? t with
 | none => simp [hq] at h
 | some i => rw [hq] at h; exact ⟨i, rfl, lit_eq h⟩
theorem aggN_info {k : Nat} (h : aggN P t = some k) : ∃ d, P.underlying t = some d ∧ (match d with | .struct _ | .array _ _ => true | _ => false) = true ∧ sizeN P t = some k := by
 unfold aggN at h
 cases hu : P.underlying t with
 | none => simp [hu] at h
 | some d =>
  refine ⟨d, rfl, ?_⟩
  rw [hu] at h
  cases d <;> simp_all
theorem run_isAgg_agg {k : Nat} (h : aggN P t = some k) (w : World) : (isAgg t).run P w = .ok true w := by
 obtain ⟨d, hu, hd, _⟩ := aggN_info h
 unfold isAgg
 rw [Sem.run_bind, run_underlying hu w]
 cases d <;> simp_all
theorem run_sizeN {k : Nat} (h : sizeN P t = some k) (w : World) : (sizeOf t).run P w = .ok k w := by
 obtain ⟨i, hq, hs⟩ := sizeN_info h
 simp [sizeOf, typeInfo, hq, hs]
theorem aggN_size {k : Nat} (h : aggN P t = some k) : sizeN P t = some k := (aggN_info h).choose_spec.2.2
theorem run_loadVar_scal (h : scalB P t = true) {w : World} {a : Addr} {v : Value} (hc : w.cell? a = some v) : (loadVar t a).run P w = .ok v w := by
 simp [loadVar, Sem.run_bind, run_isAgg_scal h, hc]
def CellsAt (w : World) (a : Addr) (vs : List Value) : Prop := ∀ j v, vs[j]? = some v → w.cell? (a.add j) = some v
theorem run_loadVar_agg {vs : List Value} (h : aggN P t = some vs.length) {w : World} {a : Addr} (hc : CellsAt w a vs) : (loadVar t a).run P w = .ok (.agg vs.toArray) w := by
 have hl := run_loadCells_list (P := P) w a vs hc
 simp [loadVar, Sem.run_bind, run_isAgg_agg h, run_sizeN (aggN_size h), hl]
end types
theorem add_zero_ (a : Addr) : a.add 0 = a := rfl
theorem add_mid {b o : Nat} (n : Nat) : (⟨b, o, none⟩ : Addr).add n = ⟨b, o + n, none⟩ := by
 unfold Addr.add; split
 ·subst_vars; rfl
 ·rfl
theorem add_block (a : Addr) (n : Nat) : (a.add n).block = a.block := by unfold Addr.add; split <;> rfl
theorem add_add (a : Addr) (i j : Nat) : (a.add i).add j = a.add (i + j) := by
 unfold Addr.add
 by_cases hi : i = 0 <;> by_cases hj : j = 0 <;> simp [hi, hj, Nat.add_assoc]
/-! ### Values without a look at memory -/
section
variable {P : Program} {n : Nm} {l : Env} {C : World → Prop} {c : Bool} {d : Option Nat} {ty : TypeId} {pos : String} {af : Array Edge} {g : Option (Nat × Bool)}
theorem Pev.of_run {o : Oper} {v : Value} (h : c = true → ∀ a w, Sees n l a → C w → (execOp a.eval o).run P w = .ok (.value v) w) : Pev P n l C o c v :=
 ⟨fun hc a w hs hw => by rw [h hc a w hs hw]; exact ⟨rfl, rfl⟩⟩
theorem Pev.no {o : Oper} : Pev P n l C o false (.bool false) := ⟨fun h => by cases h⟩
theorem Pev.move {x : Operand} {cx : Bool} {v : Value} (hx : evl l x = some (cx, v)) (hc : c = true → cx = true) : Pev P n l C ⟨d, .move x, ty, pos, af, g⟩ c v :=
 .of_run fun h a w hs hw => by show Result.ok (Next.value (a.eval x)) w = _; rw [hs.eval hx (hc h)]
theorem Pev.assign {x : Operand} {cx : Bool} {v : Value} (hx : evl l x = some (cx, v)) (hc : c = true → cx = true) : Pev P n l C ⟨d, .assign x, ty, pos, af, g⟩ c v :=
 .of_run fun h a w hs hw => by show Result.ok (Next.value (a.eval x)) w = _; rw [hs.eval hx (hc h)]
theorem run_pick {a : Act} {w : World} {x y z : Operand} {b : Bool} (hx : a.eval x = .bool b) : (execOp a.eval ⟨d, .pick x y z, ty, pos, af, g⟩).run P w = .ok (.value (bif b then a.eval y else a.eval z)) w := by
 simp only [execOp, hx, asBool]
 cases b <;> rfl
theorem Pev.pick_and {x y : Operand} {cx cy b p : Bool} (hx : evl l x = some (cx, .bool b)) (hc : c = true → cx = true) (hy : evl l y = some (cy, .bool p)) (hcy : (c && b) = true → cy = true) :
  Pev P n l C ⟨d, .pick x y (.const (.bool false)), ty, pos, af, g⟩ c (.bool (b && p)) :=
 .of_run fun h a w hs hw => by
  rw [run_pick (hs.eval hx (hc h))]
  cases b with
  | false => rfl
  | true => rw [cond_true, hs.eval hy (hcy (by simp [h]))]; rfl
theorem Pev.pick_or {x y : Operand} {cx cy b p : Bool} (hx : evl l x = some (cx, .bool b)) (hc : c = true → cx = true) (hy : evl l y = some (cy, .bool p)) (hcy : (c && !b) = true → cy = true) :
  Pev P n l C ⟨d, .pick x (.const (.bool true)) y, ty, pos, af, g⟩ c (.bool (b || p)) :=
 .of_run fun h a w hs hw => by
  rw [run_pick (hs.eval hx (hc h))]
  cases b with
  | true => rfl
  | false => rw [cond_false, hs.eval hy (hcy (by simp [h]))]; rfl
theorem Pev.nil_ptr {x : Operand} {cx : Bool} {q : Addr} (hx : evl l x = some (cx, .pointer (some q))) (hc : c = true → cx = true) : Pev P n l C ⟨d, .nilCheck x, ty, pos, af, g⟩ c (.pointer (some q)) :=
 .of_run fun h a w hs hw => by simp only [execOp, hs.eval hx (hc h)]; rfl
/-! binary operations -/
structure Bin (P : Program) (op : BinOp) (t : TypeId) (u v r : Value) : Prop where
 run : ∀ (x y : Operand) (w : World), (do eqGuard op t x y u v; binOp op t u v : Sem Value).run P w = .ok r w
theorem Pev.bin {op : BinOp} {t yt : TypeId} {x y : Operand} {cx cy : Bool} {u v r : Value} (hx : evl l x = some (cx, u)) (hcx : c = true → cx = true) (hy : evl l y = some (cy, v)) (hcy : c = true → cy = true)
  (hb : c = true → Bin P op t u v r) : Pev P n l C ⟨d, .binOp op t x y yt, ty, pos, af, g⟩ c r :=
 .of_run fun h a w hs hw => by
  have := (hb h).run x y w
  simp only [execOp, hs.eval hx (hcx h), hs.eval hy (hcy h), Sem.run_bind, this, Result.andThen_ok]
  rfl
theorem guard_int {op : BinOp} {t : TypeId} {x y : Operand} {k k' : IntKind} {a b : Int} {w : World} : (eqGuard op t x y (.int k a) (.int k' b)).run P w = .ok () w := by cases op <;> rfl
theorem guard_bool {op : BinOp} {t : TypeId} {x y : Operand} {a b : Bool} {w : World} : (eqGuard op t x y (.bool a) (.bool b)).run P w = .ok () w := by cases op <;> rfl
variable {t : TypeId} {k : IntKind} {a b : Int}
theorem int_beq (a b : Int) : (a == b) = decide (a = b) := by by_cases h : a = b <;> simp [h]
theorem bin_int {op : BinOp} {r : Value} (h : (binOp op t (.int k a) (.int k b) : Sem Value) = pure r) : Bin P op t (.int k a) (.int k b) r := ⟨fun x y w => by
 rw [Sem.run_bind, guard_int, Result.andThen_ok, h]; rfl⟩
theorem Bin.lss : Bin P .lss t (.int k a) (.int k b) (.bool (decide (a < b))) := bin_int (by simp [binOp, Op.intCmp])
def NotLt (a b : Int) : Prop := ¬ a < b
theorem Bin.lss_nof (h : NotLt a b) : Bin P .lss t (.int k a) (.int k b) (.bool false) := bin_int (by simp only [NotLt] at h; simp [binOp, Op.intCmp, h])
theorem Bin.leq : Bin P .leq t (.int k a) (.int k b) (.bool (decide (a ≤ b))) := bin_int (by simp [binOp, Op.intCmp])
theorem Bin.gtr : Bin P .gtr t (.int k a) (.int k b) (.bool (decide (b < a))) := bin_int (by simp [binOp, Op.intCmp])
theorem Bin.geq : Bin P .geq t (.int k a) (.int k b) (.bool (decide (b ≤ a))) := bin_int (by simp [binOp, Op.intCmp])
theorem Bin.eql : Bin P .eql t (.int k a) (.int k b) (.bool (decide (a = b))) := bin_int (by simp only [binOp, Op.intCmp, ne_eq, not_true, if_false, int_beq])
theorem Bin.neq : Bin P .neq t (.int k a) (.int k b) (.bool (!decide (a = b))) := bin_int (by simp only [binOp, Op.intCmp, ne_eq, not_true, if_false, bne, int_beq])
theorem Bin.add : Bin P .add t (.int k a) (.int k b) (.int k (k.wrap (a + b))) := bin_int (by simp [binOp, Op.intArith])
theorem Bin.sub : Bin P .sub t (.int k a) (.int k b) (.int k (k.wrap (a - b))) := bin_int (by simp [binOp, Op.intArith])
theorem Bin.mul : Bin P .mul t (.int k a) (.int k b) (.int k (k.wrap (a * b))) := bin_int (by simp [binOp, Op.intArith])
theorem Bin.add_in (h : -9223372036854775808 ≤ a + b ∧ a + b ≤ 9223372036854775807) : Bin P .add t (.int .i64 a) (.int .i64 b) (.int .i64 (a + b)) := bin_int (by simp [binOp, Op.intArith, IntWalk.i64_in _ h])
theorem Bin.sub_in (h : -9223372036854775808 ≤ a - b ∧ a - b ≤ 9223372036854775807) : Bin P .sub t (.int .i64 a) (.int .i64 b) (.int .i64 (a - b)) := bin_int (by simp [binOp, Op.intArith, IntWalk.i64_in _ h])
theorem Bin.mul_in (h : -9223372036854775808 ≤ a * b ∧ a * b ≤ 9223372036854775807) : Bin P .mul t (.int .i64 a) (.int .i64 b) (.int .i64 (a * b)) := bin_int (by simp [binOp, Op.intArith, IntWalk.i64_in _ h])
theorem Bin.quo (h : b ≠ 0) : Bin P .quo t (.int k a) (.int k b) (.int k (k.wrap (a.tdiv b))) := bin_int (by simp [binOp, Op.intDiv, h])
theorem Bin.rem (h : b ≠ 0) : Bin P .rem t (.int k a) (.int k b) (.int k (a.tmod b)) := bin_int (by simp [binOp, Op.intDiv, h])
theorem Bin.quo_in (h : 0 ≤ a ∧ a ≤ 9223372036854775807 ∧ 1 ≤ b) : Bin P .quo t (.int .i64 a) (.int .i64 b) (.int .i64 (a / b)) := bin_int (by simp [binOp, Op.intDiv, IntWalk.i64_quo _ _ h]; omega)
theorem Bin.rem_in (h : 0 ≤ a ∧ 1 ≤ b) : Bin P .rem t (.int k a) (.int k b) (.int k (a % b)) := bin_int (by simp [binOp, Op.intDiv, Int.tmod_eq_emod_of_nonneg h.1]; omega)
theorem Bin.and : Bin P .and t (.int k a) (.int k b) (.int k (bits .and k a b)) := bin_int (by simp only [binOp, ne_eq, not_true, if_false]; exact intBits_and k a b)
theorem Bin.or : Bin P .or t (.int k a) (.int k b) (.int k (bits .or k a b)) := bin_int (by simp only [binOp, ne_eq, not_true, if_false]; exact intBits_or k a b)
theorem bin_shift {op : BinOp} {yk : IntKind} {r : Value} (h : (binOp op t (.int k a) (.int yk b) : Sem Value) = pure r) : Bin P op t (.int k a) (.int yk b) r := ⟨fun x y w => by
 rw [Sem.run_bind, guard_int, Result.andThen_ok, h]; rfl⟩
theorem Bin.shl {yk : IntKind} (h : 0 ≤ b ∧ b ≤ k.bits) : Bin P .shl t (.int k a) (.int yk b) (.int k (k.wrap (a * 2 ^ b.toNat))) := bin_shift (by simp only [binOp]; exact shift_shl k yk a b h.1 h.2)
theorem bytes_beq (s u : ByteArray) : (s.toList == u.toList) = decide (s = u) := by
 rw [ByteArray.toList_eq, ByteArray.toList_eq]
 by_cases h : s = u
 ·subst h; simp
 ·have h2 : ¬ s.data.toList = u.data.toList := fun e => h (by cases s; cases u; simp_all)
  rw [decide_eq_false h]; exact beq_eq_false_iff_ne.2 h2
theorem run_equalIn_bool {w : World} {p q : Bool} (dd : Nat) (hu : boolB P t = true) : (Op.equalIn (dd + 1) t (.bool p) (.bool q)).run P w = .ok (p == q) w := by
 unfold boolB at hu
 cases h : P.underlying t with
 | none => simp [h] at hu
 | some dd =>
  rw [h] at hu
  cases dd <;> simp at hu
  simp only [Op.equalIn, Sem.run_bind, run_underlying h, Result.andThen_ok]; rfl
theorem run_equal_bool {w : World} {p q : Bool} (hu : boolB P t = true) : (Op.equal t (.bool p) (.bool q)).run P w = .ok (p == q) w := run_equalIn_bool 9999 hu
theorem Bin.bool_eql {p q : Bool} (hu : boolB P t = true) : Bin P .eql t (.bool p) (.bool q) (.bool (p == q)) := ⟨fun x y w => by
 rw [Sem.run_bind, guard_bool, Result.andThen_ok]
 simp only [binOp, Sem.run_bind, run_equal_bool hu, Result.andThen_ok]; rfl⟩
theorem Bin.bool_neq {p q : Bool} (hu : boolB P t = true) : Bin P .neq t (.bool p) (.bool q) (.bool (p != q)) := ⟨fun x y w => by
 rw [Sem.run_bind, guard_bool, Result.andThen_ok]
 simp only [binOp, Sem.run_bind, run_equal_bool hu, Result.andThen_ok]; rfl⟩
theorem Pev.not {t : TypeId} {x : Operand} {cx p : Bool} (hx : evl l x = some (cx, .bool p)) (hc : c = true → cx = true) : Pev P n l C ⟨d, .unOp .not t x, ty, pos, af, g⟩ c (.bool (!p)) :=
 .of_run fun h a w hs hw => by simp only [execOp, hs.eval hx (hc h), Op.unary, Sem.run_bind]; rfl
theorem Pev.extract {x : Operand} {cx : Bool} {vs : List Value} {i : Nat} {v : Value} (hx : evl l x = some (cx, .tuple vs.toArray)) (hc : c = true → cx = true) (hv : vs[i]? = some v) : Pev P n l C ⟨d, .extract x i, ty, pos, af, g⟩ c v :=
 .of_run fun h a w hs hw => by
  have hv' : vs.toArray[i]? = some v := by simpa using hv
  simp only [execOp, hs.eval hx (hc h), Instr.extract, hv', Sem.run_bind]; rfl
theorem run_len_slice {w : World} {t ty : TypeId} {q : Option Addr} {m cp : Nat} {e : TypeId × Nat} (hu : slElem P t = some e) : (Builtin.len_ #[t] ty #[.slice q m cp]).run P w = .ok (.int .i64 m) w := by
 unfold slElem at hu
 cases h : P.underlying t with
 | none => simp [h] at hu
 | some dd =>
  rw [h] at hu
  cases dd <;> simp at hu
  simp [Builtin.len_, run_underlying h, goInt]
theorem run_builtin_len {w : World} {a : Act} {x : Operand} {t : TypeId} {v : Value} (h : (Builtin.len_ #[t] ty #[a.eval x]).run P w = .ok v w) :
  (execOp a.eval ⟨d, .call { callee := .builtin .len, args := #[x], argTypes := #[t] }, ty, pos, af, g⟩).run P w = .ok (.value v) w := by
 simp [execOp, resolve, invoke, builtin, h]
theorem Pev.len_slice {t : TypeId} {x : Operand} {cx : Bool} {q : Option Addr} {m cp : Nat} {e : TypeId × Nat} (hx : evl l x = some (cx, .slice q m cp)) (hc : c = true → cx = true) (hu : slElem P t = some e) :
  Pev P n l C ⟨d, .call { callee := .builtin .len, args := #[x], argTypes := #[t] }, ty, pos, af, g⟩ c (.int .i64 m) :=
 .of_run fun h a w hs hw => run_builtin_len (by rw [hs.eval hx (hc h)]; exact run_len_slice hu)
def bt (s : ByteArray) (m : Nat) : Int := ((s.data.toList.getD m 0).toNat : Int)
end
end Go.Eng

/- The rules for memory: addresses, loads, calls, new blocks, stores. General: any program P. No condition. -/
namespace Go.Eng
open Go.RowKit
inductive NotOwned : List Item → Nat → Prop where
 | nil {k : Nat} : NotOwned [] k
 | blk {b : Nat} {t : TypeId} {c : List Value} {H : List Item} {k : Nat} (h : k ≠ b) (r : NotOwned H k) : NotOwned (blk b t c :: H) k
 | any {i : Item} {H : List Item} {k : Nat} (h : ¬ i.own k) (r : NotOwned H k) : NotOwned (i :: H) k
theorem NotOwned.not {H : List Item} {k : Nat} (h : NotOwned H k) : ¬ owned H k := by
 induction h with
 | nil => rintro ⟨i, hi, _⟩; cases hi
 | @blk b t c H k h r ih =>
  rintro ⟨i, hi, hk⟩
  cases hi with
  | head => exact h hk
  | tail _ hi => exact ih ⟨i, hi, hk⟩
 | @any i H k h r ih =>
  rintro ⟨j, hj, hk⟩
  cases hj with
  | head => exact h hk
  | tail _ hj => exact ih ⟨j, hj, hk⟩
inductive Take : Nat → List Value → List Value → Prop where
 | zero {l : List Value} : Take 0 l []
 | succ {k : Nat} {v : Value} {l r : List Value} (h : Take k l r) : Take (k + 1) (v :: l) (v :: r)
theorem Take.get {k : Nat} {l r : List Value} (h : Take k l r) : r.length = k ∧ ∀ (j : Nat) (v : Value), r[j]? = some v → l[j]? = some v := by
 induction h with
 | zero => exact ⟨rfl, fun j v hv => by simp at hv⟩
 | @succ k v l r _ ih =>
  refine ⟨by simp [ih.1], fun j u hu => ?_⟩
  cases j with
  | zero => simpa using hu
  | succ j => exact ih.2 j u (by simpa using hu)
inductive CellsL : Value → List Value → Prop where
 | one {v : Value} (h : v.cells = #[v]) : CellsL v [v]
 | agg {c : List Value} : CellsL (.agg c.toArray) c
theorem CellsL.eq {v : Value} {cs : List Value} (h : CellsL v cs) : v.cells = cs.toArray := by
 cases h with
 | one h => exact h
 | agg => rfl
inductive Over : List Value → List Value → List Value → Prop where
 | nil {l : List Value} : Over l [] l
 | cons {x v : Value} {l vs r : List Value} (h : Over l vs r) : Over (x :: l) (v :: vs) (v :: r)
inductive Put : List Value → Nat → List Value → List Value → Prop where
 | here {l vs r : List Value} (h : Over l vs r) : Put l 0 vs r
 | skip {x : Value} {l vs r : List Value} {o : Nat} (h : Put l o vs r) : Put (x :: l) (o + 1) vs (x :: r)
def putL : List Value → Nat → List Value → List Value
 | l, _, [] => l
 | l, o, v :: r => putL (l.set o v) (o + 1) r
theorem putL_cons : ∀ (vs : List Value) (x : Value) (l : List Value) (o : Nat), putL (x :: l) (o + 1) vs = x :: putL l o vs
 | [], _, _, _ => rfl
 | v :: vs, x, l, o => by rw [putL, List.set_cons_succ, putL_cons, putL]
theorem Over.eq {l vs r : List Value} (h : Over l vs r) : vs.length ≤ l.length ∧ putL l 0 vs = r := by
 induction h with
 | nil => exact ⟨by simp, rfl⟩
 | @cons x v l vs r h ih => exact ⟨by simp [ih.1], by rw [putL, List.set_cons_zero, putL_cons, ih.2]⟩
theorem Put.eq {l vs r : List Value} {o : Nat} (h : Put l o vs r) : o + vs.length ≤ l.length ∧ putL l o vs = r := by
 induction h with
 | here h => exact ⟨by have := h.eq.1; omega, h.eq.2⟩
 | @skip x l vs r o h ih => exact ⟨by have := ih.1; simp; omega, by rw [putL_cons, ih.2]⟩
inductive Swap : Nat → List Item → Item → Item → List Item → Prop where
 | z {i j : Item} {H : List Item} : Swap 0 (i :: H) i j (j :: H)
 | s {p : Nat} {k i j : Item} {H H' : List Item} (h : Swap p H i j H') : Swap (p + 1) (k :: H) i j (k :: H')
theorem Swap.eq {p : Nat} {H H' : List Item} {i j : Item} (h : Swap p H i j H') : H[p]? = some i ∧ H' = H.set p j := by
 induction h with
 | z => exact ⟨rfl, rfl⟩
 | @s p k i j H H' h ih => exact ⟨by simpa using ih.1, by rw [List.set_cons_succ, ← ih.2]⟩
def AllLe : List World → Nat → Prop
 | [], _ => True
 | s :: r, b => s.heap.size ≤ b ∧ AllLe r b
theorem AllLe.mk {H : List Item} {S : List World} {w : World} (h : Cls H S w) : AllLe S w.heap.size := by
 have := h.kp
 clear h
 induction S with
 | nil => trivial
 | cons s S ih => exact ⟨(this s (.head _)).size, ih fun x hx => this x (.tail _ hx)⟩
/-! what a tactic finds by itself, as an argument that is filled in -/
theorem NotOwned.au {H : List Item} {k : Nat} (h : NotOwned H k := by (focus ((try simp only [add_block]); (repeat (first | exact NotOwned.nil | exact hno _ (by omega) | refine NotOwned.nothing ?_ | refine NotOwned.nds (hlow _ (by omega)) ?_ | refine NotOwned.mapS (by omega) ?_ | apply NotOwned.bif | refine NotOwned.blk (by omega) ?_ | refine NotOwned.row (by omega) ?_ | refine NotOwned.grid (by assumption) (by omega) ?_ | refine NotOwned.pile (by omega) ?_ | refine NotOwned.pool (by omega) ?_ | refine NotOwned.mapI (by omega) ?_ | refine NotOwned.mapX (by omega) ?_ | refine NotOwned.itI (by omega) ?_)); first | done | fail))) : NotOwned H k := h
theorem mau {α : Type} {x : α} {l : List α} (h : x ∈ l := by (repeat (first | exact List.Mem.head _ | apply List.Mem.tail)); first | done | fail) : x ∈ l := h
theorem Take.au {k : Nat} {l r : List Value} (h : Take k l r := by (repeat (first | apply Take.zero | apply Take.succ)); first | done | fail) : Take k l r := h
theorem Put.au {l vs r : List Value} {o : Nat} (h : Put l o vs r := by (repeat (first | apply Over.nil | apply Over.cons | apply Put.here | apply Put.skip)); first | done | fail) : Put l o vs r := h
theorem Swap.au {p : Nat} {H H' : List Item} {i j : Item} (h : Swap p H i j H' := by (repeat (first | apply Swap.z | apply Swap.s)); first | done | fail) : Swap p H i j H' := h
section
variable {P : Program} {n : Nm} {l : Env} {H : List Item} {S : List World} {C : World → Prop} {c : Bool} {d : Option Nat} {ty : TypeId} {pos : String} {af : Array Edge} {g : Option (Nat × Bool)}
variable {t : TypeId} {x y : Operand} {cx cy : Bool}
/-! addresses -/
theorem run_fieldAt {i off : Nat} {a : Addr} {w : World} (hf : fldAt P t i = some off) : (Instr.fieldAt t (.pointer (some a)) i).run P w = .ok (.pointer (some (a.add off))) w := by
 unfold fldAt at hf
 cases hu : P.underlying t with
 | none => simp [hu] at hf
 | some dd =>
  rw [hu] at hf
  cases dd <;> simp only [reduceCtorEq] at hf
  rename_i fs
  cases hq : fs[i]? with
  | none => simp [hq] at hf
  | some f =>
   rw [hq] at hf
   simp only at hf
   cases hz : sizeN P f.type with
   | none => simp [hz] at hf
   | some k =>
    rw [hz] at hf
    cases k with
    | zero => simp at hf
    | succ k =>
     have hf := lit_eq hf
     subst hf
     simp [Instr.fieldAt, run_underlying hu, hq, Instr.sureAddr, fieldPlace, run_sizeN hz]
theorem Pev.fld {i off b o : Nat} (hx : evl l x = some (cx, .pointer (some ⟨b, o, none⟩))) (hc : c = true → cx = true) (hf : fldAt P t i = some off) : Pev P n l C ⟨d, .fieldAddr t x i, ty, pos, af, g⟩ c (.pointer (some ⟨b, o + off, none⟩)) :=
 .of_run fun h a w hs hw => by simp only [execOp, hs.eval hx (hc h), Sem.run_bind, run_fieldAt hf, Result.andThen_ok, add_mid]; rfl
theorem Pev.fldA {i off : Nat} {q : Addr} (hx : evl l x = some (cx, .pointer (some q))) (hc : c = true → cx = true) (hf : fldAt P t i = some off) : Pev P n l C ⟨d, .fieldAddr t x i, ty, pos, af, g⟩ c (.pointer (some (q.add off))) :=
 .of_run fun h a w hs hw => by simp only [execOp, hs.eval hx (hc h), Sem.run_bind, run_fieldAt hf, Result.andThen_ok]; rfl
theorem run_indexAt_slice {e : TypeId} {sz m len cp : Nat} {ki : IntKind} {a : Addr} {w : World} (hu : slElem P t = some (e, sz)) (hm : m < len) : (Instr.indexAt t (.slice (some a) len cp) (.int ki (m : Int))).run P w = .ok (.pointer (some (a.add (m * sz)))) w := by
 unfold slElem at hu
 cases h1 : P.underlying t with
 | none => simp [h1] at hu
 | some dd =>
  rw [h1] at hu
  cases dd <;> simp only [reduceCtorEq] at hu
  rename_i e'
  cases h2 : sizeN P e' with
  | none => simp [h2] at hu
  | some k =>
   rw [h2] at hu
   simp only [Option.some.injEq, Prod.mk.injEq] at hu
   obtain ⟨rfl, rfl⟩ := hu
   simp [Instr.indexAt, asIntOf, run_underlying h1, run_sizeN h2, hm]
theorem Pev.idx {e : TypeId} {sz m len cp : Nat} {ki : IntKind} {i : Int} {q : Addr} (hx : evl l x = some (cx, .slice (some q) len cp)) (hcx : c = true → cx = true) (hy : evl l y = some (cy, .int ki i)) (hcy : c = true → cy = true)
  (hu : slElem P t = some (e, sz)) (hi : i = (m : Int)) (hm : c = true → m < len) : Pev P n l C ⟨d, .indexAddr t x y, ty, pos, af, g⟩ c (.pointer (some (q.add (m * sz)))) :=
 .of_run fun h a w hs hw => by
  subst hi
  simp only [execOp, hs.eval hx (hcx h), hs.eval hy (hcy h), Sem.run_bind, run_indexAt_slice hu (hm h), Result.andThen_ok]; rfl
theorem Pev.idxB {e : TypeId} {sz m len cp b o : Nat} {ki : IntKind} {i : Int} (hx : evl l x = some (cx, .slice (some ⟨b, o, none⟩) len cp)) (hcx : c = true → cx = true) (hy : evl l y = some (cy, .int ki i)) (hcy : c = true → cy = true)
  (hu : slElem P t = some (e, sz)) (hi : c = true → 0 ≤ i ∧ i < len) (hm : i.toNat = m) : Pev P n l C ⟨d, .indexAddr t x y, ty, pos, af, g⟩ c (.pointer (some ⟨b, o + m * sz, none⟩)) :=
 .of_run fun h a w hs hw => by
  obtain ⟨h1, h2⟩ := hi h
  have e : i = (m : Int) := by omega
  subst e
  simp only [execOp, hs.eval hx (hcx h), hs.eval hy (hcy h), Sem.run_bind, run_indexAt_slice hu (show m < len by omega), Result.andThen_ok, add_mid]; rfl
/-! loads -/
theorem run_loadAt {w : World} {a : Addr} {v : Value} (h : (loadVar t a).run P w = .ok v w) : (Instr.loadAt t (.pointer (some a))).run P w = .ok v w := by simp [Instr.loadAt, Instr.sureAddr, h]
theorem Pev.load_of {q : Addr} {v : Value} (hx : evl l x = some (cx, .pointer (some q))) (hcx : c = true → cx = true) (h : c = true → ∀ w, C w → (loadVar t q).run P w = .ok v w) : Pev P n l C ⟨d, .load t x, ty, pos, af, g⟩ c v :=
 .of_run fun hc a w hs hw => by simp only [execOp, hs.eval hx (hcx hc), Sem.run_bind, run_loadAt (h hc w hw), Result.andThen_ok]; rfl
theorem Cls.item {w : World} (h : Cls H S w) {i : Item} (hp : i ∈ H) : i.holds w := h.holds i hp
theorem Pev.load_blk {b o : Nat} {t' : TypeId} {cs : List Value} {v : Value} (hx : evl l x = some (cx, .pointer (some ⟨b, o, none⟩))) (hcx : c = true → cx = true)
  (hp : blk b t' cs ∈ H) (hs : scalB P t = true) (hv : cs[o]? = some v) : Pev P n l (Cls H S) ⟨d, .load t x, ty, pos, af, g⟩ c v :=
 .load_of hx hcx fun _ w hw => run_loadVar_scal hs (by rw [blk_cell (hw.item hp)]; exact hv)
theorem Pev.load_blkA {b o k : Nat} {t' : TypeId} {cs vs : List Value} (hx : evl l x = some (cx, .pointer (some ⟨b, o, none⟩))) (hcx : c = true → cx = true)
  (hp : blk b t' cs ∈ H) (hs : aggN P t = some k) (hv : Take k (cs.drop o) vs) : Pev P n l (Cls H S) ⟨d, .load t x, ty, pos, af, g⟩ c (.agg vs.toArray) :=
 .load_of hx hcx fun _ w hw => run_loadVar_agg (by rw [hv.get.1]; exact hs) fun j v hj => by
  rw [add_mid, blk_cell (hw.item hp)]
  have := hv.get.2 j v hj
  rwa [List.getElem?_drop] at this
theorem Cls.cell {w s : World} (h : Cls H S w) (hq : s ∈ S) {a : Addr} (hlt : a.block < s.heap.size) (hno : NotOwned H a.block) : w.cell? a = s.cell? a :=
 World.cell?_of_block ((h.kp s hq).block a.block hlt hno.not)
theorem Pev.load_kept {s : World} {a : Addr} {v : Value} (hx : evl l x = some (cx, .pointer (some a))) (hcx : c = true → cx = true) (hq : s ∈ S) (hs : scalB P t = true)
  (hv : c = true → s.cell? a = some v) (hlt : c = true → a.block < s.heap.size) (hno : c = true → NotOwned H a.block) : Pev P n l (Cls H S) ⟨d, .load t x, ty, pos, af, g⟩ c v :=
 .load_of hx hcx fun h w hw => run_loadVar_scal hs (by rw [hw.cell hq (hlt h) (hno h)]; exact hv h)
theorem Pev.load_keptA {s : World} {a : Addr} {vs : List Value} {k : Nat} (hx : evl l x = some (cx, .pointer (some a))) (hcx : c = true → cx = true) (hq : s ∈ S) (hs : aggN P t = some k)
  (hv : c = true → CellsAt s a vs) (hk : vs.length = k) (hlt : c = true → a.block < s.heap.size) (hno : c = true → NotOwned H a.block) : Pev P n l (Cls H S) ⟨d, .load t x, ty, pos, af, g⟩ c (.agg vs.toArray) :=
 .load_of hx hcx fun h w hw => run_loadVar_agg (by rw [hk]; exact hs) fun j v hj => by
  rw [hw.cell hq (by rw [add_block]; exact hlt h) (by rw [add_block]; exact hno h)]; exact hv h j v hj
theorem CellsAt.at_ {s : World} {a : Addr} {vs : List Value} (h : CellsAt s a vs) {j : Nat} {v : Value} (hj : vs[j]? = some v) : s.cell? (a.add j) = some v := h j v hj
/-! calls -/
inductive Args (l : Env) (c : Bool) : List Operand → List Value → Prop where
 | nil : Args l c [] []
 | cons {x : Operand} {cx : Bool} {v : Value} {xs : List Operand} {vs : List Value} (hx : evl l x = some (cx, v)) (hc : c = true → cx = true) (r : Args l c xs vs) : Args l c (x :: xs) (v :: vs)
theorem Args.au {l : Env} {c : Bool} {xs : List Operand} {vs : List Value} (h : Args l c xs vs := by (repeat (first | exact Args.nil | (apply Args.cons rfl; (first | exact fun _ => rfl | exact fun h => h | (intro h; simp_all; done))))); first | done | fail) : Args l c xs vs := h
theorem Args.map {a : Act} (hs : Sees n l a) (hc : c = true) {xs : List Operand} {vs : List Value} (h : Args l c xs vs) : xs.map a.eval = vs := by
 induction h with
 | nil => rfl
 | cons hx hcx r ih => rw [List.map_cons, hs.eval hx (hcx hc), ih]
theorem run_callFunc_body {f : FuncId} (h : callable P f = true) (args : Array Value) (w : World) : (callFunc f args).run P w = .ok (.enter f args) w := by
 unfold callable at h
 cases hf : P.funcs[f]? with
 | none => simp [hf] at h
 | some fn =>
  rw [hf] at h
  simp only [Bool.and_eq_true, Bool.not_eq_true', Option.isSome_iff_ne_none] at h
  have hb : fn.body ≠ none := h.2
  have hnm : ¬ fn.name = "runtime.NumGoroutine" := by simpa using h.1
  simp [callFunc, hf, hnm, hb]
theorem run_call {f : FuncId} {args : Array Operand} {ats : Array TypeId} {a : Act} {w : World} (h : callable P f = true) :
  (execOp a.eval ⟨d, .call { callee := .value (.func f), args := args, argTypes := ats }, ty, pos, af, g⟩).run P w = .ok (.enter f (args.map a.eval)) w := by
 simp only [execOp, resolve, Act.eval, Deferred.ofValue, invoke, Sem.run_bind, Sem.run_pure, Result.andThen_ok]
 simpa using run_callFunc_body h (args.map a.eval) w
theorem run_callv {f : FuncId} {first cap : Array Value} {args : Array Operand} {ats : Array TypeId} {a : Act} {w : World} (h : callable P f = true) (hx : a.eval x = .func (.func f) first cap) :
  (execOp a.eval ⟨d, .call { callee := .value x, args := args, argTypes := ats }, ty, pos, af, g⟩).run P w = .ok (.enter f (first ++ args.map a.eval ++ cap)) w := by
 simp only [execOp, resolve, hx, Deferred.ofValue, invoke, Sem.run_bind, Sem.run_pure, Result.andThen_ok]
 exact run_callFunc_body h _ w
theorem Pev.call {f : FuncId} {args : List Operand} {vs : List Value} {ats : Array TypeId} {v : Value} (hf : callable P f = true) (ha : Args l c args vs)
  (h : c = true → ∀ w, C w → Calls P f vs.toArray w fun e w' => e = .returned v ∧ C w') :
  Pev P n l C ⟨d, .call { callee := .value (.func f), args := args.toArray, argTypes := ats }, ty, pos, af, g⟩ c v :=
 ⟨fun hc a w hs hw => by
  rw [run_call hf]
  refine ⟨rfl, ?_⟩
  rw [List.map_toArray, ha.map hs hc]
  exact h hc w hw⟩
theorem Pev.callv {f : FuncId} {first cap : List Value} {args : List Operand} {vs : List Value} {ats : Array TypeId} {v : Value} (hx : evl l x = some (cx, .func (.func f) first.toArray cap.toArray)) (hcx : c = true → cx = true)
  (hf : callable P f = true) (ha : Args l c args vs)
  (h : c = true → ∀ w, C w → Calls P f (first ++ vs ++ cap).toArray w fun e w' => e = .returned v ∧ C w') :
  Pev P n l C ⟨d, .call { callee := .value x, args := args.toArray, argTypes := ats }, ty, pos, af, g⟩ c v :=
 ⟨fun hc a w hs hw => by
  rw [run_callv hf (hs.eval hx (hcx hc))]
  refine ⟨rfl, ?_⟩
  rw [List.map_toArray, ha.map hs hc]
  simpa using h hc w hw⟩
variable {ops : Array Oper} {rest : List Oper} {Q : Exit → Act → World → Prop}
theorem OL.call {f : FuncId} {args : List Operand} {vs : List Value} {ats : Array TypeId} {dd : Nat} (hn : Nat.ble (dd + 1) n.n = true) (hf : callable P f = true) (ha : Args l true args vs)
  (R : Value → World → Prop) (h : ∀ w, C w → Calls P f vs.toArray w fun e w' => ∃ v, e = .returned v ∧ R v w')
  (k : ∀ v, OL P n ops Q rest ((dd, true, v) :: l) (R v)) : OL P n ops Q (⟨some dd, .call { callee := .value (.func f), args := args.toArray, argTypes := ats }, ty, pos, af, none⟩ :: rest) l C := by
 have hn' := Nat.le_of_ble_eq_true hn
 refine ⟨fun a w hs hc => ?_⟩
 refine wpList_plain rfl fun K hK => ?_
 show Oper.upon P _ a K Q ((execOp a.eval _).run P w)
 rw [run_call hf]
 show Calls P f _ w _
 rw [List.map_toArray, ha.map hs rfl]
 refine (h w hc).mono fun e w' ⟨v, he, hr⟩ => ?_
 subst he
 exact hK _ _ ((k v).run _ w' (hs.put hn' true v) hr)
theorem OL.callE {α : Type} (V : α → Value) (Φ : α → Prop) (C' : α → World → Prop) {f : FuncId} {args : List Operand} {vs : List Value} {ats : Array TypeId} {dd : Nat} (hn : Nat.ble (dd + 1) n.n = true) (hf : callable P f = true) (ha : Args l true args vs)
  (h : ∀ w, C w → Calls P f vs.toArray w fun e w' => ∃ x, e = .returned (V x) ∧ Φ x ∧ C' x w')
  (k : ∀ x, Φ x → OL P n ops Q rest ((dd, true, V x) :: l) (C' x)) : OL P n ops Q (⟨some dd, .call { callee := .value (.func f), args := args.toArray, argTypes := ats }, ty, pos, af, none⟩ :: rest) l C :=
 OL.call hn hf ha (fun u w => ∃ x, u = V x ∧ Φ x ∧ C' x w) (fun w hw => (h w hw).mono fun e w' ⟨x, he, hx, hc⟩ => ⟨V x, he, x, rfl, hx, hc⟩)
  (fun u => ⟨fun a w hs hc => by obtain ⟨x, rfl, hx, hc⟩ := hc; exact (k x hx).run a w hs hc⟩)
/-! new blocks -/
theorem OL.new {o : Oper} {dd : Nat} {C' : Nat → World → Prop} (hg : o.guard = none) (hd : o.dst = some dd) (hn : Nat.ble (dd + 1) n.n = true) (V : Nat → Value)
  (hv : ∀ a w, Sees n l a → C w → ∃ b w', (execOp a.eval o).run P w = .ok (.value (V b)) w' ∧ C' b w')
  (k : ∀ b, OL P n ops Q rest ((dd, true, V b) :: l) (C' b)) : OL P n ops Q (o :: rest) l C := by
 have hn' := Nat.le_of_ble_eq_true hn
 refine ⟨fun a w hs hc => ?_⟩
 refine wpList_plain hg fun K hK => ?_
 obtain ⟨b, w', hr, hc'⟩ := hv a w hs hc
 show Oper.upon P o a K Q ((execOp a.eval o).run P w)
 rw [hr]
 show K (a.put o.dst (V b)) w'
 rw [hd]
 exact hK _ _ ((k b).run _ w' (hs.put hn' true _) hc')
theorem OL.box {e : TypeId} {dd : Nat} {v : Value} {cs : List Value} (hn : Nat.ble (dd + 1) n.n = true) (hx : evl l x = some (true, v)) (hv : CellsL v cs)
  (k : ∀ b, AllLe S b → OL P n ops Q rest ((dd, true, .pointer (some ⟨b, 0, none⟩)) :: l) (Cls (blk b e cs :: H) S)) :
  OL P n ops Q (⟨some dd, .box e x, ty, pos, af, none⟩ :: rest) l (Cls H S) :=
 OL.new (C' := fun b w => AllLe S b ∧ Cls (blk b e cs :: H) S w) rfl rfl hn (fun b => .pointer (some ⟨b, 0, none⟩))
  (fun a w hs hc => ⟨w.heap.size, w.alloc (.cells v.cells e), by simp only [execOp, hs.eval hx rfl]; rfl, AllLe.mk hc, by rw [hv.eq]; exact hc.alloc e cs⟩)
  (fun b => ⟨fun a w hs hc => (k b hc.1).run a w hs hc.2⟩)
def zeroV (P : Program) (t : TypeId) : Option Value := match P.info? t with | some i => i.zero | none => none
theorem run_zeroV {v : Value} {w : World} (h : zeroV P t = some v) : (zeroValue t).run P w = .ok v w := by
 unfold zeroV at h
 cases hi : P.info? t with
 | none => simp [hi] at h
 | some i =>
  rw [hi] at h
  simp only at h
  simp [zeroValue, typeInfo, hi, h]
theorem OL.alloc {e : TypeId} {dd : Nat} {v : Value} {cs : List Value} (hn : Nat.ble (dd + 1) n.n = true) (hz : zeroV P e = some v) (hv : CellsL v cs)
  (k : ∀ b, AllLe S b → OL P n ops Q rest ((dd, true, .pointer (some ⟨b, 0, none⟩)) :: l) (Cls (blk b e cs :: H) S)) :
  OL P n ops Q (⟨some dd, .alloc e, ty, pos, af, none⟩ :: rest) l (Cls H S) :=
 OL.new (C' := fun b w => AllLe S b ∧ Cls (blk b e cs :: H) S w) rfl rfl hn (fun b => .pointer (some ⟨b, 0, none⟩))
  (fun a w hs hc => ⟨w.heap.size, w.alloc (.cells v.cells e), by
   simp only [execOp, Instr.alloc, Sem.run_bind, run_zeroV hz, Result.andThen_ok]; rfl, AllLe.mk hc, by rw [hv.eq]; exact hc.alloc e cs⟩)
  (fun b => ⟨fun a w hs hc => (k b hc.1).run a w hs hc.2⟩)
theorem Pev.idxArr {m len sz b o : Nat} {ki : IntKind} {i : Int} (hx : evl l x = some (cx, .pointer (some ⟨b, o, none⟩))) (hcx : c = true → cx = true) (hy : evl l y = some (cy, .int ki i)) (hcy : c = true → cy = true)
  (hu : arrElem P t = some (len, sz)) (hi : c = true → 0 ≤ i ∧ i < len) (hm : i.toNat = m) : Pev P n l C ⟨d, .indexAddr t x y, ty, pos, af, g⟩ c (.pointer (some ⟨b, o + m * sz, none⟩)) :=
 .of_run fun h a w hs hw => by
  obtain ⟨h1, h2⟩ := hi h
  unfold arrElem at hu
  cases hq : P.underlying t with
  | none => simp [hq] at hu
  | some d1 =>
   rw [hq] at hu
   cases d1 <;> simp only [reduceCtorEq] at hu
   rename_i len' e'
   cases h3 : sizeN P e' with
   | none => simp [h3] at hu
   | some k' =>
    rw [h3] at hu
    simp only [Option.some.injEq, Prod.mk.injEq] at hu
    obtain ⟨rfl, rfl⟩ := hu
    subst hm
    simp only [execOp, hs.eval hx (hcx h), hs.eval hy (hcy h), Instr.indexAt, asIntOf, Instr.sureAddr, Sem.run_bind, Sem.run_pure, Result.andThen_ok, run_underlying hq, run_sizeN h3]
    rw [if_pos ⟨h1, h2⟩]
    simp only [Sem.run_bind, run_sizeN h3, Result.andThen_ok, Sem.run_pure, add_mid]
/-! stores into a block that is known whole -/
def oneL : List Value → Bool
 | [] => true
 | v :: r => v.oneCell' && oneL r
theorem putL_length' : ∀ (vs l : List Value) (o : Nat), (putL l o vs).length = l.length
 | [], l, o => rfl
 | v :: r, l, o => by rw [putL, putL_length']; simp
theorem run_storeCells_blk {b o : Nat} {t : TypeId} : ∀ (vs : List Value) (i : Nat) (cs : List Value) (w : World), w.heap[b]? = some (.cells cs.toArray t (0, 0)) → o + i + vs.length ≤ cs.length → oneL vs = true →
  ∃ w', (storeCells ⟨b, o, none⟩ vs i).run P w = .ok () w' ∧ w'.heap[b]? = some (.cells (putL cs (o + i) vs).toArray t (0, 0)) ∧ Keep (fun k => k = b) w w'
 | [], i, cs, w, hg, _, _ => ⟨w, rfl, hg, .refl _ _⟩
 | v :: r, i, cs, w, hg, hl, h1 => by
  simp only [oneL, Bool.and_eq_true] at h1
  simp only [List.length_cons] at hl
  have hcell : w.cell? ⟨b, o + i, none⟩ = some (cs[o + i]'(by omega)) := by simp [World.cell?, hg]
  have hfro : w.frozen? ⟨b, o + i, none⟩ = false := by simp [World.frozen?, hg]
  have hst : (store ((⟨b, o, none⟩ : Addr).add i) v).run P w = .ok () (w.setCell ⟨b, o + i, none⟩ v) := by
   rw [add_mid, run_store P w _ v _ h1.1, hcell]
   simp [hfro]
  have hg' : (w.setCell ⟨b, o + i, none⟩ v).heap[b]? = some (.cells (cs.set (o + i) v).toArray t (0, 0)) := by
   simp [World.setCell, Array.getElem?_modify, hg]
  obtain ⟨w', hr, hh, hk⟩ := run_storeCells_blk (o := o) r (i + 1) (cs.set (o + i) v) (w.setCell ⟨b, o + i, none⟩ v) hg' (by simp; omega) h1.2
  refine ⟨w', ?_, hh, ?_⟩
  ·simp only [storeCells, Sem.run_bind, hst, Result.andThen_ok, hr]
  ·exact Keep.trans (b := w.setCell ⟨b, o + i, none⟩ v) ⟨rfl, rfl, rfl, by simp [World.setCell], fun k _ hne => Below.heap_setCell _ _ _ _ (fun e => hne e)⟩ hk
theorem run_storeAt_blk {b o : Nat} {t' : TypeId} {v : Value} {k : Nat} {cs vs : List Value} {w : World} (hw : w.heap[b]? = some (.cells cs.toArray t' (0, 0))) (hs : sizeN P t = some k) (hv : v.cells = vs.toArray) (hk : vs.length = k)
  (hl : o + vs.length ≤ cs.length) (h1 : oneL vs = true) :
  ∃ w', (Instr.storeAt t (.pointer (some ⟨b, o, none⟩)) v).run P w = .ok () w' ∧ w'.heap[b]? = some (.cells (putL cs o vs).toArray t' (0, 0)) ∧ Keep (fun k => k = b) w w' := by
 obtain ⟨w', hr, hh, hkp⟩ := run_storeCells_blk (P := P) (o := o) vs 0 cs w hw (by omega) h1
 refine ⟨w', ?_, hh, hkp⟩
 have hsz : v.cells.size = k := by rw [hv]; simpa using hk
 simp only [Instr.storeAt, Instr.sureAddr, storeVar, Sem.run_bind, Sem.run_pure, Result.andThen_ok, run_sizeN hs, hsz, ne_eq, not_true, if_false]
 rw [hv]
 exact hr
theorem OL.storeL {p : Nat} {b o k : Nat} {t' : TypeId} {cs cs' vs : List Value} {v : Value} {H' : List Item} (hx : evl l x = some (true, .pointer (some ⟨b, o, none⟩))) (hy : evl l y = some (true, v)) (hv : v.cells = vs.toArray)
  (hs : sizeN P t = some k) (hk : vs.length = k) (h1 : oneL vs = true) (hcs : o + vs.length ≤ cs.length ∧ putL cs o vs = cs')
  (hH : Swap p H (blk b t' cs) (blk b t' cs') H') (kk : OL P n ops Q rest l (Cls H' S)) : OL P n ops Q (⟨none, .store t x y, ty, pos, af, none⟩ :: rest) l (Cls H S) := by
 obtain ⟨hl, rfl⟩ := hcs
 obtain ⟨hp, rfl⟩ := hH.eq
 refine OL.store_ (C' := Cls (H.set p (blk b t' (putL cs o vs))) S) rfl rfl (fun a w hs' hc => ?_) kk
 obtain ⟨w', hr, hh, hkp⟩ := run_storeAt_blk (P := P) (hc.item (List.mem_of_getElem? hp)) hs hv hk hl h1
 refine ⟨w', ?_, hc.turn p hp (j := blk b t' (putL cs o vs)) hkp hh (fun q hq => ?_) (fun q hq => hq)⟩
 ·simp only [execOp, hs'.eval hx rfl, hs'.eval hy rfl, Sem.run_bind, hr, Result.andThen_ok]; rfl
 ·have hq' : q = b := hq
  subst hq'
  exact ⟨.inl rfl, Nat.lt_of_lt_of_le (hc.lt _ (List.mem_of_getElem? hp) q rfl) hkp.size⟩
theorem OL.storeB {p : Nat} {b o k : Nat} {t' : TypeId} {cs cs' vs : List Value} {v : Value} {H' : List Item} (hx : evl l x = some (true, .pointer (some ⟨b, o, none⟩))) (hy : evl l y = some (true, v)) (hv : CellsL v vs)
  (hs : sizeN P t = some k) (hk : vs.length = k) (h1 : oneL vs = true) (hH : Swap p H (blk b t' cs) (blk b t' cs') H') (hcs : Put cs o vs cs')
  (kk : OL P n ops Q rest l (Cls H' S)) : OL P n ops Q (⟨none, .store t x y, ty, pos, af, none⟩ :: rest) l (Cls H S) :=
 OL.storeL hx hy hv.eq hs hk h1 hcs.eq hH kk
theorem OL.storeI {p : Nat} {b o : Nat} {t' : TypeId} {cs : List Value} {v : Value} {H' : List Item} (hx : evl l x = some (true, .pointer (some ⟨b, o, none⟩))) (hy : evl l y = some (true, v)) (hv : v.cells = #[v])
  (hs : sizeN P t = some 1) (h1 : oneL [v] = true) (hH : Swap p H (blk b t' cs) (blk b t' (cs.set o v)) H') (hl : o < cs.length)
  (kk : OL P n ops Q rest l (Cls H' S)) : OL P n ops Q (⟨none, .store t x y, ty, pos, af, none⟩ :: rest) l (Cls H S) :=
 OL.storeL (vs := [v]) hx hy hv hs rfl h1 ⟨by simp; omega, rfl⟩ hH kk
/-! literals -/
theorem fold_put (off : Nat) : ∀ (c : List Value) (j : Nat) (cells : Array Value),
  ((c.zipIdx j).foldl (fun (cs : Array Value) (x : Value × Nat) => cs.setIfInBounds (off + x.2) x.1) cells) = (putL cells.toList (off + j) c).toArray
 | [], _, _ => rfl
 | v :: c, j, cells => by
  rw [List.zipIdx_cons, List.foldl_cons, fold_put off c (j + 1), putL]
  congr 1
  simp [Nat.add_assoc]
theorem fold_put_array (off : Nat) (c : List Value) (cells : Array Value) :
  (c.toArray.zipIdx.foldl (fun (cs : Array Value) (x : Value × Nat) => cs.setIfInBounds (off + x.2) x.1) cells) = (putL cells.toList off c).toArray := by
 rw [← Array.foldl_toList]
 have := fold_put off c 0 cells
 simpa using this
inductive Fill (l : Env) (place : Nat → Option (Nat × Nat)) : List Value → List (Nat × Operand) → List Value → Prop where
 | nil {cs : List Value} : Fill l place cs [] cs
 | cons {cs cs' cs'' vs : List Value} {i off sz : Nat} {x : Operand} {v : Value} {ps : List (Nat × Operand)} (hx : evl l x = some (true, v)) (hv : CellsL v vs) (hp : place i = some (off, sz)) (hs : vs.length = sz)
   (hput : Put cs off vs cs') (r : Fill l place cs' ps cs'') : Fill l place cs ((i, x) :: ps) cs''
theorem Fill.au {l : Env} {place : Nat → Option (Nat × Nat)} {cs cs' : List Value} {ps : List (Nat × Operand)} (h : Fill l place cs ps cs' := by (repeat (first | exact Fill.nil | (apply Fill.cons rfl; (first | exact CellsL.one rfl | exact CellsL.agg); rfl; rfl; exact Put.au))); first | done | fail) : Fill l place cs ps cs' := h
theorem Fill.run {a : Act} (hs : Sees n l a) {place : Nat → Option (Nat × Nat)} {cs cs' : List Value} {ps : List (Nat × Operand)} (h : Fill l place cs ps cs') :
  Instr.fill place cs.toArray (ps.map fun p => (p.1, a.eval p.2)) = some cs'.toArray := by
 induction h with
 | nil => rfl
 | @cons cs cs' cs'' vs i off sz x v ps hx hv hp hsz hput r ih =>
  simp only [List.map_cons, Instr.fill, hp, hs.eval hx rfl, hv.eq]
  rw [if_neg (by
   have := hput.eq.1
   simp [hsz]; omega)]
  rw [fold_put_array]
  simp only [hput.eq.2]
  exact ih
def structPlaces (P : Program) (t : TypeId) (i : Nat) : Option (Nat × Nat) := match P.underlying t with
 | some (.struct fs) => match fs[i]? with
  | some f => match sizeN P f.type with
   | some k => match lit f.offset with
    | some o => some (o, k)
    | none => none
   | none => none
  | none => none
 | _ => none
theorem mapM_places {w : World} : ∀ (fs : List Field), (∀ f ∈ fs, (sizeN P f.type).isSome = true) →
  ((fs.mapM fun f => do pure (f.offset, ← sizeOf f.type) : Sem (List (Nat × Nat))).run P w) = .ok (fs.map fun f => (f.offset, (sizeN P f.type).getD 0)) w
 | [], _ => rfl
 | f :: fs, h => by
  have h0 := h f (.head _)
  cases hz : sizeN P f.type with
  | none => simp [hz] at h0
  | some k =>
   have ih := mapM_places (w := w) fs (fun g hg => h g (.tail _ hg))
   simp only [List.mapM_cons, Sem.run_bind, run_sizeN hz, Result.andThen_ok, Sem.run_pure, ih, List.map_cons, hz, Option.getD_some]
def sizedB (P : Program) (t : TypeId) : Bool := match P.underlying t with | some (.struct fs) => fs.toList.all fun f => (sizeN P f.type).isSome && (lit f.offset).isSome | _ => false
theorem Pev.build {parts : List (Nat × Operand)} {z : Value} {cs cs' : List Value} (hz : zeroV P t = some z) (hcs : CellsL z cs) (hb : sizedB P t = true) (hf : Fill l (structPlaces P t) cs parts cs') (hc : c = true) :
  Pev P n l C ⟨d, .build t parts.toArray, ty, pos, af, g⟩ c (.agg cs'.toArray) :=
 .of_run fun h a w hs hw => by
  unfold sizedB at hb
  cases hu : P.underlying t with
  | none => simp [hu] at hb
  | some dd =>
   rw [hu] at hb
   cases dd <;> simp only [Bool.false_eq_true] at hb
   rename_i fs
   have hb2 : ∀ f ∈ fs.toList, (sizeN P f.type).isSome = true ∧ (lit f.offset).isSome = true := fun f hf => by simpa using List.all_eq_true.1 hb f hf
   have hb' : ∀ f ∈ fs.toList, (sizeN P f.type).isSome = true := fun f hf => (hb2 f hf).1
   have hm := mapM_places (P := P) (w := w) fs.toList hb'
   have hrun := hf.run hs
   have hpl : (fun i => (fs.map fun f => (f.offset, (sizeN P f.type).getD 0))[i]?) = structPlaces P t := by
    funext i
    unfold structPlaces
    rw [hu]
    simp only [Array.getElem?_map]
    cases hi : fs[i]? with
    | none => rfl
    | some f =>
     have h1 := hb' f (by simpa using Array.mem_of_getElem? hi)
     have h2 := (hb2 f (by simpa using Array.mem_of_getElem? hi)).2
     cases hz : sizeN P f.type with
     | none => simp [hz] at h1
     | some k =>
      cases ho : lit f.offset with
      | none => simp [ho] at h2
      | some o =>
       simp only [Option.map_some, hz, ho, Option.getD_some]
       rw [lit_eq ho]
   have hm2 : (fs.mapM fun f => do pure (f.offset, ← sizeOf f.type) : Sem (Array (Nat × Nat))).run P w = .ok (fs.map fun f => (f.offset, (sizeN P f.type).getD 0)) w := by
    rw [Array.mapM_eq_mapM_toList, Sem.run_map, hm]
    simp only [Result.andThen_ok]
    congr 1
    rw [← Array.toList_map]
   simp only [execOp, Instr.build, Sem.run_bind, run_zeroV hz, Result.andThen_ok, run_underlying hu, hm2, hcs.eq]
   have hparts : (parts.toArray.map fun p => (p.1, a.eval p.2)).toList = parts.map fun p => (p.1, a.eval p.2) := by simp
   rw [hparts, hpl, hrun]
   rfl
inductive App : List Value → List Value → List Value → Prop where
 | nil {l : List Value} : App [] l l
 | cons {x : Value} {c l r : List Value} (h : App c l r) : App (x :: c) l (x :: r)
theorem App.au {c l r : List Value} (h : App c l r := by (repeat (first | apply App.nil | apply App.cons)); first | done | fail) : App c l r := h
theorem App.eq {c l r : List Value} (h : App c l r) : c ++ l = r := by
 induction h with
 | nil => rfl
 | cons _ ih => rw [List.cons_append, ih]
inductive Elems (l : Env) (sz : Nat) : Nat → List (Nat × Operand) → List Value → Prop where
 | nil {i : Nat} : Elems l sz i [] []
 | cons {i : Nat} {x : Operand} {v : Value} {vs cs cs' : List Value} {ps : List (Nat × Operand)} (hx : evl l x = some (true, v)) (hv : CellsL v vs) (hs : vs.length = sz) (r : Elems l sz (i + 1) ps cs) (ha : App vs cs cs') :
   Elems l sz i ((i, x) :: ps) cs'
theorem Elems.au {l : Env} {sz i : Nat} {ps : List (Nat × Operand)} {cs : List Value} (h : Elems l sz i ps cs := by (repeat (first | exact Elems.nil | (apply Elems.cons rfl; (first | exact CellsL.one rfl | exact CellsL.agg); rfl) | exact App.au)); first | done | fail) : Elems l sz i ps cs := h
theorem putL_eq : ∀ (vs l : List Value) (o : Nat), o + vs.length ≤ l.length → putL l o vs = l.take o ++ vs ++ l.drop (o + vs.length)
 | [], l, o, _ => by simp [putL]
 | v :: vs, l, o, h => by
  simp only [List.length_cons] at h
  rw [putL, putL_eq vs _ _ (by simp; omega)]
  have ho : o < l.length := by omega
  rw [List.take_set, List.drop_set]
  simp only [List.length_cons]
  rw [show (if o < o + 1 + vs.length then List.drop (o + 1 + vs.length) l else (List.drop (o + 1 + vs.length) l).set (o - (o + 1 + vs.length)) v) = List.drop (o + (vs.length + 1)) l from by rw [if_pos (by omega)]; congr 1; omega]
  have : (List.take (o + 1) l).set o v = List.take o l ++ [v] := by
   rw [List.take_succ_eq_append_getElem ho, List.set_append_right _ _ (by simp; omega)]
   simp [Nat.min_eq_left (Nat.le_of_lt ho)]
  rw [this]
  simp
theorem Elems.run {a : Act} (hs : Sees n l a) {sz : Nat} {i : Nat} {ps : List (Nat × Operand)} {cs : List Value} (h : Elems l sz i ps cs) :
  ∀ (cells : Array Value), cells.size = (i + ps.length) * sz →
  Instr.fill (fun j => some (j * sz, sz)) cells (ps.map fun p => (p.1, a.eval p.2)) = some (cells.toList.take (i * sz) ++ cs).toArray := by
 induction h with
 | @nil i =>
  intro cells hc
  simp only [List.length_nil, Nat.add_zero] at hc
  rw [← hc, List.take_of_length_le (by simp)]
  simp [Instr.fill]
 | @cons i x v vs cs cs' ps hx hv hsz r ha ih =>
  intro cells hc
  obtain rfl := ha.eq
  simp only [List.length_cons] at hc
  have hle : i * sz + sz ≤ cells.size := by
   rw [hc, ← Nat.succ_mul]
   exact Nat.mul_le_mul_right _ (by omega)
  simp only [List.map_cons, Instr.fill, hs.eval hx rfl, hv.eq]
  rw [if_neg (by simp [hsz]; omega), fold_put_array]
  rw [ih _ (by rw [List.size_toArray, putL_length', Array.length_toList, hc]; congr 1; omega)]
  congr 2
  rw [putL_eq _ _ _ (by simp [hsz]; omega)]
  simp only [hsz]
  have e1 : (cells.toList.take (i * sz)).length = i * sz := by simp; omega
  rw [show (i + 1) * sz = i * sz + sz from by rw [Nat.succ_mul]]
  rw [List.take_append_of_le_length (by simp [hsz]; omega), List.take_append]
  simp [hsz, Nat.min_eq_left (show i * sz ≤ cells.size by omega), List.take_of_length_le]
theorem range_map_size {m : Nat} {f : Nat → Value} : ((Array.range m).map f).size = m := by simp
theorem OL.buildSlice {e : TypeId} {sz len dd : Nat} {parts : List (Nat × Operand)} {cs : List Value} (hn : Nat.ble (dd + 1) n.n = true) (hu : slElem P t = some (e, sz)) (hz : (zeroV P e).isSome = true)
  (hp : Elems l sz 0 parts cs) (hlen : parts.length = len) (hl : Nat.ble (len * sz) 16777216 = true)
  (k : ∀ b, AllLe S b → OL P n ops Q rest ((dd, true, .slice (some ⟨b, 0, none⟩) len len) :: l) (Cls (blk b e cs :: H) S)) :
  OL P n ops Q (⟨some dd, .buildSlice t len parts.toArray, ty, pos, af, none⟩ :: rest) l (Cls H S) :=
 OL.new (C' := fun b w => AllLe S b ∧ Cls (blk b e cs :: H) S w) rfl rfl hn (fun b => .slice (some ⟨b, 0, none⟩) len len)
  (fun a w hs hc => ⟨w.heap.size, w.alloc (.cells cs.toArray e), by
   unfold slElem at hu
   cases h1 : P.underlying t with
   | none => simp [h1] at hu
   | some d1 =>
    rw [h1] at hu
    cases d1 <;> simp only [reduceCtorEq] at hu
    rename_i e'
    cases h2 : sizeN P e' with
    | none => simp [h2] at hu
    | some k' =>
     rw [h2] at hu
     simp only [Option.some.injEq, Prod.mk.injEq] at hu
     obtain ⟨rfl, rfl⟩ := hu
     cases hzz : zeroV P e' with
     | none => simp [hzz] at hz
     | some z =>
      have hle := Nat.le_of_ble_eq_true hl
      have hparts : (parts.toArray.map fun p => (p.1, a.eval p.2)).toList = parts.map fun p => (p.1, a.eval p.2) := by simp
      have hfill := fun (cells : Array Value) (hc : cells.size = len * k') => hp.run hs cells (by rw [hlen, Nat.zero_add]; exact hc)
      simp only [execOp, Instr.buildSlice, Sem.run_bind, run_underlying h1, run_sizeN h2, Result.andThen_ok]
      rw [if_neg (by omega)]
      by_cases h0 : len * k' = 0
      ·simp only [h0, if_true, Sem.run_pure, Sem.run_bind, Result.andThen_ok, hparts]
       rw [hfill _ (by rw [range_map_size, h0])]
       simp [newRow]
      ·simp only [h0, if_false, Sem.run_bind, run_zeroV hzz, Sem.run_pure, Result.andThen_ok, hparts]
       rw [hfill _ range_map_size]
       simp [newRow], AllLe.mk hc, hc.alloc e cs⟩)
  (fun b => ⟨fun a w hs hc => (k b hc.1).run a w hs hc.2⟩)
/-! short forms -/
theorem yes {p : Prop} : p → true = true := fun _ => rfl
section
variable {dd : Nat} {v u r : Value} {K : Act → Prop}
theorem omv (hn : Nat.ble (dd + 1) n.n = true) (hx : evl l x = some (true, v)) (k : OL P n ops Q rest ((dd, true, v) :: l) C) : OL P n ops Q (⟨some dd, .move x, ty, pos, af, none⟩ :: rest) l C := OL.op Guard.none rfl hn (Pev.move hx yes) k
theorem oas (hn : Nat.ble (dd + 1) n.n = true) (hx : evl l x = some (true, v)) (k : OL P n ops Q rest ((dd, true, v) :: l) C) : OL P n ops Q (⟨some dd, .assign x, ty, pos, af, none⟩ :: rest) l C := OL.op Guard.none rfl hn (Pev.assign hx yes) k
theorem obn {op : BinOp} {yt : TypeId} (hn : Nat.ble (dd + 1) n.n = true) (hx : evl l x = some (true, u)) (hy : evl l y = some (true, v)) (hb : Bin P op t u v r) (k : OL P n ops Q rest ((dd, true, r) :: l) C) : OL P n ops Q (⟨some dd, .binOp op t x y yt, ty, pos, af, none⟩ :: rest) l C := OL.op Guard.none rfl hn (Pev.bin hx (fun _ => rfl) hy (fun _ => rfl) (fun _ => hb)) k
theorem ofa {i off b o : Nat} (hn : Nat.ble (dd + 1) n.n = true) (hx : evl l x = some (true, .pointer (some ⟨b, o, none⟩))) (hf : fldAt P t i = some off) (k : OL P n ops Q rest ((dd, true, .pointer (some ⟨b, o + off, none⟩)) :: l) C) : OL P n ops Q (⟨some dd, .fieldAddr t x i, ty, pos, af, none⟩ :: rest) l C := OL.op Guard.none rfl hn (Pev.fld hx (fun _ => rfl) hf) k
theorem old {b o : Nat} {t' : TypeId} {cs : List Value} (hn : Nat.ble (dd + 1) n.n = true) (hx : evl l x = some (true, .pointer (some ⟨b, o, none⟩))) (hp : blk b t' cs ∈ H) (hs : scalB P t = true) (hv : cs[o]? = some v) (k : OL P n ops Q rest ((dd, true, v) :: l) (Cls H S)) : OL P n ops Q (⟨some dd, .load t x, ty, pos, af, none⟩ :: rest) l (Cls H S) := OL.op Guard.none rfl hn (Pev.load_blk hx (fun _ => rfl) hp hs hv) k
theorem oex {vs : List Value} {i : Nat} (hn : Nat.ble (dd + 1) n.n = true) (hx : evl l x = some (true, .tuple vs.toArray)) (hv : vs[i]? = some v) (k : OL P n ops Q rest ((dd, true, v) :: l) C) : OL P n ops Q (⟨some dd, .extract x i, ty, pos, af, none⟩ :: rest) l C := OL.op Guard.none rfl hn (Pev.extract hx (fun _ => rfl) hv) k
theorem qmv (hn : Nat.ble (dd + 1) n.n = true) (hx : evl l x = some (true, v)) (k : QL P n ops C K rest ((dd, true, v) :: l)) : QL P n ops C K (⟨some dd, .move x, ty, pos, af, none⟩ :: rest) l := QL.op Guard.none rfl hn (Pev.move hx yes) k
theorem qas (hn : Nat.ble (dd + 1) n.n = true) (hx : evl l x = some (true, v)) (k : QL P n ops C K rest ((dd, true, v) :: l)) : QL P n ops C K (⟨some dd, .assign x, ty, pos, af, none⟩ :: rest) l := QL.op Guard.none rfl hn (Pev.assign hx yes) k
theorem qbn {op : BinOp} {yt : TypeId} (hn : Nat.ble (dd + 1) n.n = true) (hx : evl l x = some (true, u)) (hy : evl l y = some (true, v)) (hb : Bin P op t u v r) (k : QL P n ops C K rest ((dd, true, r) :: l)) : QL P n ops C K (⟨some dd, .binOp op t x y yt, ty, pos, af, none⟩ :: rest) l := QL.op Guard.none rfl hn (Pev.bin hx (fun _ => rfl) hy (fun _ => rfl) (fun _ => hb)) k
theorem qfa {i off b o : Nat} (hn : Nat.ble (dd + 1) n.n = true) (hx : evl l x = some (true, .pointer (some ⟨b, o, none⟩))) (hf : fldAt P t i = some off) (k : QL P n ops C K rest ((dd, true, .pointer (some ⟨b, o + off, none⟩)) :: l)) : QL P n ops C K (⟨some dd, .fieldAddr t x i, ty, pos, af, none⟩ :: rest) l := QL.op Guard.none rfl hn (Pev.fld hx (fun _ => rfl) hf) k
theorem qld {b o : Nat} {t' : TypeId} {cs : List Value} (hn : Nat.ble (dd + 1) n.n = true) (hx : evl l x = some (true, .pointer (some ⟨b, o, none⟩))) (hp : blk b t' cs ∈ H) (hs : scalB P t = true) (hv : cs[o]? = some v) (k : QL P n ops (Cls H S) K rest ((dd, true, v) :: l)) : QL P n ops (Cls H S) K (⟨some dd, .load t x, ty, pos, af, none⟩ :: rest) l := QL.op Guard.none rfl hn (Pev.load_blk hx (fun _ => rfl) hp hs hv) k
end
end
end Go.Eng

/- Types as trees: how a value of type api.Type lies in memory. General. No condition. -/
namespace Go.Eng
open Go.RowKit
def I64 (x : Int) : Prop := -9223372036854775808 ≤ x ∧ x ≤ 9223372036854775807
inductive Ty where
 | mk (kind : Int) (name : ByteArray) (var : Int) (args : List Ty)
def Ty.kind : Ty → Int | .mk k _ _ _ => k
def Ty.name : Ty → ByteArray | .mk _ n _ _ => n
def Ty.var : Ty → Int | .mk _ _ v _ => v
def Ty.args : Ty → List Ty | .mk _ _ _ a => a
mutual
def Ty.sz : Ty → Nat
 | .mk _ _ _ «as» => Ty.szs «as» + 1
def Ty.szs : List Ty → Nat
 | [] => 0
 | t :: r => Ty.sz t + Ty.szs r
end
mutual
/-- the four cells of a type; what they lead to lies below block B -/
def TyC (s : World) (B : Nat) : Ty → List Value → Prop
 | .mk k nm v «as», cs => ∃ (q : Option Addr) (cap : Nat), cs = [.int .i64 k, .string nm, .int .i64 v, .slice q «as».length cap] ∧ I64 k ∧ I64 v ∧ («as».length : Int) ≤ 9223372036854775807 ∧
   (0 < «as».length → ∃ a, q = some a ∧ a.block < B ∧ TyAll s B «as» a)
def TyAll (s : World) (B : Nat) : List Ty → Addr → Prop
 | [], _ => True
 | t :: r, a => (∃ cs, CellsAt s a cs ∧ TyC s B t cs) ∧ TyAll s B r (a.add 4)
end
theorem TyAll.get {s : World} {B : Nat} : ∀ {«as» : List Ty} {a : Addr} {i : Nat} {t : Ty}, TyAll s B «as» a → «as»[i]? = some t → ∃ cs, CellsAt s (a.add (i * 4)) cs ∧ TyC s B t cs
 | [], _, _, _, _, h => by simp at h
 | u :: r, a, 0, t, h, hi => by
  simp only [TyAll] at h
  simp at hi; subst hi
  obtain ⟨cs, h1, h2⟩ := h.1
  exact ⟨cs, h1, h2⟩
 | u :: r, a, i + 1, t, h, hi => by
  simp only [TyAll] at h
  obtain ⟨cs, h1, h2⟩ := TyAll.get (i := i) h.2 (by simpa using hi)
  rw [add_add] at h1
  exact ⟨cs, by rwa [show 4 + i * 4 = (i + 1) * 4 from by omega] at h1, h2⟩
theorem CellsAt.keep {s s' : World} {a : Addr} {cs : List Value} {B : Nat} (hk : ∀ p : Addr, p.block < B → s'.cell? p = s.cell? p) (hb : a.block < B) (h : CellsAt s a cs) : CellsAt s' a cs :=
 fun j v hj => by rw [hk _ (by rw [add_block]; exact hb)]; exact h j v hj
mutual
theorem TyC.keep {s s' : World} {B B' : Nat} (hk : ∀ p : Addr, p.block < B → s'.cell? p = s.cell? p) (hB : B ≤ B') : ∀ {t : Ty} {cs : List Value}, TyC s B t cs → TyC s' B' t cs
 | .mk k nm v «as», cs, h => by
  simp only [TyC] at h ⊢
  obtain ⟨q, cap, h1, h2, h3, h5, h4⟩ := h
  refine ⟨q, cap, h1, h2, h3, h5, fun hl => ?_⟩
  obtain ⟨a, ha, hb, hall⟩ := h4 hl
  exact ⟨a, ha, by omega, TyAll.keep hk hB hb hall⟩
theorem TyAll.keep {s s' : World} {B B' : Nat} (hk : ∀ p : Addr, p.block < B → s'.cell? p = s.cell? p) (hB : B ≤ B') : ∀ {«as» : List Ty} {a : Addr}, a.block < B → TyAll s B «as» a → TyAll s' B' «as» a
 | [], _, _, _ => by simp only [TyAll]
 | t :: r, a, hb, h => by
  simp only [TyAll] at h ⊢
  obtain ⟨⟨cs, h1, h2⟩, h3⟩ := h
  exact ⟨⟨cs, h1.keep hk hb, TyC.keep hk hB h2⟩, TyAll.keep hk hB (by rw [add_block]; exact hb) h3⟩
end
theorem TyC.len {s : World} {B : Nat} {t : Ty} {cs : List Value} (h : TyC s B t cs) : cs.length = 4 := by
 cases t
 simp only [TyC] at h
 obtain ⟨q, cap, rfl, _⟩ := h
 rfl
theorem Cls.below {H : List Item} {S : List World} {w s : World} (h : Cls H S w) (hs : s ∈ S) {B : Nat} (hB : B ≤ s.heap.size) (hno : ∀ k, k < B → NotOwned H k) : ∀ p : Addr, p.block < B → w.cell? p = s.cell? p :=
 fun p hp => h.cell hs (by omega) (hno _ hp)
inductive Thin (S : List World) : List Item → List Item → Prop where
 | nil : Thin S [] []
 | keep {i : Item} {H H' : List Item} (h : Thin S H H') : Thin S (i :: H) (i :: H')
 | blk {b : Nat} {t : TypeId} {c : List Value} {H H' : List Item} (hb : AllLe S b) (h : Thin S H H') : Thin S (blk b t c :: H) H'
 | any {i : Item} {H H' : List Item} (hb : ∀ k, i.own k → AllLe S k) (h : Thin S H H') : Thin S (i :: H) H'
theorem Thin.au {S : List World} {H H' : List Item} (h : Thin S H H' := by (repeat (first | exact Thin.nil | exact Thin.same | apply Thin.keep | (refine Thin.blk (by assumption) ?_) | (refine Thin.blk (by simp only [AllLe, and_true]; omega) ?_))); first | done | fail) : Thin S H H' := h
theorem AllLe.mem {S : List World} {k : Nat} (h : AllLe S k) : ∀ s ∈ S, s.heap.size ≤ k := by
 induction S with
 | nil => intro s hs; cases hs
 | cons x S ih =>
  intro s hs
  cases hs with
  | head => exact h.1
  | tail _ hs => exact ih h.2 s hs
theorem Thin.spec {S : List World} {H H' : List Item} (h : Thin S H H') : H'.Sublist H ∧ ∀ i ∈ H, i ∈ H' ∨ ∀ k, i.own k → AllLe S k := by
 induction h with
 | nil => exact ⟨.slnil, fun i hi => by cases hi⟩
 | @keep i H H' h ih =>
  refine ⟨ih.1.cons_cons _, fun j hj => ?_⟩
  cases hj with
  | head => exact .inl (.head _)
  | tail _ hj => exact (ih.2 j hj).imp (.tail _) id
 | @blk b t c H H' hb h ih =>
  refine ⟨ih.1.cons _, fun j hj => ?_⟩
  cases hj with
  | head => exact .inr fun k hk => by have hk' : k = b := hk; subst hk'; exact hb
  | tail _ hj => exact ih.2 j hj
 | @any i H H' hb h ih =>
  refine ⟨ih.1.cons _, fun j hj => ?_⟩
  cases hj with
  | head => exact .inr hb
  | tail _ hj => exact ih.2 j hj
theorem Cls.thin {H H' : List Item} {S : List World} {w : World} (h : Cls H S w) (ht : Thin S H H') : Cls H' S w := by
 obtain ⟨hs, hd⟩ := ht.spec
 refine ⟨fun i hi => h.holds i (hs.subset hi), fun i hi => h.lt i (hs.subset hi), h.dj.sublist hs, fun s hms => ?_⟩
 have hk := h.kp s hms
 refine ⟨hk.os, hk.tape, hk.output, hk.size, fun k hks hno => hk.block k hks ?_⟩
 rintro ⟨i, hi, hik⟩
 rcases hd i hi with h1 | h1
 ·exact hno ⟨i, h1, hik⟩
 ·have := (h1 k hik).mem s hms; omega
theorem Cls.toExt {H : List Item} {S : List World} {w s : World} (h : Cls H S w) (hs : s ∈ S) (hno : ∀ k, k < s.heap.size → NotOwned H k) : Ext s w :=
 (h.kp s hs).mono fun k hk ho => (hno k hk).not ho
theorem Cls.fr {H : List Item} {S : List World} {w s : World} (h : Cls H S w) (hs : s ∈ S := by exact mau) (hno : ∀ k, k < s.heap.size → NotOwned H k := by exact fun k hk => NotOwned.au) : Ext s w := h.toExt hs hno
end Go.Eng

/- Plain: core expressions as lists of nodes and as trees; parents, depth, scopes, free identifiers. No program in sight. No condition. -/
namespace Go.Co
structure Al where
 tag : Int
 binds : List Int
structure Ex where
 op : Int
 n : Int
 binds : List Int
 kids : List Int
 alts : List Al
inductive Tr where
 | mk (op n : Int) (binds : List Int) (kids : List Tr) (alts : List Al)
def leaf : Tr := .mk 0 0 [] [] []
def Down (e : List Ex) : Prop := ∀ (i : Nat) (x : Ex), e[i]? = some x → ∀ k ∈ x.kids, 0 ≤ k ∧ k < (i : Int)
def grow (e : List Ex) (i : Nat) : Tr :=
 match e[i]? with
 | none => leaf
 | some x => .mk x.op x.n x.binds (x.kids.map fun k => if h : k.toNat < i then grow e k.toNat else leaf) x.alts
theorem grow_eq {e : List Ex} (h : Down e) {i : Nat} {x : Ex} (hx : e[i]? = some x) : grow e i = .mk x.op x.n x.binds (x.kids.map fun k => grow e k.toNat) x.alts := by
 rw [grow, hx]
 simp only [Tr.mk.injEq, true_and, and_true]
 refine List.map_congr_left fun k hk => ?_
 have := h i x hx k hk
 rw [dif_pos (by omega)]
def bound (op : Int) (binds : List Int) (alts : List Al) (k : Nat) : List Int :=
 if op = 2 ∨ op = 5 ∨ (op = 4 ∧ k = 1) then binds else if 0 < alts.length ∧ 0 < k ∧ k ≤ alts.length then (alts.getD (k - 1) ⟨0, []⟩).binds else []
def scopeX (x : Ex) (k : Nat) : List Int := bound x.op x.binds x.alts k
mutual
/-- free identifiers, with repetitions -/
def fv : Tr → List Int → List Int
 | .mk op n binds kids alts, sc => (if op = 0 ∧ ¬ n ∈ sc then [n] else []) ++ fvs op binds alts kids 0 sc
def fvs (op : Int) (binds : List Int) (alts : List Al) : List Tr → Nat → List Int → List Int
 | [], _, _ => []
 | t :: r, k, sc => fv t (bound op binds alts k ++ sc) ++ fvs op binds alts r (k + 1) sc
end
mutual
def size : Tr → Nat
 | .mk _ _ _ kids _ => sizes kids + 1
def sizes : List Tr → Nat
 | [] => 0
 | t :: r => size t + sizes r
end
mutual
def high : Tr → Nat
 | .mk _ _ _ kids _ => highs kids + 1
def highs : List Tr → Nat
 | [] => 0
 | t :: r => max (high t) (highs r)
end
def Par (e : List Ex) (i p m : Nat) : Prop := ∃ x, e[p]? = some x ∧ x.kids[m]? = some (i : Int)
structure IsTree (e : List Ex) : Prop where
 down : Down e
 one : ∀ i, i + 1 < e.length → ∃ p m, Par e i p m
 uniq : ∀ i p m p' m', Par e i p m → Par e i p' m' → p = p' ∧ m = m'
theorem Par.lt {e : List Ex} (h : Down e) {i p m : Nat} (hp : Par e i p m) : i < p ∧ p < e.length := by
 obtain ⟨x, h1, h2⟩ := hp
 have := h p x h1 i (List.mem_of_getElem? h2)
 exact ⟨by omega, (List.getElem?_eq_some_iff.1 h1).1⟩
inductive Under (e : List Ex) : Nat → Nat → List Int → Prop where
 | here {i : Nat} : Under e i i []
 | up {i p m j : Nat} {sc : List Int} {x : Ex} (hp : Par e i p m) (hx : e[p]? = some x) (h : Under e p j sc) : Under e i j (scopeX x m ++ sc)
theorem Under.le {e : List Ex} (hd : Down e) {i j : Nat} {sc : List Int} (h : Under e i j sc) : i ≤ j := by
 induction h with
 | here => exact Nat.le_refl _
 | up hp hx _ ih => have := hp.lt hd; omega
theorem Under.down {e : List Ex} {i k j m : Nat} {sc : List Int} {x : Ex} (h : Under e i k sc) (hp : Par e k j m) (hx : e[j]? = some x) : Under e i j (sc ++ scopeX x m) := by
 induction h with
 | here =>
  have := Under.up hp hx (Under.here (e := e) (i := j))
  simpa using this
 | up hp' hx' _ ih =>
  have := Under.up hp' hx' (ih hp)
  simpa [List.append_assoc] using this
theorem Under.split {e : List Ex} {i j : Nat} {sc : List Int} (h : Under e i j sc) : i = j ∧ sc = [] ∨ ∃ k m x sc', Under e i k sc' ∧ Par e k j m ∧ e[j]? = some x ∧ sc = sc' ++ scopeX x m := by
 induction h with
 | here => exact .inl ⟨rfl, rfl⟩
 | @up i p m j sc x hp hx h ih =>
  right
  rcases ih with ⟨rfl, rfl⟩ | ⟨k, m', x', sc', h1, h2, h3, rfl⟩
  ·exact ⟨i, m, x, [], .here, hp, hx, by simp⟩
  ·exact ⟨k, m', x', scopeX x m ++ sc', .up hp hx h1, h2, h3, by simp⟩
theorem Under.uniq {e : List Ex} (ht : IsTree e) {i j : Nat} {sc sc' : List Int} (h : Under e i j sc) (h' : Under e i j sc') : sc = sc' := by
 induction h generalizing sc' with
 | here =>
  cases h' with
  | here => rfl
  | up hp hx h2 => have := h2.le ht.down; have := (hp.lt ht.down).1; omega
 | up hp hx h ih =>
  cases h' with
  | here => have := h.le ht.down; have := (hp.lt ht.down).1; omega
  | up hp2 hx2 h2 =>
   obtain ⟨rfl, rfl⟩ := ht.uniq _ _ _ _ _ hp hp2
   rw [hx] at hx2
   obtain rfl := Option.some.inj hx2
   rw [ih h2]
theorem IsTree.root {e : List Ex} (ht : IsTree e) {i : Nat} (hi : i < e.length) : ∃ sc, Under e i (e.length - 1) sc := by
 induction hm : e.length - i using Nat.strongRecOn generalizing i with
 | _ m ih =>
  by_cases hl : i + 1 < e.length
  ·obtain ⟨p, q, hp⟩ := ht.one i hl
   have hlt := hp.lt ht.down
   obtain ⟨sc, hs⟩ := ih (e.length - p) (by omega) hlt.2 rfl
   exact ⟨_, .up hp (List.getElem?_eq_getElem hlt.2) hs⟩
  ·rw [show i = e.length - 1 by omega]
   exact ⟨[], .here⟩
theorem mem_fvs {op : Int} {binds : List Int} {alts : List Al} {n : Int} : ∀ {ts : List Tr} {k : Nat} {sc : List Int}, n ∈ fvs op binds alts ts k sc ↔ ∃ (m : Nat) (t : Tr), ts[m]? = some t ∧ n ∈ fv t (bound op binds alts (k + m) ++ sc)
 | [], k, sc => by simp [fvs]
 | t :: r, k, sc => by
  rw [fvs, List.mem_append, mem_fvs]
  constructor
  ·rintro (h | ⟨m, u, h1, h2⟩)
   ·exact ⟨0, t, rfl, h⟩
   ·exact ⟨m + 1, u, by simpa using h1, by rwa [show k + (m + 1) = k + 1 + m by omega]⟩
  ·rintro ⟨m, u, h1, h2⟩
   cases m with
   | zero =>
    simp at h1
    subst h1
    exact .inl h2
   | succ m => exact .inr ⟨m, u, by simpa using h1, by rwa [show k + 1 + m = k + (m + 1) by omega]⟩
theorem mem_fv {e : List Ex} (hd : Down e) {n : Int} : ∀ (i : Nat), i < e.length → ∀ (sc : List Int), n ∈ fv (grow e i) sc ↔ ∃ j x sc', e[j]? = some x ∧ x.op = 0 ∧ x.n = n ∧ Under e j i sc' ∧ ¬ n ∈ sc' ++ sc := by
 intro i
 induction i using Nat.strongRecOn with
 | _ i ih =>
  intro hi sc
  have hx : e[i]? = some e[i] := List.getElem?_eq_getElem hi
  rw [grow_eq hd hx, fv, List.mem_append, mem_fvs]
  constructor
  ·rintro (h | ⟨m, t, h1, h2⟩)
   ·split at h
    ·rename_i hc
     simp at h
     subst h
     exact ⟨i, _, [], hx, hc.1, rfl, .here, by simpa using hc.2⟩
    ·cases h
   ·rw [List.getElem?_map] at h1
    cases hk : (e[i].kids)[m]? with
    | none => simp [hk] at h1
    | some k =>
     simp only [hk, Option.map_some, Option.some.injEq] at h1
     subst h1
     have hlt := hd i _ hx k (List.mem_of_getElem? hk)
     have hkn : ((k.toNat : Nat) : Int) = k := by omega
     have hp : Par e k.toNat i m := ⟨_, hx, by rw [hkn]; exact hk⟩
     obtain ⟨j, y, sc', h3, h4, h5, h6, h7⟩ := (ih k.toNat (by omega) (by omega) _).1 h2
     refine ⟨j, y, sc' ++ scopeX e[i] m, h3, h4, h5, h6.down hp hx, ?_⟩
     simpa [scopeX, List.append_assoc] using h7
  ·rintro ⟨j, y, sc', h3, h4, h5, h6, h7⟩
   rcases h6.split with ⟨rfl, rfl⟩ | ⟨k, m, x, sc2, g1, g2, g3, rfl⟩
   ·left
    rw [hx] at h3
    obtain rfl := Option.some.inj h3
    rw [if_pos ⟨h4, by rw [h5]; simpa using h7⟩]
    simp [h5]
   ·right
    rw [hx] at g3
    obtain rfl := Option.some.inj g3
    obtain ⟨x', g4, g5⟩ := g2
    rw [hx] at g4
    obtain rfl := Option.some.inj g4
    have hlt := hd i _ hx k (List.mem_of_getElem? g5)
    refine ⟨m, grow e k, by rw [List.getElem?_map, g5]; simp, ?_⟩
    refine (ih k (by omega) (by omega) _).2 ⟨j, y, sc2, h3, h4, h5, g1, ?_⟩
    simpa [scopeX, List.append_assoc] using h7
end Go.Co

/- Plain: which functions flow where in a core expression: rows of flags, the rules as pairs of rows, and that every order of the rules ends at the same rows. No program in sight. No condition. -/
namespace Go.Co
abbrev FR := List (List Bool)
def hB (R : FR) (p f : Nat) : Bool := (R.getD p []).getD f false
def orR (a b : List Bool) : List Bool := a.mapIdx fun f v => v || b.getD f false
def inR (R : FR) (a b : Nat) : FR := R.set a (orR (R.getD a []) (R.getD b []))
theorem orR_len (a b : List Bool) : (orR a b).length = a.length := by simp [orR]
theorem orR_get (a b : List Bool) (f : Nat) : (orR a b).getD f false = (a.getD f false || (decide (f < a.length) && b.getD f false)) := by
 unfold orR
 by_cases h : f < a.length
 ·simp [List.getD_eq_getElem?_getD, h]
 ·simp [List.getD_eq_getElem?_getD, h]
theorem inR_len (R : FR) (a b : Nat) : (inR R a b).length = R.length := by simp [inR]
theorem hB_in (R : FR) (a b p f : Nat) : hB (inR R a b) p f = (hB R p f || (decide (p = a) && decide (f < (R.getD a []).length) && hB R b f)) := by
 unfold inR hB
 by_cases hp : p = a
 ·subst hp
  by_cases hl : p < R.length
  ·have : (R.set p (orR (R.getD p []) (R.getD b []))).getD p [] = orR (R.getD p []) (R.getD b []) := by simp [List.getD_eq_getElem?_getD, hl]
   rw [this, orR_get]
   simp
  ·have h1 : R.getD p [] = [] := by simp [List.getD_eq_getElem?_getD, Nat.le_of_not_lt hl]
   rw [List.set_eq_of_length_le (Nat.le_of_not_lt hl), h1]
   simp
 ·have : (R.set a (orR (R.getD a []) (R.getD b []))).getD p [] = R.getD p [] := by
   simp only [List.getD_eq_getElem?_getD]
   rw [List.getElem?_set_ne (fun h => hp h.symm)]
  rw [this]
  simp [hp]
structure FDim (n m : Nat) (R : FR) : Prop where
 len : R.length = m
 row : ∀ r ∈ R, r.length = n + 1
theorem FDim.at {n m : Nat} {R : FR} (h : FDim n m R) {p : Nat} (hp : p < m) : (R.getD p []).length = n + 1 := by
 have hl := h.len
 rw [List.getD_eq_getElem?_getD, List.getElem?_eq_getElem (by omega)]
 exact h.row _ (List.getElem_mem _)
theorem FDim.into {n m : Nat} {R : FR} (h : FDim n m R) (a b : Nat) : FDim n m (inR R a b) := by
 refine ⟨(inR_len _ _ _).trans h.len, fun r hr => ?_⟩
 unfold inR at hr
 by_cases ha : a < R.length
 ·rcases List.mem_or_eq_of_mem_set hr with h1 | h1
  ·exact h.row _ h1
  ·rw [h1, orR_len, h.at (by have := h.len; omega)]
 ·rw [List.set_eq_of_length_le (by omega)] at hr
  exact h.row _ hr
def FLe (R C : FR) : Prop := ∀ p f, hB R p f = true → hB C p f = true
theorem FLe.refl (R : FR) : FLe R R := fun _ _ h => h
theorem FLe.trans {A B C : FR} (h : FLe A B) (k : FLe B C) : FLe A C := fun p f x => k p f (h p f x)
theorem FLe.anti {n m : Nat} {A B : FR} (hA : FDim n m A) (hB' : FDim n m B) (h : FLe A B) (k : FLe B A) : A = B := by
 refine List.ext_getElem (hA.len.trans hB'.len.symm) fun p h1 h2 => ?_
 have l1 := hA.row _ (List.getElem_mem h1)
 have l2 := hB'.row _ (List.getElem_mem h2)
 refine List.ext_getElem (l1.trans l2.symm) fun f g1 g2 => ?_
 have e1 : hB A p f = A[p][f] := by unfold hB; simp [List.getD_eq_getElem?_getD, h1, g1]
 have e2 : hB B p f = B[p][f] := by unfold hB; simp [List.getD_eq_getElem?_getD, h2, g2]
 rw [← e1, ← e2]
 have a1 := h p f
 have a2 := k p f
 cases x : hB A p f <;> cases y : hB B p f <;> simp_all
theorem FLe.into (R : FR) (a b : Nat) : FLe R (inR R a b) := fun p f h => by rw [hB_in, h, Bool.true_or]
def RowLe (C : FR) (b a : Nat) : Prop := ∀ f, hB C b f = true → hB C a f = true
theorem FLe.in_ {R C : FR} (h : FLe R C) {a b : Nat} (hc : RowLe C b a) : FLe (inR R a b) C := fun p f hx => by
 rw [hB_in] at hx
 cases hr : hB R p f with
 | true => exact h p f hr
 | false =>
  rw [hr] at hx
  simp only [Bool.false_or, Bool.and_eq_true, decide_eq_true_eq] at hx
  obtain ⟨⟨rfl, _⟩, h2⟩ := hx
  exact hc f (h b f h2)
theorem RowLe.of {n m : Nat} {R : FR} (hd : FDim n m R) {a b : Nat} (ha : a < m) (h : inR R a b = R) : RowLe R b a := fun f hf => by
 have := hB_in R a b a f
 rw [h, hf, hd.at ha] at this
 have hfl : f < n + 1 := by
  by_cases hb : b < R.length
  ·have h1 : (R.getD b []).length = n + 1 := hd.at (by have := hd.len; omega)
   have : f < (R.getD b []).length := by
    apply Decidable.byContradiction
    intro hn
    unfold hB at hf
    rw [List.getD_eq_getElem?_getD, List.getElem?_eq_none (Nat.le_of_not_lt hn)] at hf
    simp at hf
   omega
  ·unfold hB at hf
   rw [show R.getD b [] = [] by simp [List.getD_eq_getElem?_getD, Nat.le_of_not_lt hb]] at hf
   simp at hf
 simpa [hfl] using this
def inAll (R : FR) (l : List (Nat × Nat)) : FR := l.foldl (fun R p => inR R p.1 p.2) R
theorem inAll_app (R : FR) (l k : List (Nat × Nat)) : inAll R (l ++ k) = inAll (inAll R l) k := List.foldl_append
theorem FDim.all {n m : Nat} {R : FR} (h : FDim n m R) (l : List (Nat × Nat)) : FDim n m (inAll R l) := by
 induction l generalizing R with
 | nil => exact h
 | cons p r ih => exact ih (h.into _ _)
theorem FLe.all (R : FR) (l : List (Nat × Nat)) : FLe R (inAll R l) := by
 induction l generalizing R with
 | nil => exact .refl _
 | cons p r ih => exact (FLe.into R p.1 p.2).trans (ih _)
theorem FLe.all_ {R C : FR} (h : FLe R C) {l : List (Nat × Nat)} (hc : ∀ p ∈ l, RowLe C p.2 p.1) : FLe (inAll R l) C := by
 induction l generalizing R with
 | nil => exact h
 | cons p r ih => exact ih (h.in_ (hc p (.head _))) fun q hq => hc q (.tail _ hq)
theorem all_fix {n m : Nat} {R : FR} (hd : FDim n m R) {l : List (Nat × Nat)} (hl : ∀ p ∈ l, p.1 < m) (h : inAll R l = R) : ∀ p ∈ l, RowLe R p.2 p.1 := by
 induction l with
 | nil => intro p hp; cases hp
 | cons q r ih =>
  have h1 : inR R q.1 q.2 = R := by
   refine FLe.anti (hd.into _ _) hd ?_ (.into _ _ _)
   have := FLe.all (inR R q.1 q.2) r
   rw [show inAll (inR R q.1 q.2) r = R from h] at this
   exact this
  have h2 : inAll R r = R := by
   have : inAll (inR R q.1 q.2) r = R := h
   rwa [h1] at this
  intro p hp
  rcases List.mem_cons.1 hp with rfl | hp
  ·exact .of hd (hl _ (.head _)) h1
  ·exact ih (fun p hp => hl p (.tail _ hp)) h2 p hp
def onB (R : FR) (p f : Nat) : FR := R.set p ((R.getD p []).set f true)
theorem hB_on (R : FR) (p f q g : Nat) : hB (onB R p f) q g = (hB R q g || (decide (q = p) && decide (g = f) && decide (f < (R.getD p []).length))) := by
 unfold onB hB
 by_cases hq : q = p
 ·subst hq
  by_cases hl : q < R.length
  ·have : (R.set q ((R.getD q []).set f true)).getD q [] = (R.getD q []).set f true := by simp [List.getD_eq_getElem?_getD, hl]
   rw [this]
   by_cases hg : g = f
   ·subst hg
    by_cases hgl : g < (R.getD q []).length
    ·simp only [List.getD_eq_getElem?_getD] at hgl ⊢
     simp [hgl]
    ·rw [List.set_eq_of_length_le (Nat.le_of_not_lt hgl)]
     rw [show (decide (g < (R.getD q []).length)) = false from decide_eq_false hgl]
     simp
   ·simp only [List.getD_eq_getElem?_getD]
    rw [List.getElem?_set_ne (fun h => hg h.symm)]
    simp [hg]
  ·have h1 : R.getD q [] = [] := by simp [List.getD_eq_getElem?_getD, Nat.le_of_not_lt hl]
   rw [List.set_eq_of_length_le (Nat.le_of_not_lt hl), h1]
   simp
 ·have : (R.set p ((R.getD p []).set f true)).getD q [] = R.getD q [] := by
   simp only [List.getD_eq_getElem?_getD]
   rw [List.getElem?_set_ne (fun h => hq h.symm)]
  rw [this]
  simp [hq]
theorem FDim.on {n m : Nat} {R : FR} (h : FDim n m R) (p f : Nat) : FDim n m (onB R p f) := by
 refine ⟨by simp [onB, h.len], fun r hr => ?_⟩
 unfold onB at hr
 by_cases ha : p < R.length
 ·rcases List.mem_or_eq_of_mem_set hr with h1 | h1
  ·exact h.row _ h1
  ·rw [h1, List.length_set, h.at (by have := h.len; omega)]
 ·rw [List.set_eq_of_length_le (by omega)] at hr
  exact h.row _ hr
theorem FLe.on (R : FR) (p f : Nat) : FLe R (onB R p f) := fun q g h => by rw [hB_on, h, Bool.true_or]
end Go.Co

/- Plain: the rules of flow of each node, in their order; passes over all nodes; two kinds of passes end at the same rows. No program in sight. No condition. -/
namespace Go.Co
def kidN (x : Ex) (k : Nat) : Nat := (x.kids.getD k 0).toNat
def srcA (n : Nat) (x : Ex) (k m : Nat) : Nat := if x.op = 13 ∧ k = 0 then kidN x 0 else if x.op = 13 ∧ m = 1 then n + 1 else n
def eAlt (n : Nat) (ix : Int → Nat) (i : Nat) (x : Ex) (k : Nat) (a : Al) : List (Nat × Nat) := ((List.range a.binds.length).map fun m => (ix (a.binds.getD m 0), srcA n x k m)) ++ [(i, kidN x (k + 1))]
def eStat (n : Nat) (ix : Int → Nat) (i : Nat) (x : Ex) : List (Nat × Nat) :=
 if x.op = 0 then [(i, ix x.n)]
 else if x.op = 4 ∨ x.op = 5 then ((List.range x.binds.length).map fun k => (ix (x.binds.getD k 0), kidN x k)) ++ [(i, kidN x (x.kids.length - 1))]
 else if x.op = 6 ∨ x.op = 9 then (List.range x.kids.length).map fun k => (n, kidN x k)
 else if x.op = 7 ∨ x.op = 13 then ((List.range x.alts.length).flatMap fun k => eAlt n ix i x k (x.alts.getD k ⟨0, []⟩)) ++ (if x.op = 13 then [(n, i)] else [])
 else if x.op = 8 then (if x.n = 8 then [(n, kidN x 1)] else if x.n = 11 then [(n, kidN x 2)] else if x.n = 10 then [(i, n)] else [])
 else if x.op = 11 then [(n, kidN x 1)]
 else if x.op = 12 then [(n, kidN x 0), (i, n)]
 else if x.op = 10 then [(i, n)]
 else []
def eCall (n : Nat) (ix : Int → Nat) (e : List Ex) (i : Nat) (x : Ex) (g : Nat) : List (Nat × Nat) :=
 if g = n ∧ x.kids.length = 2 then [(n, kidN x 1), (i, n)]
 else match e[g]? with
  | some y => if y.binds.length + 1 = x.kids.length then ((List.range y.binds.length).map fun k => (ix (y.binds.getD k 0), kidN x (k + 1))) ++ [(i, kidN y 0)] else []
  | none => []
def eApp (n : Nat) (ix : Int → Nat) (e : List Ex) (R : FR) (i : Nat) (x : Ex) (c : Nat) : List (Nat × Nat) :=
 (List.range c).flatMap fun g => if hB R (kidN x 0) g then eCall n ix e i x g else []
def edges (n : Nat) (ix : Int → Nat) (e : List Ex) (R : FR) (i : Nat) (x : Ex) : List (Nat × Nat) :=
 if x.op = 3 then eApp n ix e R i x (n + 1) else eStat n ix i x
theorem edges_mono {n : Nat} {ix : Int → Nat} {e : List Ex} {R C : FR} (h : FLe R C) {i : Nat} {x : Ex} : ∀ p ∈ edges n ix e R i x, p ∈ edges n ix e C i x := by
 intro p hp
 unfold edges at hp ⊢
 by_cases ho : x.op = 3
 ·rw [if_pos ho] at hp ⊢
  unfold eApp at hp ⊢
  rw [List.mem_flatMap] at hp ⊢
  obtain ⟨g, hg, hx⟩ := hp
  refine ⟨g, hg, ?_⟩
  by_cases hh : hB R (kidN x 0) g = true
  ·rw [if_pos hh] at hx
   rw [if_pos (h _ _ hh)]
   exact hx
  ·rw [if_neg hh] at hx
   cases hx
 ·rw [if_neg ho] at hp ⊢
  exact hp
def nodeF (r : Bool) (n : Nat) (ix : Int → Nat) (e : List Ex) (R : FR) (i : Nat) : FR :=
 match e[i]? with
 | none => R
 | some x => if x.op = 2 then (if r then onB R i i else R) else inAll R (edges n ix e R i x)
structure FClosed (n m : Nat) (ix : Int → Nat) (e : List Ex) (C : FR) : Prop where
 dim : FDim n m C
 edge : ∀ i x, e[i]? = some x → ¬ x.op = 2 → ∀ p ∈ edges n ix e C i x, RowLe C p.2 p.1
 lam : ∀ i x, e[i]? = some x → x.op = 2 → hB C i i = true
theorem FDim.node {n m : Nat} {R : FR} (h : FDim n m R) (r : Bool) (ix : Int → Nat) (e : List Ex) (i : Nat) : FDim n m (nodeF r n ix e R i) := by
 unfold nodeF
 split
 ·exact h
 ·split
  ·cases r
   ·exact h
   ·exact h.on _ _
  ·exact h.all _
theorem FLe.node (r : Bool) (n : Nat) (ix : Int → Nat) (e : List Ex) (R : FR) (i : Nat) : FLe R (nodeF r n ix e R i) := by
 unfold nodeF
 split
 ·exact .refl _
 ·split
  ·cases r
   ·exact .refl _
   ·exact .on _ _ _
  ·exact .all _ _
theorem FLe.node_ {n m : Nat} {ix : Int → Nat} {e : List Ex} {R C : FR} (h : FLe R C) (hc : FClosed n m ix e C) (r : Bool) (i : Nat) : FLe (nodeF r n ix e R i) C := by
 unfold nodeF
 cases hx : e[i]? with
 | none => exact h
 | some x =>
  by_cases ho : x.op = 2
  ·simp only [ho, if_true]
   cases r
   ·exact h
   ·intro p f hp
    simp only [if_true] at hp
    rw [hB_on] at hp
    cases hr : hB R p f with
    | true => exact h p f hr
    | false =>
     rw [hr] at hp
     simp only [Bool.false_or, Bool.and_eq_true, decide_eq_true_eq] at hp
     obtain ⟨⟨rfl, rfl⟩, _⟩ := hp
     exact hc.lam _ x hx ho
  ·simp only [ho, if_false]
   exact h.all_ fun p hp => hc.edge i x hx ho p (edges_mono h p hp)
def passF (r : Bool) (n : Nat) (ix : Int → Nat) (e : List Ex) (R : FR) (l : List Nat) : FR := l.foldl (nodeF r n ix e) R
theorem FDim.pass {n m : Nat} {R : FR} (h : FDim n m R) (r : Bool) (ix : Int → Nat) (e : List Ex) (l : List Nat) : FDim n m (passF r n ix e R l) := by
 induction l generalizing R with
 | nil => exact h
 | cons i k ih => exact ih (h.node r ix e i)
theorem FLe.pass (r : Bool) (n : Nat) (ix : Int → Nat) (e : List Ex) (R : FR) (l : List Nat) : FLe R (passF r n ix e R l) := by
 induction l generalizing R with
 | nil => exact .refl _
 | cons i k ih => exact (FLe.node r n ix e R i).trans (ih _)
theorem FLe.pass_ {n m : Nat} {ix : Int → Nat} {e : List Ex} {R C : FR} (h : FLe R C) (hc : FClosed n m ix e C) (r : Bool) (l : List Nat) : FLe (passF r n ix e R l) C := by
 induction l generalizing R with
 | nil => exact h
 | cons i k ih => exact ih (h.node_ hc r i)
theorem pass_fix {r : Bool} {n m : Nat} {ix : Int → Nat} {e : List Ex} {R : FR} (hd : FDim n m R) {l : List Nat} (h : passF r n ix e R l = R) : ∀ i ∈ l, nodeF r n ix e R i = R := by
 induction l with
 | nil => intro i hi; cases hi
 | cons q k ih =>
  have h1 : nodeF r n ix e R q = R := by
   refine FLe.anti (hd.node _ _ _ _) hd ?_ (.node _ _ _ _ _ _)
   have := FLe.pass r n ix e (nodeF r n ix e R q) k
   rw [show passF r n ix e (nodeF r n ix e R q) k = R from h] at this
   exact this
  have h2 : passF r n ix e R k = R := by
   have : passF r n ix e (nodeF r n ix e R q) k = R := h
   rwa [h1] at this
  intro i hi
  rcases List.mem_cons.1 hi with rfl | hi
  ·exact h1
  ·exact ih h2 i hi
def ERng (n m : Nat) (ix : Int → Nat) (e : List Ex) (R : FR) : Prop := ∀ i x, e[i]? = some x → ∀ p ∈ edges n ix e R i x, p.1 < m
theorem closed_of {r : Bool} {n m : Nat} {ix : Int → Nat} {e : List Ex} {R : FR} (hd : FDim n m R) (hg : ERng n m ix e R) {l : List Nat} (hl : ∀ i, i < e.length → i ∈ l) (hm : e.length ≤ m) (hn : e.length ≤ n + 1) (h : passF r n ix e R l = R) (hlam : r = true ∨ ∀ i x, e[i]? = some x → x.op = 2 → hB R i i = true) : FClosed n m ix e R := by
 have hf := pass_fix hd h
 refine ⟨hd, fun i x hx ho => ?_, fun i x hx ho => ?_⟩
 ·have := hf i (hl i (List.getElem?_eq_some_iff.1 hx).1)
  unfold nodeF at this
  rw [hx] at this
  simp only [ho, if_false] at this
  exact all_fix hd (hg i x hx) this
 ·rcases hlam with hr | hlam
  ·have h1 := hf i (hl i (List.getElem?_eq_some_iff.1 hx).1)
   have hil := (List.getElem?_eq_some_iff.1 hx).1
   unfold nodeF at h1
   rw [hx] at h1
   simp only [ho, if_true, hr] at h1
   have h2 := hB_on R i i i i
   rw [h1] at h2
   rw [h2, hd.at (by omega)]
   simp [show i < n + 1 by omega]
  ·exact hlam i x hx ho
theorem flow_one {n m : Nat} {ix : Int → Nat} {e : List Ex} {A B : FR} (hA : FClosed n m ix e A) (hB' : FClosed n m ix e B) (h1 : ∀ C, FClosed n m ix e C → hB C (n + 1) n = true → FLe A C) (h2 : ∀ C, FClosed n m ix e C → hB C (n + 1) n = true → FLe B C) (oA : hB A (n + 1) n = true) (oB : hB B (n + 1) n = true) : A = B :=
 FLe.anti hA.dim hB'.dim (h1 B hB' oB) (h2 A hA oA)
def offs (R : FR) : Nat := (R.map fun r => r.countP fun v => !v).sum
theorem countP_off {a b : List Bool} (hl : a.length = b.length) (h : ∀ f, a.getD f false = true → b.getD f false = true) : (b.countP fun v => !v) ≤ (a.countP fun v => !v) ∧ (a ≠ b → (b.countP fun v => !v) < (a.countP fun v => !v)) := by
 induction a generalizing b with
 | nil =>
  cases b with
  | nil => exact ⟨Nat.le_refl _, fun h => absurd rfl h⟩
  | cons y r => simp at hl
 | cons x k ih =>
  cases b with
  | nil => simp at hl
  | cons y r =>
   obtain ⟨i1, i2⟩ := ih (b := r) (by simpa using hl) fun f hf => by simpa using h (f + 1) (by simpa using hf)
   have h0 := h 0
   simp only [List.getD_cons_zero] at h0
   simp only [List.countP_cons]
   refine ⟨by cases x <;> cases y <;> simp_all <;> omega, fun hne => ?_⟩
   by_cases hk : k = r
   ·subst hk
    cases x <;> cases y <;> simp_all
   ·have := i2 hk
    cases x <;> cases y <;> simp_all <;> omega
theorem offs_lt {n m : Nat} {A B : FR} (hA : FDim n m A) (hB' : FDim n m B) (h : FLe A B) : offs B ≤ offs A ∧ (A ≠ B → offs B < offs A) := by
 have hl := hA.len.trans hB'.len.symm
 have h1 := hA.row
 have h2 := hB'.row
 clear hA hB'
 induction A generalizing B with
 | nil =>
  cases B with
  | nil => exact ⟨Nat.le_refl _, fun h => absurd rfl h⟩
  | cons y r => simp at hl
 | cons x k ih =>
  cases B with
  | nil => simp at hl
  | cons y r =>
   obtain ⟨i1, i2⟩ := ih (B := r) (fun p f hf => by simpa [hB] using h (p + 1) f (by simpa [hB] using hf)) (by simpa using hl) (fun a ha => h1 a (.tail _ ha)) (fun a ha => h2 a (.tail _ ha))
   obtain ⟨j1, j2⟩ := countP_off (a := x) (b := y) ((h1 x (.head _)).trans (h2 y (.head _)).symm) fun f hf => by simpa [hB] using h 0 f (by simpa [hB] using hf)
   simp only [offs, List.map_cons, List.sum_cons] at *
   refine ⟨by omega, fun hne => ?_⟩
   by_cases hxy : x = y
   ·subst hxy
    have := i2 (fun hk => hne (by rw [hk]))
    omega
   ·have := j2 hxy
    omega
end Go.Co

/- Plain: rows of flags as words of 64 bits; the least set bit of a word. No program in sight. No condition. -/
namespace Go.Co
def wN (r : List Bool) (i : Nat) : Nat → Nat
 | 0 => 0
 | k + 1 => wN r i k ||| (if r.getD (64 * i + k) false then 2 ^ k else 0)
theorem wN_bit (r : List Bool) (i j : Nat) : ∀ k, (wN r i k).testBit j = (decide (j < k) && r.getD (64 * i + j) false)
 | 0 => by simp [wN]
 | k + 1 => by
  rw [wN, Nat.testBit_or, wN_bit r i j k]
  by_cases hj : j = k
  ·subst hj
   cases h : r.getD (64 * i + j) false
   ·simp
   ·simp [Nat.testBit_two_pow]
  ·have h1 : (if r.getD (64 * i + k) false = true then 2 ^ k else 0).testBit j = false := by
    split
    ·rw [Nat.testBit_two_pow]
     exact decide_eq_false (fun h => hj h.symm)
    ·exact Nat.zero_testBit _
   rw [h1, Bool.or_false]
   congr 1
   exact decide_eq_decide.2 (by omega)
def wordB (r : List Bool) (i : Nat) : Nat := wN r i 64
theorem word_bit (r : List Bool) (i j : Nat) : (wordB r i).testBit j = (decide (j < 64) && r.getD (64 * i + j) false) := wN_bit r i j 64
theorem word_lt (r : List Bool) (i : Nat) : wordB r i < 2 ^ 64 := by
 apply Nat.lt_pow_two_of_testBit
 intro j hj
 rw [word_bit]
 simp [Nat.not_lt.2 hj]
def wordsB (n : Nat) (r : List Bool) : List Nat := (List.range (n / 64 + 1)).map (wordB r)
theorem wordsB_len (n : Nat) (r : List Bool) : (wordsB n r).length = n / 64 + 1 := by simp [wordsB]
theorem wordsB_get {n i : Nat} (r : List Bool) (h : i < n / 64 + 1) : (wordsB n r)[i]? = some (wordB r i) := by
 simp [wordsB, List.getElem?_map, List.getElem?_range, h]
theorem wordsB_inj {n : Nat} {a b : List Bool} (ha : a.length = n + 1) (hb : b.length = n + 1) (h : wordsB n a = wordsB n b) : a = b := by
 refine List.ext_getElem (ha.trans hb.symm) fun f h1 h2 => ?_
 have hi : f / 64 < n / 64 + 1 := by omega
 have h3 := wordsB_get a hi
 rw [h, wordsB_get b hi] at h3
 have h4 := congrArg (fun x => x.testBit (f % 64)) (Option.some.inj h3)
 simp only [word_bit] at h4
 rw [show 64 * (f / 64) + f % 64 = f by omega, show decide (f % 64 < 64) = true by simp; omega] at h4
 simpa [List.getD_eq_getElem?_getD, h1, h2] using h4.symm
def orW (a b : List Nat) : List Nat := List.zipWith (fun x y => x ||| y) a b
theorem orW_len {a b : List Nat} (h : a.length = b.length) : (orW a b).length = a.length := by simp [orW, h]
theorem word_or {a b : List Bool} (h : a.length = b.length) (i : Nat) : wordB (orR a b) i = wordB a i ||| wordB b i := by
 apply Nat.eq_of_testBit_eq
 intro j
 rw [Nat.testBit_or, word_bit, word_bit, word_bit, orR_get]
 by_cases hj : j < 64
 ·by_cases hl : 64 * i + j < a.length
  ·simp [hj, hl]
  ·have : b.getD (64 * i + j) false = false := by rw [List.getD_eq_getElem?_getD, List.getElem?_eq_none (by omega)]; rfl
   rw [this]
   simp
 ·simp [hj]
theorem orW_words {n : Nat} {a b : List Bool} (h : a.length = b.length) : orW (wordsB n a) (wordsB n b) = wordsB n (orR a b) := by
 refine List.ext_getElem? fun i => ?_
 by_cases hi : i < n / 64 + 1
 ·rw [orW, List.getElem?_zipWith, wordsB_get _ hi, wordsB_get _ hi, wordsB_get _ hi, word_or h]
 ·rw [List.getElem?_eq_none (by rw [orW_len (by rw [wordsB_len, wordsB_len]), wordsB_len]; omega), List.getElem?_eq_none (by rw [wordsB_len]; omega)]
def mixW (a b : List Nat) (k : Nat) : List Nat := orW (a.take k) (b.take k) ++ a.drop k
theorem mixW_zero (a b : List Nat) : mixW a b 0 = a := by simp [mixW, orW]
theorem mixW_all {a b : List Nat} (h : a.length = b.length) : mixW a b a.length = orW a b := by
 unfold mixW
 rw [List.take_length, h, List.take_length, List.drop_eq_nil_of_le (by omega), List.append_nil]
theorem mixW_len {a b : List Nat} (h : a.length = b.length) (k : Nat) : (mixW a b k).length = a.length := by
 simp [mixW, orW, h]
 omega
theorem mixW_get {a b : List Nat} (h : a.length = b.length) {k : Nat} {x : Nat} (hx : a[k]? = some x) : (mixW a b k)[k]? = some x := by
 have hk := (List.getElem?_eq_some_iff.1 hx).1
 unfold mixW
 rw [List.getElem?_append_right (by simp [orW]; omega)]
 have : (orW (a.take k) (b.take k)).length = k := by simp [orW]; omega
 rw [this, Nat.sub_self, List.getElem?_drop, Nat.add_zero, hx]
theorem mixW_succ {a b : List Nat} (h : a.length = b.length) {k : Nat} {x y : Nat} (hx : a[k]? = some x) (hy : b[k]? = some y) : (mixW a b k).set k (x ||| y) = mixW a b (k + 1) := by
 have hk := (List.getElem?_eq_some_iff.1 hx).1
 have l1 : (orW (a.take k) (b.take k)).length = k := by simp [orW]; omega
 have e1 : a.drop k = x :: a.drop (k + 1) := by
  rw [List.drop_eq_getElem_cons hk, (List.getElem?_eq_some_iff.1 hx).2]
 unfold mixW
 rw [List.set_append_right _ _ (by omega), l1, Nat.sub_self, e1, List.set_cons_zero, List.take_add_one, List.take_add_one, hx, hy]
 unfold orW
 rw [List.zipWith_append (by simp; omega)]
 simp
def movW (a b : List Nat) (k : Nat) : Bool := (List.range k).any fun i => !decide (a.getD i 0 ||| b.getD i 0 = a.getD i 0)
theorem movW_succ {a b : List Nat} {k x y : Nat} (hx : a[k]? = some x) (hy : b[k]? = some y) : movW a b (k + 1) = (movW a b k || !decide (x ||| y = x)) := by
 unfold movW
 rw [List.range_succ, List.any_append]
 simp [List.getD_eq_getElem?_getD, hx, hy]
theorem movW_all {a b : List Nat} (h : a.length = b.length) : movW a b a.length = !decide (orW a b = a) := by
 have : movW a b a.length = false ↔ orW a b = a := by
  unfold movW
  rw [List.any_eq_false]
  constructor
  ·intro hh
   refine List.ext_getElem? fun i => ?_
   by_cases hi : i < a.length
   ·have := hh i (List.mem_range.2 hi)
    have ea : a[i]? = some a[i] := List.getElem?_eq_getElem hi
    have eb : b[i]? = some b[i] := List.getElem?_eq_getElem (by omega)
    simp only [List.getD_eq_getElem?_getD, ea, eb, Option.getD_some, Bool.not_eq_true', decide_eq_false_iff_not, Decidable.not_not] at this
    rw [orW, List.getElem?_zipWith, ea, eb]
    simp only [this]
   ·rw [List.getElem?_eq_none (by rw [orW_len h]; omega), List.getElem?_eq_none (by omega)]
  ·intro hh i hi
   have hi := List.mem_range.1 hi
   have ea : a[i]? = some a[i] := List.getElem?_eq_getElem hi
   have eb : b[i]? = some b[i] := List.getElem?_eq_getElem (by omega)
   have h1 : (orW a b)[i]? = some (a[i] ||| b[i]) := by rw [orW, List.getElem?_zipWith, ea, eb]
   rw [hh, ea] at h1
   simp only [List.getD_eq_getElem?_getD, ea, eb, Option.getD_some, ← Option.some.inj h1]
   simp
 cases hm : movW a b a.length <;> simp_all
theorem moved_rows {n m : Nat} {R : FR} (hd : FDim n m R) {p q : Nat} (hp : p < m) (hq : q < m) : decide (orW (wordsB n (R.getD p [])) (wordsB n (R.getD q [])) = wordsB n (R.getD p [])) = decide (inR R p q = R) := by
 have lp := hd.at hp
 have lq := hd.at hq
 have hl := hd.len
 rw [orW_words (lp.trans lq.symm)]
 refine decide_eq_decide.2 ⟨fun h => ?_, fun h => ?_⟩
 ·have h1 := wordsB_inj (by rw [orR_len, lp]) lp h
  unfold inR
  rw [h1, List.getD_eq_getElem?_getD, List.getElem?_eq_getElem (by omega)]
  simp
 ·have h1 : (inR R p q).getD p [] = orR (R.getD p []) (R.getD q []) := by
   unfold inR
   simp [List.getD_eq_getElem?_getD, hl, hp]
  rw [← h1, h]
end Go.Co

/- Plain: the set bits of a word from the least one up. No program in sight. No condition. -/
namespace Go.Co
theorem low_form {x : Nat} (h0 : x ≠ 0) (h : x < 2 ^ 64) : ∃ m, x = 2 ^ (Lib.ctz 64 x + 1) * m + 2 ^ Lib.ctz 64 x ∧ Lib.ctz 64 x < 64 := by
 obtain ⟨m, h1, h2⟩ := Lib.ctzFrom_spec 64 x (by omega) h
 have e : Lib.ctz 64 x = Lib.ctzFrom 64 x := by
  unfold Lib.ctz
  first | rw [if_neg h0] | rfl | simp [h0]
 rw [e]
 refine ⟨m, ?_, h2⟩
 generalize Lib.ctzFrom 64 x = t at h1
 rw [h1, Nat.mul_add, Nat.pow_succ, Nat.mul_one, Nat.mul_assoc]
theorem low_bits {x : Nat} (h0 : x ≠ 0) (h : x < 2 ^ 64) : x.testBit (Lib.ctz 64 x) = true ∧ (∀ j, j < Lib.ctz 64 x → x.testBit j = false) ∧ ∀ j, (x &&& (x - 1)).testBit j = (x.testBit j && !decide (j = Lib.ctz 64 x)) := by
 obtain ⟨m, h1, h2⟩ := low_form h0 h
 generalize Lib.ctz 64 x = t at h1 h2
 have p1 : 0 < 2 ^ t := Nat.two_pow_pos t
 have p2 : 2 ^ t < 2 ^ (t + 1) := by rw [Nat.pow_succ]; omega
 have e1 : x - 1 = 2 ^ (t + 1) * m + (2 ^ t - 1) := by omega
 have b1 : ∀ j, x.testBit j = if j < t + 1 then decide (t = j) else m.testBit (j - (t + 1)) := fun j => by
  rw [h1, Nat.testBit_two_pow_mul_add _ p2, Nat.testBit_two_pow]
 have b2 : ∀ j, (x - 1).testBit j = if j < t + 1 then (decide (j < t)) else m.testBit (j - (t + 1)) := fun j => by
  rw [e1, Nat.testBit_two_pow_mul_add _ (by omega), Nat.testBit_two_pow_sub_one]
 refine ⟨by rw [b1]; simp, fun j hj => ?_, fun j => ?_⟩
 ·rw [b1, if_pos (by omega)]
  simp; omega
 ·rw [Nat.testBit_and, b1, b2]
  by_cases hj : j < t + 1
  ·rw [if_pos hj, if_pos hj]
   by_cases ht : t = j
   ·subst ht
    simp
   ·simp [ht]
  ·rw [if_neg hj, if_neg hj, Bool.and_self]
   have : ¬ j = t := by omega
   simp [this]
def hiW (x c : Nat) (y : Nat) : Prop := ∀ j, y.testBit j = (x.testBit j && decide (c ≤ j))
theorem hiW_zero (x : Nat) : hiW x 0 x := fun j => by simp
theorem hiW_next {x c y : Nat} (h : hiW x c y) (hx : x < 2 ^ 64) (h0 : y ≠ 0) (hy : y < 2 ^ 64) : c ≤ Lib.ctz 64 y ∧ Lib.ctz 64 y < 64 ∧ x.testBit (Lib.ctz 64 y) = true ∧ (∀ j, c ≤ j → j < Lib.ctz 64 y → x.testBit j = false) ∧ hiW x (Lib.ctz 64 y + 1) (y &&& (y - 1)) := by
 obtain ⟨b1, b2, b3⟩ := low_bits h0 hy
 obtain ⟨m, _, h2⟩ := low_form h0 hy
 have h3 := h (Lib.ctz 64 y)
 rw [b1] at h3
 have h4 := h3.symm
 simp only [Bool.and_eq_true, decide_eq_true_eq] at h4
 refine ⟨h4.2, h2, h4.1, fun j hj hl => ?_, fun j => ?_⟩
 ·have := h j
  rw [b2 j hl] at this
  simpa [hj] using this.symm
 ·rw [b3, h j]
  by_cases hj : j = Lib.ctz 64 y
  ·simp [hj]
  ·by_cases hl : j < Lib.ctz 64 y
   ·have h5 := h j
    rw [b2 j hl] at h5
    rw [← h5]
    simp [show ¬ Lib.ctz 64 y + 1 ≤ j by omega]
   ·have : Lib.ctz 64 y + 1 ≤ j := by omega
    simp [hj, this, show c ≤ j by omega]
theorem hiW_end {x c : Nat} (h : hiW x c 0) : ∀ j, c ≤ j → x.testBit j = false := fun j hj => by
 have := h j
 simpa [hj] using this.symm
theorem and_lt {x : Nat} (h : x < 2 ^ 64) : x &&& (x - 1) < 2 ^ 64 := Nat.lt_of_le_of_lt Nat.and_le_left h
end Go.Co

/- Rows that a function grows by append: an item for the slice with its cells and the blocks that it has owned. General. No condition. -/
namespace Go.Eng
open Go.RowKit
theorem ownsRow_stab {w w' : World} {base n size : Nat} {e : TypeId} {v : Value} {xs : List Value} (hk : ∀ k, v.ownBlock = some k → w'.heap[k]? = w.heap[k]?) (h : w.ownsRow base e size v n xs) : w'.ownsRow base e size v n xs := by
 refine ⟨h.1, ?_⟩
 rcases h.2 with h2 | ⟨g, cap, cur, rfl, hb, hg, hr⟩
 ·exact .inl h2
 ·exact .inr ⟨g, cap, cur, rfl, hb, by rw [hk g rfl]; exact hg, hr⟩
def row (base : Nat) (O : Nat → Prop) (q : Option Addr) (n cap : Nat) (e : TypeId) (size : Nat) (xs : List Value) : Item :=
 ⟨fun k => base ≤ k ∧ O k, fun w => (∀ a, q = some a → O a.block) ∧ w.ownsRow base e size (.slice q n cap) n xs, fun w w' hk h => ⟨h.1, by
  refine ownsRow_stab (fun k hk' => ?_) h.2
  cases q with
  | none => simp [Value.ownBlock] at hk'
  | some a =>
   simp only [Value.ownBlock, Option.some.injEq] at hk'
   subst hk'
   rcases h.2.2 with ⟨h3, _⟩ | ⟨g, cap', cur, h3, hb, _⟩
   ·cases h3
   ·simp only [Value.slice.injEq, Option.some.injEq] at h3
    obtain ⟨rfl, _⟩ := h3
    exact hk _ ⟨hb, h.1 _ rfl⟩⟩⟩
section
variable {P : Program} {n : Nm} {l : Env} {H : List Item} {S : List World} {C : World → Prop} {c : Bool} {d : Option Nat} {ty : TypeId} {pos : String} {af : Array Edge} {g : Option (Nat × Bool)}
variable {ops : Array Oper} {rest : List Oper} {Q : Exit → Act → World → Prop}
variable {t : TypeId} {x y z : Operand} {cx cy cz : Bool}
theorem NotOwned.row {base m cap size k : Nat} {O : Nat → Prop} {q : Option Addr} {e : TypeId} {xs : List Value} (h : k < base) (r : NotOwned H k) : NotOwned (Eng.row base O q m cap e size xs :: H) k :=
 NotOwned.any (fun ho => Nat.not_le_of_lt h ho.1) r
theorem Cls.row_nil {w : World} (h : Cls H S w) (base : Nat) (e : TypeId) (size : Nat) : Cls (row base (fun _ => False) none 0 0 e size [] :: H) S w :=
 h.add (Keep.refl _ w) _ ⟨fun a ha => (by cases ha), World.ownsRow_nil w base e size⟩ (fun k hk => hk.2.elim)
theorem row_cell {w : World} {base m cap size o g0 : Nat} {O : Nat → Prop} {e : TypeId} {xs : List Value} {v : Value} (h : (row base O (some ⟨g0, 0, none⟩) m cap e size xs).holds w) (hv : xs[o]? = some v) : w.cell? ⟨g0, o, none⟩ = some v := by
 rcases h.2.2 with ⟨h3, _⟩ | ⟨g, cap', cur, h3, hb, hg, h4, h5, h6, h7⟩
 ·cases h3
 ·simp only [Value.slice.injEq, Option.some.injEq, Addr.mk.injEq] at h3
  obtain ⟨⟨rfl, _⟩, _⟩ := h3
  have : cur[o]? = some v := by
   rw [← h7] at hv
   have hl := (List.getElem?_eq_some_iff.1 hv).1
   rw [List.length_take] at hl
   rw [List.getElem?_take_of_lt (by omega)] at hv
   simpa using hv
  simp [World.cell?, hg, this]
theorem OL.newT {α : Type} {o : Oper} {dd : Nat} {C' : α → World → Prop} (hg : o.guard = none) (hd : o.dst = some dd) (hn : Nat.ble (dd + 1) n.n = true) (V : α → Value)
  (hv : ∀ a w, Sees n l a → C w → ∃ b w', (execOp a.eval o).run P w = .ok (.value (V b)) w' ∧ C' b w')
  (k : ∀ b, OL P n ops Q rest ((dd, true, V b) :: l) (C' b)) : OL P n ops Q (o :: rest) l C := by
 have hn' := Nat.le_of_ble_eq_true hn
 refine ⟨fun a w hs hc => ?_⟩
 refine wpList_plain hg fun K hK => ?_
 obtain ⟨b, w', hr, hc'⟩ := hv a w hs hc
 show Oper.upon P o a K Q ((execOp a.eval o).run P w)
 rw [hr]
 show K (a.put o.dst (V b)) w'
 rw [hd]
 exact hK _ _ ((k b).run _ w' (hs.put hn' true _) hc')
def rowElem (P : Program) (t : TypeId) : Option (TypeId × Nat × Nat) := match P.underlying t with
 | some (.slice e) => match P.info? e with
  | some i => match i.zero with
   | some z => match Nat.beq z.cells.size i.size && !Nat.beq i.size 0 with
    | true => match lit i.size, lit i.bytes with
     | some a, some b => some (e, a, b)
     | _, _ => none
    | false => none
   | none => none
  | none => none
 | _ => none
theorem oneL_mem : ∀ {vs : List Value}, oneL vs = true → ∀ u ∈ vs, u.oneCell' = true
 | [], _, u, hu => by cases hu
 | v :: r, h, u, hu => by
  simp only [oneL, Bool.and_eq_true] at h
  rcases List.mem_cons.1 hu with rfl | hu
  ·exact h.1
  ·exact oneL_mem h.2 u hu
theorem rowElem_spec {t e : TypeId} {sz by' : Nat} (h : rowElem P t = some (e, sz, by')) : ∃ i z, P.underlying t = some (.slice e) ∧ P.info? e = some i ∧ i.zero = some z ∧ i.size = sz ∧ i.bytes = by' ∧ z.cells.size = sz ∧ 0 < sz := by
 unfold rowElem at h
 split at h
 ·rename_i e' he
  split at h
  ·rename_i i hi
   split at h
   ·rename_i z hz
    split at h
    ·rename_i hb
     split at h
     ·rename_i a b ha hb'
      simp only [Option.some.injEq, Prod.mk.injEq] at h
      obtain ⟨rfl, rfl, rfl⟩ := h
      simp only [Bool.and_eq_true, Nat.beq_eq, Bool.not_eq_true'] at hb
      have h1 := lit_eq ha
      have h2 := lit_eq hb'
      refine ⟨i, z, he, hi, hz, h1, h2, by rw [hb.1, h1], ?_⟩
      rw [← h1]
      rcases Nat.eq_zero_or_pos i.size with h0 | h0
      ·rw [h0] at hb; simp at hb
      ·exact h0
     ·cases h
    ·cases h
   ·cases h
  ·cases h
 ·cases h
inductive Hole : Nat → List Item → Item → (Item → List Item) → Prop where
 | z {i : Item} {H : List Item} : Hole 0 (i :: H) i (fun j => j :: H)
 | s {p : Nat} {k i : Item} {H : List Item} {F : Item → List Item} (h : Hole p H i F) : Hole (p + 1) (k :: H) i (fun j => k :: F j)
theorem Hole.au {p : Nat} {H : List Item} {i : Item} {F : Item → List Item} (h : Hole p H i F := by (repeat (first | apply Hole.z | apply Hole.s)); first | done | fail) : Hole p H i F := h
theorem Hole.eq {p : Nat} {H : List Item} {i : Item} {F : Item → List Item} (h : Hole p H i F) : H[p]? = some i ∧ ∀ j, F j = H.set p j := by
 induction h with
 | z => exact ⟨rfl, fun j => rfl⟩
 | s h ih => exact ⟨ih.1, fun j => by show _ :: _ = _ :: _; rw [ih.2 j]⟩
theorem OL.append {F : Item → List Item} {e : TypeId} {dd sz bb p m cap cap2 o b m2 : Nat} {base : Nat} {O : Nat → Prop} {q : Option Addr} {xs cs news : List Value} {t' : TypeId}
  (hx : evl l x = some (true, .slice q m cap)) (hy : evl l y = some (true, .slice (some ⟨b, o, none⟩) m2 cap2)) (hn : Nat.ble (dd + 1) n.n = true)
  (hu : rowElem P t = some (e, sz, bb)) (hp' : Hole p H (row base O q m cap e sz xs) F) (hb : blk b t' cs ∈ H) (ht : Take (m2 * sz) (cs.drop o) news) (h1 : oneL news = true) (hm2 : Nat.ble 1 m2 = true)
  (hs : ∃ s ∈ S, base ≤ s.heap.size) (hlim : (m + m2) ≤ 9223372036854775807 ∧ (m + m2) * bb ≤ 140737488355328)
  (k : ∀ (O' : Nat → Prop) (g' cap' : Nat), OL P n ops Q rest ((dd, true, .slice (some ⟨g', 0, none⟩) (m + m2) cap') :: l) (Cls (F (row base O' (some ⟨g', 0, none⟩) (m + m2) cap' e sz (xs ++ news))) S)) :
  OL P n ops Q (⟨some dd, .call { callee := .builtin .append, args := #[x, y], argTypes := #[t, t] }, ty, pos, af, none⟩ :: rest) l (Cls H S) := by
 have hp := hp'.eq.1
 have hF := hp'.eq.2
 refine OL.newT (α := (Nat → Prop) × Nat × Nat) (C' := fun r w => Cls (H.set p (row base r.1 (some ⟨r.2.1, 0, none⟩) (m + m2) r.2.2 e sz (xs ++ news))) S w) rfl rfl hn (fun r => .slice (some ⟨r.2.1, 0, none⟩) (m + m2) r.2.2) (fun a w hs' hc => ?_) (fun r => by rw [← hF]; exact k r.1 r.2.1 r.2.2)
 obtain ⟨i, z, g1, g2, g3, g4, g5, g6, g7⟩ := rowElem_spec hu
 obtain ⟨s, hsm, hsb⟩ := hs
 have hbw : base ≤ w.heap.size := Nat.le_trans hsb (hc.kp s hsm).size
 have hi := hc.item (List.mem_of_getElem? hp)
 have hnews : ∀ j u, news[j]? = some u → w.cell? ((⟨b, o, none⟩ : Addr).add j) = some u := fun j u hj => by
  rw [add_mid, blk_cell (hc.item hb)]
  have := ht.get.2 j u hj
  rwa [List.getElem?_drop] at this
 obtain ⟨v', w', hr, h2, h3, h4, h5⟩ := run_append_own_at (P := P) (w := w) base t ty e i z sz bb g1 g2 g3 g4 g5 g6 g7 _ m xs hi.2 ⟨b, o, none⟩ m2 cap2 news ht.get.1 hnews (fun u hu => oneL_mem h1 u hu) hlim.1 hlim.2 hbw
 have hpos : 1 ≤ m2 := Nat.le_of_ble_eq_true hm2
 rcases h2.2 with ⟨rfl, h0⟩ | ⟨g', cap', cur, rfl, hb', hg', hrest⟩
 ·omega
 ·refine ⟨(fun k => O k ∨ k = g', g', cap'), w', ?_, ?_⟩
  ·simp only [execOp, resolve, invoke, builtin, Sem.run_bind, Sem.run_pure, Result.andThen_ok, List.map_toArray, List.map_cons, List.map_nil, hs'.eval hx rfl, hs'.eval hy rfl, hr]
  ·have hown : ∀ k, some k = (Value.slice q m cap).ownBlock → base ≤ k ∧ O k := fun k hk => by
    cases q with
    | none => simp [Value.ownBlock] at hk
    | some a =>
     simp only [Value.ownBlock, Option.some.injEq] at hk
     subst hk
     exact ⟨(World.ownsRow.lt hi.2 _ rfl).1, hi.1 _ rfl⟩
   refine hc.turn p hp (j := row base (fun k => O k ∨ k = g') (some ⟨g', 0, none⟩) (m + m2) cap' e sz (xs ++ news)) ⟨h3.os, h3.tape, h3.output, h3.size, fun k hk hO => h3.block k hk (fun e => hO (hown k e))⟩ ?_ ?_ ?_
   ·exact ⟨fun a ha => by cases ha; exact .inr rfl, h2⟩
   ·intro k hk
    have hlt : g' < w'.heap.size := (Array.getElem?_eq_some_iff.1 hg').1
    rcases hk.2 with h | h
    ·exact ⟨.inl ⟨hk.1, h⟩, Nat.lt_of_lt_of_le (hc.lt _ (List.mem_of_getElem? hp) k ⟨hk.1, h⟩) h3.size⟩
    ·subst h
     refine ⟨?_, hlt⟩
     rcases h5 with h5 | h5
     ·exact .inl (hown k (by rw [← h5]; rfl))
     ·simp only [Value.ownBlock, Option.some.injEq] at h5
      exact .inr (by omega)
   ·exact fun k hk => ⟨hk.1, .inl hk.2⟩
theorem Pev.load_row {b o base m cap size : Nat} {O : Nat → Prop} {e : TypeId} {xs : List Value} {v : Value} (hx : evl l x = some (cx, .pointer (some ⟨b, o, none⟩))) (hcx : c = true → cx = true)
  (hp : row base O (some ⟨b, 0, none⟩) m cap e size xs ∈ H) (hs : scalB P t = true) (hv : xs[o]? = some v) : Pev P n l (Cls H S) ⟨d, .load t x, ty, pos, af, g⟩ c v :=
 .load_of hx hcx fun _ w hw => run_loadVar_scal hs (row_cell (hw.item hp) hv)
end
end Go.Eng

/- Slices that are read: their cells in a world; slices of strings. General. No condition. -/
namespace Go.Eng
open Go.RowKit
def SlAt (w : World) (B : Nat) (q : Option Addr) (vs : List Value) : Prop := 0 < vs.length → ∃ a, q = some a ∧ a.block < B ∧ CellsAt w a vs
theorem SlAt.nil {w : World} {B : Nat} {q : Option Addr} : SlAt w B q [] := fun h => by simp at h
theorem SlAt.keep {w w' : World} {B B' : Nat} {q : Option Addr} {vs : List Value} (h : SlAt w B q vs) (hb : ∀ p : Addr, p.block < B → w'.cell? p = w.cell? p) (hB : B ≤ B') : SlAt w' B' q vs := fun hv => by
 obtain ⟨a, rfl, hab, hc⟩ := h hv
 exact ⟨a, rfl, by omega, fun j v hj => (hb (a.add j) (by simpa [add_block] using hab)).trans (hc j v hj)⟩
theorem SlAt.ext {w w' : World} {B : Nat} {q : Option Addr} {vs : List Value} (h : SlAt w B q vs) (hx : Ext w w') (hB : B ≤ w.heap.size) : SlAt w' w'.heap.size q vs :=
 h.keep (fun p hp => World.cell?_of_block (hx.below.block p.block (by omega))) (Nat.le_trans hB hx.size)
theorem SlAt.up {w : World} {B B' : Nat} {q : Option Addr} {vs : List Value} (h : SlAt w B q vs) (hB : B ≤ B') : SlAt w B' q vs := fun hv => by
 obtain ⟨a, rfl, hab, hc⟩ := h hv
 exact ⟨a, rfl, by omega, hc⟩
theorem blk_lt {w : World} {b : Nat} {t : TypeId} {cs : List Value} (h : (blk b t cs).holds w) : b < w.heap.size := by
 have h' : w.heap[b]? = some (.cells cs.toArray t (0, 0)) := h
 exact (Array.getElem?_eq_some_iff.1 h').1
theorem SlAt.part {w : World} {B : Nat} {a : Addr} {vs us : List Value} (o : Nat) (h : SlAt w B (some a) vs) (hu : ∀ j v, us[j]? = some v → vs[o + j]? = some v) : SlAt w B (some (a.add o)) us := fun hv => by
 have h0 : us[0]? = some us[0] := List.getElem?_eq_getElem hv
 have h1 := hu 0 _ h0
 have hl := (List.getElem?_eq_some_iff.1 h1).1
 obtain ⟨a', he, hab, hc⟩ := h (by omega)
 cases he
 exact ⟨_, rfl, by simpa [add_block] using hab, fun j v hj => by rw [add_add]; exact hc _ v (hu j v hj)⟩
theorem SlAt.of_row {w : World} {base n cap size : Nat} {O : Nat → Prop} {q : Option Addr} {e : TypeId} {xs : List Value} (h : (row base O q n cap e size xs).holds w) : SlAt w w.heap.size q xs := fun hx => by
 have h2 := h.2
 rcases h2.2 with ⟨h3, h4⟩ | ⟨g, cap', cur, h3, hb, hg, h4, h5, h6, h7⟩
 ·have := h2.1
  rw [h4] at this
  omega
 ·simp only [Value.slice.injEq] at h3
  obtain ⟨rfl, _⟩ := h3
  have hlt : g < w.heap.size := (Array.getElem?_eq_some_iff.1 hg).1
  refine ⟨_, rfl, hlt, fun j v hj => ?_⟩
  rw [add_mid, Nat.zero_add]
  have h' : (row base O (some ⟨g, 0, none⟩) n cap e size xs).holds w := h
  exact row_cell h' hj
end Go.Eng

/- Parts of slices, function values, stores into rows, made rows. General. No condition. -/
namespace Go.Eng
open Go.RowKit
section
variable {P : Program} {n : Nm} {l : Env} {H : List Item} {S : List World} {C : World → Prop} {c : Bool} {d : Option Nat} {ty : TypeId} {pos : String} {af : Array Edge} {g : Option (Nat × Bool)}
variable {ops : Array Oper} {rest : List Oper} {Q : Exit → Act → World → Prop}
variable {t : TypeId} {x y z : Operand} {cx cy cz : Bool}
def cutq (q : Option Addr) (cap i sz : Nat) : Option Addr := if cap = i then q else q.map (·.add (i * sz))
theorem SlAt.cut {w : World} {B : Nat} {q : Option Addr} {vs : List Value} {cap i sz : Nat} (h : SlAt w B q vs) (hl : vs.length ≤ cap * sz) : SlAt w B (cutq q cap i sz) (vs.drop (i * sz)) := by
 intro hv
 have hlt : i * sz < vs.length := by
  rw [List.length_drop] at hv; omega
 obtain ⟨a, rfl, hab, hc⟩ := h (by omega)
 have hne : ¬ cap = i := by
  intro e; subst e; omega
 refine ⟨a.add (i * sz), by simp [cutq, hne], by simpa [add_block] using hab, fun j v hj => ?_⟩
 rw [add_add]
 exact hc _ v (by rwa [List.getElem?_drop] at hj)
theorem Pev.slice_hi {e : TypeId} {sz len cp i : Nat} {k : IntKind} {j : Int} {q : Option Addr} (hx : evl l x = some (cx, .slice q len cp)) (hcx : c = true → cx = true) (hz : evl l z = some (cz, .int k j)) (hcz : c = true → cz = true)
  (hu : slElem P t = some (e, sz)) (hj : j = (i : Int)) (hb : c = true → i ≤ cp) : Pev P n l C ⟨d, .slice t x none (some z) none, ty, pos, af, g⟩ c (.slice q i cp) :=
 .of_run fun h a w hs hw => by
  subst hj
  have hb' := hb h
  unfold slElem at hu
  cases h1 : P.underlying t with
  | none => simp [h1] at hu
  | some d1 =>
   rw [h1] at hu
   cases d1 <;> simp only [reduceCtorEq] at hu
   rename_i e'
   cases h2 : sizeN P e' with
   | none => simp [h2] at hu
   | some k' =>
    simp only [execOp, hs.eval hx (hcx h), Option.map_some, Option.map_none, hs.eval hz (hcz h), Instr.sliceAt, Instr.slice, Sem.run_bind, run_underlying h1, Result.andThen_ok, Instr.sliceBounds, Instr.sliceBound, asIntOf, Sem.run_pure, run_sizeN h2]
    simp [hb', add_zero_]
theorem Pev.slice_lo {e : TypeId} {sz len cp i : Nat} {k : IntKind} {j : Int} {q : Option Addr} (hx : evl l x = some (cx, .slice q len cp)) (hcx : c = true → cx = true) (hy : evl l y = some (cy, .int k j)) (hcy : c = true → cy = true)
  (hu : slElem P t = some (e, sz)) (hj : j = (i : Int)) (hb : c = true → i ≤ len) : Pev P n l C ⟨d, .slice t x (some y) none none, ty, pos, af, g⟩ c (.slice (cutq q cp i sz) (len - i) (cp - i)) :=
 .of_run fun h a w hs hw => by
  subst hj
  have hb' := hb h
  unfold slElem at hu
  cases h1 : P.underlying t with
  | none => simp [h1] at hu
  | some d1 =>
   rw [h1] at hu
   cases d1 <;> simp only [reduceCtorEq] at hu
   rename_i e'
   cases h2 : sizeN P e' with
   | none => simp [h2] at hu
   | some k' =>
    rw [h2] at hu
    simp only [Option.some.injEq, Prod.mk.injEq] at hu
    obtain ⟨rfl, rfl⟩ := hu
    simp only [execOp, hs.eval hx (hcx h), Option.map_some, Option.map_none, hs.eval hy (hcy h), Instr.sliceAt, Instr.slice, Sem.run_bind, run_underlying h1, Result.andThen_ok, Instr.sliceBounds, Instr.sliceBound, asIntOf, Sem.run_pure, run_sizeN h2]
    simp [hb', cutq]
theorem Pev.idxI {e : TypeId} {sz len cp : Nat} {ki : IntKind} {i : Int} {q : Addr} (hx : evl l x = some (cx, .slice (some q) len cp)) (hcx : c = true → cx = true) (hy : evl l y = some (cy, .int ki i)) (hcy : c = true → cy = true)
  (hu : slElem P t = some (e, sz)) (hi : c = true → 0 ≤ i ∧ i < len) : Pev P n l C ⟨d, .indexAddr t x y, ty, pos, af, g⟩ c (.pointer (some (q.add (i.toNat * sz)))) :=
 .of_run fun h a w hs hw => by
  obtain ⟨h1, h2⟩ := hi h
  obtain ⟨m, rfl⟩ := Int.eq_ofNat_of_zero_le h1
  simp only [execOp, hs.eval hx (hcx h), hs.eval hy (hcy h), Sem.run_bind, run_indexAt_slice hu (show m < len by omega), Result.andThen_ok]; rfl
theorem Pev.makeFunc {f : FuncId} {first caps : List Operand} {us vs : List Value} (h1 : Args l c first us) (h2 : Args l c caps vs) : Pev P n l C ⟨d, .makeFunc (.func f) first.toArray caps.toArray, ty, pos, af, g⟩ c (.func (.func f) us.toArray vs.toArray) :=
 .of_run fun h a w hs hw => by
  simp only [execOp, Instr.makeFunc]
  rw [List.map_toArray, List.map_toArray, h1.map hs h, h2.map hs h]
  rfl
end
end Go.Eng

/- From a law's walk to its row: the arguments read behind the call as before, where nothing that was there has turned; types as trees out of a reading. General. No condition. -/
namespace Go.Eng
open Go.RowKit Go.ChangeShapes Go.WideShapes Go.ChangeAt
section
variable {H : Type} {enc : TypeId × Value → H} {P : Program}
def readableB (P : Program) (ts : List TypeId) : Bool := ts.all fun t => P.readableRec t && Nat.blt t P.types.size
theorem trodAll_stays (hl : laidOutB P = true) {W W' : World} (hb : Below W.heap.size W W') {sp : Nat → Bool} :
  ∀ {ts : List TypeId} {vs : List Value} {ds : List (DataW H)} {ps : List MemPlace}, readableB P ts = true → DataW.TrodAll enc P W 0 (fun _ => true) true ts vs ds ps →
   (∀ x ∈ ps, x.block < W.heap.size) → (∀ x ∈ ps, sp x.block = true) → DataW.TrodAll enc P W' 0 sp true ts vs ds ps
 | [], vs, ds, ps, _, h, _, _ => by
  obtain ⟨rfl, rfl, rfl⟩ := trodAll_nil h
  exact trodAll_mk0
 | t :: ts, vs, ds, ps, hr, h, hlt, hsp => by
  obtain ⟨v, vs', d, ds', p, q, rfl, rfl, rfl, h0, h1⟩ := trodAll_cons h
  simp only [readableB, List.all_cons, Bool.and_eq_true] at hr
  have hrow : t < P.types.size := Nat.le_of_ble_eq_true hr.1.2
  exact trodAll_cons_mk (Go.WideElems.Trod_stays hl hr.1.1 hrow h0 (fun x hx => hb.same (hlt x (List.mem_append_left _ hx))) (fun x hx => hsp x (List.mem_append_left _ hx)))
   (trodAll_stays hl hb (by simpa [readableB] using hr.2) h1 (fun x hx => hlt x (List.mem_append_right _ hx)) (fun x hx => hsp x (List.mem_append_right _ hx)))
theorem law_post {f : Func} {s : ChangeSpec} {W W' : World} {args : Array Value} {ds : List (DataW H)} {p : List MemPlace} {tb : TypeId} (hl : laidOutB P = true) (hrd : readableB P f.params.toList = true)
  (hv : s.vars = []) (hrt : f.resultTypes = #[tb]) (hu : P.underlying tb = some .bool) (hfn : s.fn H ds = { results := [.lit (.bool true)], args := ds })
  (hW : DataW.Whole enc P f.params.toList s.vars false W args.toList ds [] p) (hA : DataW.TrodAll enc P W 0 (fun _ => true) true f.params.toList args.toList ds p) (hb : Below W.heap.size W W') :
  s.post enc P f false true false false W args (.bool true) W' := by
 have hlt : ∀ x ∈ p, x.block < W.heap.size := fun x hx => hW.lt x hx
 have hargs : ∀ sp : Nat → Bool, (∀ x ∈ p, sp x.block = true) → DataW.TrodAll enc P W' 0 sp true f.params.toList args.toList ds p := fun sp hsp => trodAll_stays hl hb hrd hA hlt hsp
 have hres : ∀ (b : Nat) (sp : Nat → Bool) (hd : Bool), DataW.TrodAll enc P W' b sp hd f.resultTypes.toList ((Value.bool true).resultList f.resultTypes.size) [.lit (.bool true)] [] := by
  intro b sp hd
  rw [hrt]
  exact trodAll_cons_mk (shut_bool hu _) trodAll_mk0
 have hold : ∀ x ∈ p, (fun b => decide (b < W.heap.size)) x.block = true := fun x hx => by simpa using hlt x hx
 have hok : ∀ (j : Nat) (t : TypeId) (r : Value), f.resultTypes[j]? = some t → ((Value.bool true).resultList f.resultTypes.size)[j]? = some r → Value.okWide P W' .any 0 t r :=
  ok_one hrt rfl (okWide_bool_mk hu _)
 have hfn' : s.fn H (ds ++ []) = { results := [.lit (.bool true)], args := ds } := by rw [List.append_nil]; exact hfn
 have hvars : ∀ sp : Nat → Bool, DataW.TrodVars enc P W' sp s.vars (s.fn H (ds ++ [])).vars [] := fun sp => by rw [hv, hfn']; rfl
 refine ⟨ds, [], p, [], p, [], hW, ?_, ?_, ?_, World.keptBut_mono (fun x hx => ⟨hx, ?_⟩) (hb.frame (· ∈ p)), fun _ => ?_⟩
 ·rw [hfn']; exact hres _ _ _
 ·rw [hfn']; exact hargs _ hold
 ·exact hvars _
 ·exact .inr (by simpa using hx)
 ·obtain ⟨_, _, _, _, _, hz, hn⟩ := hW
  refine ⟨hok, _, _, ([] ++ p) ++ [], ⟨[] ++ p, [], trodAll_append (hargs _ (fun _ _ => rfl)) (hres _ _ _), hvars _, rfl, ?_, ?_⟩, ?_⟩
  ·intro b off hp
   have hin : MemPlace.cell b off ∈ p := by simpa using hp
   rw [hb.frozen (hlt _ hin)]
   exact hz b off hin
  ·intro ha; cases ha
  ·intro x hx _
   simpa using hx
/-! ### readings -/
variable {w : World} {spare : Nat → Bool} {held : Bool}
theorem cell_lt {a : Addr} {v : Value} (h : w.cell? a = some v) : a.block < w.heap.size := by
 unfold World.cell? at h
 rcases Nat.lt_or_ge a.block w.heap.size with hl | hl
 ·exact hl
 ·rw [Array.getElem?_eq_none hl] at h; cases h
theorem cellsAt_of {a : Addr} {n : Nat} {cs : List Value} (h : w.cells? 0 a n = some cs) : CellsAt w a cs ∧ cs.length = n := by
 obtain ⟨_, hl, hc⟩ := World.cells?_some h
 refine ⟨fun j v hj => ?_, hl⟩
 have hjl : j < n := by
  rw [← hl]
  exact (List.getElem?_eq_some_iff.1 hj).1
 rw [hc j hjl]; exact hj
theorem wf_i64 {m : Int} (h : (Lit.int .i64 m).wf = true) : I64 m := by
 simp only [Lit.wf, IntKind.min, IntKind.max, IntKind.signed, IntKind.bits, Bool.and_eq_true, decide_eq_true_eq] at h
 unfold I64
 have h1 := h.1; have h2 := h.2
 simp at h1 h2
 omega
end
end Go.Eng

/- Slices whose elements take several cells: the cells of a list of things, element by element; in-place append and clear; slices in three numbers. General. No condition. -/
namespace Go.Eng
open Go.RowKit
theorem list_of {α : Type} (R : Nat → α → Prop) : ∀ (n : Nat), (∀ i, i < n → ∃ x, R i x) → ∃ l : List α, l.length = n ∧ ∀ i x, l[i]? = some x → R i x
 | 0, _ => ⟨[], rfl, fun i x h => by simp at h⟩
 | n + 1, h => by
  obtain ⟨l, hl, hr⟩ := list_of R n (fun i hi => h i (by omega))
  obtain ⟨x, hx⟩ := h n (by omega)
  refine ⟨l ++ [x], by simp [hl], fun i y hy => ?_⟩
  rcases Nat.lt_or_ge i l.length with hi | hi
  ·rw [List.getElem?_append_left hi] at hy
   exact hr i y hy
  ·rw [List.getElem?_append_right hi] at hy
   have h0 : i - l.length = 0 := by
    have := (List.getElem?_eq_some_iff.1 hy).1
    simpa using this
   rw [h0] at hy
   simp only [List.getElem?_cons_zero, Option.some.injEq] at hy
   subst hy
   obtain rfl : i = n := by omega
   exact hx
def cat {α : Type} (f : α → List Value) : List α → List Value
 | [] => []
 | x :: l => f x ++ cat f l
section
variable {α : Type} {f : α → List Value} {sz : Nat}
theorem cat_append (f : α → List Value) : ∀ (a b : List α), cat f (a ++ b) = cat f a ++ cat f b
 | [], b => rfl
 | x :: a, b => by rw [List.cons_append, cat, cat_append f a b, cat, List.append_assoc]
theorem cat_one (f : α → List Value) (x : α) : cat f [x] = f x := by simp [cat]
theorem cat_length (hf : ∀ x, (f x).length = sz) : ∀ (l : List α), (cat f l).length = l.length * sz
 | [] => by simp [cat]
 | x :: l => by rw [cat, List.length_append, cat_length hf l, hf, List.length_cons, Nat.succ_mul, Nat.add_comm]
theorem cat_take (hf : ∀ x, (f x).length = sz) : ∀ (l : List α) (i : Nat), (cat f l).take (i * sz) = cat f (l.take i)
 | l, 0 => by simp [cat]
 | [], i + 1 => by simp [cat]
 | x :: l, i + 1 => by
  rw [cat, List.take_succ_cons, cat, ← cat_take hf l i, Nat.succ_mul, Nat.add_comm, List.take_append, hf, List.take_of_length_le (by rw [hf]; omega)]
  congr 2
  omega
theorem cat_drop (hf : ∀ x, (f x).length = sz) : ∀ (l : List α) (i : Nat), (cat f l).drop (i * sz) = cat f (l.drop i)
 | l, 0 => by simp [cat]
 | [], i + 1 => by simp [cat]
 | x :: l, i + 1 => by
  rw [cat, List.drop_succ_cons, ← cat_drop hf l i, Nat.succ_mul, Nat.add_comm, List.drop_append, hf, List.drop_of_length_le (by rw [hf]; omega), List.nil_append]
  congr 1
  omega
theorem cat_get (hf : ∀ x, (f x).length = sz) {l : List α} {i : Nat} {x : α} (h : l[i]? = some x) : ∀ (j : Nat) (v : Value), (f x)[j]? = some v → (cat f l)[i * sz + j]? = some v := by
 intro j v hj
 have hi := (List.getElem?_eq_some_iff.1 h).1
 have hd := cat_drop hf l i
 rw [List.drop_eq_getElem_cons hi, cat] at hd
 have hx : l[i] = x := by
  rw [List.getElem?_eq_getElem hi] at h
  exact Option.some.inj h
 rw [hx] at hd
 have : ((cat f l).drop (i * sz))[j]? = some v := by
  rw [hd, List.getElem?_append_left (List.getElem?_eq_some_iff.1 hj).1]; exact hj
 rwa [List.getElem?_drop] at this
end
section
variable {α : Type} {f : α → List Value} {sz : Nat}
end
end Go.Eng

/- Made slices of one-cell elements, and a square of rows. General. No condition. -/
namespace Go.Eng
open Go.RowKit
section
variable {P : Program} {n : Nm} {l : Env} {H : List Item} {S : List World} {C : World → Prop} {ty : TypeId} {pos : String} {af : Array Edge}
variable {ops : Array Oper} {rest : List Oper} {Q : Exit → Act → World → Prop} {t : TypeId} {x y : Operand}
theorem madeCells_one (z0 : Value) (m : Nat) : madeCells #[z0] m = (List.replicate m z0).toArray := by
 apply Array.ext
 ·simp [madeCells]
 ·intro i h1 h2
  simp [madeCells, Nat.mod_one]
def zeroCell (P : Program) (e : TypeId) : Option Value := match P.info? e with
 | some i => match i.zero with
  | some z => match z.cells.toList with
   | [z0] => some z0
   | _ => none
  | none => none
 | none => none
theorem OL.makeSlice {e : TypeId} {dd m bb : Nat} {z0 : Value} {k1 k2 : IntKind} {a1 a2 : Int} (hx : evl l x = some (true, .int k1 a1)) (hy : evl l y = some (true, .int k2 a2)) (hn : Nat.ble (dd + 1) n.n = true)
  (hu : rowElem P t = some (e, 1, bb)) (hz : zeroCell P e = some z0) (h1 : a1 = (m : Int)) (h2 : a2 = (m : Int)) (hlim : m ≤ 9223372036854775807 ∧ m * bb ≤ 140737488355328)
  (k : ∀ b, AllLe S b → OL P n ops Q rest ((dd, true, .slice (some ⟨b, 0, none⟩) m m) :: l) (Cls (blk b e (List.replicate m z0) :: H) S)) :
  OL P n ops Q (⟨some dd, .makeSlice t x y, ty, pos, af, none⟩ :: rest) l (Cls H S) := by
 obtain ⟨i, z, g1, g2, g3, g4, g5, g6, g7⟩ := rowElem_spec hu
 subst h1
 subst h2
 have hcell : z.cells = #[z0] := by
  unfold zeroCell at hz
  rw [g2] at hz
  simp only [g3] at hz
  split at hz
  ·rename_i z1 he
   obtain rfl := Option.some.inj hz
   apply Array.ext'
   exact he
  ·cases hz
 refine OL.new (C' := fun b w => AllLe S b ∧ Cls (blk b e (List.replicate m z0) :: H) S w) rfl rfl hn (fun b => .slice (some ⟨b, 0, none⟩) m m) (fun a w hs hc => ⟨w.heap.size, w.alloc (.cells (List.replicate m z0).toArray e), ?_, AllLe.mk hc, hc.alloc e (List.replicate m z0)⟩) (fun b => ⟨fun a w hs hc => (k b hc.1).run a w hs hc.2⟩)
 have hb : (i.bytes : Int) * (m : Int) ≤ 281474976710656 := by
  have h3 := hlim.2
  rw [← g5, Nat.mul_comm] at h3
  have h5 : ((i.bytes * m : Nat) : Int) ≤ ((140737488355328 : Nat) : Int) := Int.ofNat_le.2 h3
  rw [Int.natCast_mul] at h5
  exact Int.le_trans h5 (by decide)
 have hr := run_make (P := P) w t e i z g1 g2 g3 k1 k2 (m : Int) (m : Int) (by omega) (by omega) hb (by omega)
 rw [hcell, g4, Nat.mul_one, Int.toNat_natCast, madeCells_one] at hr
 simp only [execOp, hs.eval hx rfl, hs.eval hy rfl, Sem.run_bind, hr, Result.andThen_ok]
 rfl
end
end Go.Eng

/- A square of rows: blocks of one element type, told as a list of rows. General. No condition. -/
namespace Go.Eng
open Go.RowKit
def grid (bs : List Nat) (t : TypeId) (rows : List (List Value)) : Item :=
 ⟨fun k => k ∈ bs, fun w => bs.length = rows.length ∧ bs.Nodup ∧ ∀ (i b : Nat) (r : List Value), bs[i]? = some b → rows[i]? = some r → w.heap[b]? = some (.cells r.toArray t (0, 0)),
  fun w w' hk h => ⟨h.1, h.2.1, fun i b r hb hr => (hk b (List.mem_of_getElem? hb)).trans (h.2.2 i b r hb hr)⟩⟩
theorem NotOwned.grid {H : List Item} {bs : List Nat} {t : TypeId} {rows : List (List Value)} {k B : Nat} (h : ∀ b, b ∈ bs → B ≤ b) (hk : k < B) (r : NotOwned H k) : NotOwned (Eng.grid bs t rows :: H) k :=
 NotOwned.any (fun hm => Nat.not_le_of_lt hk (h k hm)) r
section
variable {P : Program} {n : Nm} {l : Env} {H : List Item} {S : List World} {C : World → Prop} {c : Bool} {d : Option Nat} {ty : TypeId} {pos : String} {af : Array Edge} {g : Option (Nat × Bool)}
variable {ops : Array Oper} {rest : List Oper} {Q : Exit → Act → World → Prop} {t : TypeId} {x y : Operand} {cx cy : Bool}
end
end Go.Eng

/- A guard that is known to hold is put away; slices held against nil; readings of slices of strings. General. No condition. -/
namespace Go.Eng
open Go.RowKit
section
variable {P : Program} {n : Nm} {l : Env} {H : List Item} {S : List World} {C : World → Prop} {c : Bool} {d : Option Nat} {op : Op} {ty : TypeId} {pos : String} {af : Array Edge} {g : Option (Nat × Bool)}
variable {ops : Array Oper} {rest : List Oper} {Q : Exit → Act → World → Prop} {x y : Operand} {cx cy : Bool} {t : TypeId}
theorem OL.ungate (hg : Guard l ops g c) (hc : c = true) (h : OL P n ops Q (⟨d, op, ty, pos, af, none⟩ :: rest) l C) : OL P n ops Q (⟨d, op, ty, pos, af, g⟩ :: rest) l C := by
 refine ⟨fun a w hs hw => ?_⟩
 have h1 := h.run a w hs hw
 have hwant := Guard.wanted (o := ⟨d, op, ty, pos, af, g⟩) hs hg
 rw [hc] at hwant
 unfold wpList at h1 ⊢
 rw [if_pos hwant]
 rw [if_pos (by simp [Region.wanted])] at h1
 exact h1
theorem OL.gateOff {dd : Nat} (hg : Guard l ops g c) (hc : c = false) (hn : Nat.ble (dd + 1) n.n = true) (h : OL P n ops Q rest ((dd, false, undef) :: l) C) : OL P n ops Q (⟨some dd, op, ty, pos, af, g⟩ :: rest) l C := by
 refine ⟨fun a w hs hw => ?_⟩
 have hwant := Guard.wanted (o := ⟨some dd, op, ty, pos, af, g⟩) hs hg
 rw [hc] at hwant
 unfold wpList
 rw [if_neg (by simp [hwant])]
 exact h.run _ w (hs.put (Nat.le_of_ble_eq_true hn) false undef) hw
theorem slElem_und {e : TypeId × Nat} (hu : slElem P t = some e) : P.underlying t = some (.slice e.1) := by
 unfold slElem at hu
 cases h1 : P.underlying t with
 | none => simp [h1] at hu
 | some d1 =>
  rw [h1] at hu
  cases d1 <;> simp only [reduceCtorEq] at hu
  rename_i e'
  cases h2 : sizeN P e' with
  | none => simp [h2] at hu
  | some k' =>
   rw [h2] at hu
   obtain rfl := Option.some.inj hu
   rfl
theorem guard_slice {op : BinOp} {x y : Operand} {q q' : Option Addr} {m cp m' c' : Nat} {w : World} : (eqGuard op t x y (.slice q m cp) (.slice q' m' c')).run P w = .ok () w := by cases op <;> rfl
theorem Bin.slice_nil {q : Option Addr} {m cp m' c' : Nat} {e : TypeId × Nat} (hu : slElem P t = some e) : Bin P .eql t (.slice q m cp) (.slice none m' c') (.bool q.isNone) := ⟨fun x y w => by
 rw [Sem.run_bind, guard_slice, Result.andThen_ok]
 simp only [binOp]
 simp [Op.equal, Op.maxDepth, Lib.run_equalIn_slice_nil w 9999 t e.1 q m cp m' c' (slElem_und hu)]⟩
end
/-! readings -/
section
variable {H : Type} {enc : TypeId × Value → H} {P : Program} {w : World} {spare : Nat → Bool} {held : Bool}
end
end Go.Eng

/- A region that draws its order, whose first operations are quiet and whose last ones write memory, one behind another. General. No condition. -/
namespace Go.Eng
open Go.RowKit
section
variable {P : Program} {ops : Array Oper} {C : World → Prop} {Q : Exit → Act → World → Prop} {m : Nat}
def allB (m : Nat) (listed : Array Bool) : Bool := (List.range m).all fun j => listed.getD j false
theorem allB_no {m i : Nat} {listed : Array Bool} (hi : i < m) (h : listed.getD i true = false) : allB m listed = false := by
 rw [Bool.eq_false_iff]
 intro ht
 have := List.all_eq_true.1 ht i (List.mem_range.2 hi)
 rcases Nat.lt_or_ge i listed.size with h' | h'
 ·simp [h'] at h this; rw [h] at this; cases this
 ·simp [Array.getElem?_eq_none h'] at h
def wpH (P : Program) (ops : Array Oper) (C : World → Prop) (Q : Exit → Act → World → Prop) (m : Nat) : Nat → Array Bool → Act → Prop
 | 0, listed, a => allB m listed = true ∧ ∀ w, C w → wpAny P .any ops Q 0 listed a w
 | f + 1, listed, a => (allB m listed = true → ∀ w, C w → wpAny P .any ops Q (f + 1) listed a w) ∧
   (allB m listed = false → Region.ready .any ops listed ≠ [] ∧ ∀ i ∈ Region.ready .any ops listed, qOp P ops C i (wpH P ops C Q m f (listed.setIfInBounds i true)) a)
theorem wpH_all {f : Nat} {listed : Array Bool} {a : Act} (ht : allB m listed = true) (h : ∀ w, C w → wpAny P .any ops Q f listed a w) : wpH P ops C Q m f listed a := by
 cases f with
 | zero => exact ⟨ht, h⟩
 | succ f => exact ⟨fun _ => h, fun h0 => by rw [ht] at h0; cases h0⟩
theorem wpAny_of_H : ∀ (f : Nat) (listed : Array Bool) (a : Act) (w : World), C w → wpH P ops C Q m f listed a → wpAny P .any ops Q f listed a w
 | 0, _, _, w, hw, h => h.2 w hw
 | f + 1, listed, a, w, hw, h => by
  cases ht : allB m listed with
  | true => exact h.1 ht w hw
  | false => exact ⟨fun h0 => absurd h0 (h.2 ht).1, fun i hi => wpOp_of_qOp hw (fun a' w' hw' => wpAny_of_H f _ a' w' hw') ((h.2 ht).2 i hi)⟩
def waitsB (ops : Array Oper) : Nat → Nat → Nat → Bool
 | 0, _, _ => false
 | f + 1, j, i => match ops[j]? with
  | some o => o.after.any fun e => Region.binds .any e && (Nat.beq e.on i || waitsB ops f e.on i)
  | none => false
def waitB (ops : Array Oper) (m : Nat) : Bool := (List.range ops.size).all fun j => Nat.blt j m || (List.range m).all fun i => waitsB ops ops.size j i
theorem waitB_spec (h : waitB ops m = true) {j : Nat} {o : Oper} (hj : ops[j]? = some o) (hm : m ≤ j) {i : Nat} (hi : i < m) : waitsB ops ops.size j i = true := by
 have hlt := (Array.getElem?_eq_some_iff.1 hj).1
 have h1 := List.all_eq_true.1 h j (List.mem_range.2 hlt)
 simp only [Bool.or_eq_true] at h1
 rcases h1 with h1 | h1
 ·have : j < m := Nat.le_of_ble_eq_true h1
  omega
 ·exact List.all_eq_true.1 h1 i (List.mem_range.2 hi)
def Dn (ops : Array Oper) (listed : Array Bool) : Prop := ∀ j o, ops[j]? = some o → listed.getD j false = true → ∀ e ∈ o.after, Region.binds .any e = true → listed.getD e.on false = true
theorem getD_ft {listed : Array Bool} {i : Nat} (h : listed.getD i true = false) : listed.getD i false = false := by
 rcases Nat.lt_or_ge i listed.size with h' | h'
 ·simp [h'] at h ⊢; exact h
 ·simp [Array.getElem?_eq_none h'] at h
theorem waits_done {listed : Array Bool} (hD : Dn ops listed) {i : Nat} : ∀ (f j : Nat) (o : Oper), ops[j]? = some o → (∀ e ∈ o.after, Region.binds .any e = true → listed.getD e.on false = true) → waitsB ops f j i = true → listed.getD i false = true
 | 0, _, _, _, _, h => by cases h
 | f + 1, j, o, hj, hall, h => by
  rw [waitsB, hj] at h
  simp only at h
  rw [Array.any_eq_true] at h
  obtain ⟨k, hk, h3⟩ := h
  simp only [Bool.and_eq_true, Bool.or_eq_true, Nat.beq_eq] at h3
  have h4 := hall _ (Array.getElem_mem hk) h3.1
  rcases h3.2 with h5 | h5
  ·rw [← h5]; exact h4
  ·cases ho : ops[(o.after[k]).on]? with
   | none =>
    cases f with
    | zero => cases h5
    | succ f => rw [waitsB, ho] at h5; cases h5
   | some o2 => exact waits_done hD f _ o2 ho (fun e he hb => hD _ o2 ho h4 e he hb) h5
theorem Dn.set {listed : Array Bool} (hD : Dn ops listed) {j : Nat} (hj : j ∈ Region.ready .any ops listed) : Dn ops (listed.setIfInBounds j true) := by
 obtain ⟨hjun, oj, hoj, hall⟩ := mem_ready.1 hj
 have hjlt : j < listed.size := by
  rcases Nat.lt_or_ge j listed.size with h' | h'
  ·exact h'
  ·simp [Array.getElem?_eq_none h'] at hjun
 have up : ∀ k, listed.getD k false = true → (listed.setIfInBounds j true).getD k false = true := fun k hk => by
  by_cases e : j = k
  ·subst e
   simp [Array.getElem?_setIfInBounds, hjlt]
  ·rw [getD_set_ne false e]; exact hk
 intro k o ho hk e he hb
 by_cases ek : j = k
 ·subst ek
  rw [hoj] at ho
  obtain rfl := Option.some.inj ho
  exact up _ (hall e he hb)
 ·rw [getD_set_ne false ek] at hk
  exact up _ (hD k o ho hk e he hb)
theorem wpH_first {i : Nat} {oi : Oper} {v : Value} (hi : ops[i]? = some oi) (him : i < m) (hwait : waitB ops m = true) (hsel : ∀ (j : Nat) (o : Oper) cs b, ops[j]? = some o → o.op ≠ .select cs b) :
  ∀ (fuel : Nat) (listed : Array Bool) (a : Act),
   Dn ops listed → (∀ j oj, ops[j]? = some oj → j ≠ i → listed.getD j true = false → (∀ e ∈ oj.after, Region.binds .any e = true → e.on ≠ i) → oi.apart ops oj = true) →
   i ∈ Region.ready .any ops listed → YieldsIn P ops C oi v a →
   wpH P ops C Q m fuel (listed.setIfInBounds i true) (a.put oi.dst v) → wpH P ops C Q m (fuel + 1) listed a := by
 intro fuel
 induction fuel with
 | zero =>
  intro listed a hD _ hr hy H
  have hT := allB_no him (mem_ready.1 hr).1
  refine ⟨fun h => (by rw [hT] at h; cases h), fun _ => ⟨fun h => (by rw [h] at hr; cases hr), fun j hj => ?_⟩⟩
  by_cases hji : j = i
  ·subst hji; exact hy.qOp hi H
  ·exfalso
   obtain ⟨hjun, oj, hoj, hall⟩ := mem_ready.1 hj
   have hjm : j < m := by
    rcases Nat.lt_or_ge j m with h | h
    ·exact h
    ·have h1 := waits_done hD _ j oj hoj hall (waitB_spec hwait hoj h him)
     rw [getD_ft (mem_ready.1 hr).1] at h1
     cases h1
   have := allB_no hjm (by rw [getD_set_ne true (Ne.symm hji)]; exact hjun : (listed.setIfInBounds i true).getD j true = false)
   rw [H.1] at this
   cases this
 | succ fuel ih =>
  intro listed a hD hfree hr hy H
  have hT := allB_no him (mem_ready.1 hr).1
  refine ⟨fun h => (by rw [hT] at h; cases h), fun _ => ⟨fun h => (by rw [h] at hr; cases hr), fun j hj => ?_⟩⟩
  by_cases hji : j = i
  ·subst hji; exact hy.qOp hi H
  ·obtain ⟨hjun, oj, hoj, hall⟩ := mem_ready.1 hj
   have hnot : ∀ e ∈ oj.after, Region.binds .any e = true → e.on ≠ i := fun e he hb heq => by
    have h1 := hall e he hb
    have h0 := (mem_ready.1 hr).1
    rw [heq] at h1
    rcases Nat.lt_or_ge i listed.size with h' | h'
    ·simp [h'] at h0 h1; rw [h0] at h1; cases h1
    ·simp [Array.getElem?_eq_none h'] at h1
   have hjm : j < m := by
    rcases Nat.lt_or_ge j m with h | h
    ·exact h
    ·have h1 := waits_done hD _ j oj hoj hall (waitB_spec hwait hoj h him)
     rw [getD_ft (mem_ready.1 hr).1] at h1
     cases h1
   have hT' := allB_no hjm (by rw [getD_set_ne true (Ne.symm hji)]; exact hjun : (listed.setIfInBounds i true).getD j true = false)
   have h1 := (H.2 hT').2 j (ready_mono hj hji)
   have h2 := qOp_put hoj (hfree j oj hoj hji hjun hnot) (fun cs b => hsel i oi cs b hi) (fun cs b => hsel j oj cs b hoj) hy h1
   have hfree' : ∀ k ok, ops[k]? = some ok → k ≠ i → (listed.setIfInBounds j true).getD k true = false →
     (∀ e ∈ ok.after, Region.binds .any e = true → e.on ≠ i) → oi.apart ops ok = true := fun k ok hk hki hun hno => by
    refine hfree k ok hk hki ?_ hno
    by_cases hjk : j = k
    ·subst hjk; exact hjun
    ·rw [getD_set_ne true hjk] at hun; exact hun
   refine qOp_mono (fun a' h3 => ih (listed.setIfInBounds j true) a' (hD.set hj) hfree' (ready_mono hr (Ne.symm hji)) h3.1 ?_) h2
   rw [Array.setIfInBounds_comm _ _ hji]
   exact h3.2
theorem getD_rep (n j : Nat) : (Array.replicate n false).getD j false = false := by
 rw [Array.getD_eq_getD_getElem?, Array.getElem?_replicate]
 split <;> rfl
def runL : Nat → Nat → Array Bool → Array Bool
 | 0, _, li => li
 | n + 1, k, li => runL n (k + 1) (li.setIfInBounds k true)
def preB (ops : Array Oper) : Nat → Nat → Array Bool → Bool
 | 0, _, _ => true
 | n + 1, k, li => (Region.ready .any ops li).contains k && Region.free .any ops li k && preB ops n (k + 1) (li.setIfInBounds k true)
def seqB (ops : Array Oper) : Nat → Nat → Array Bool → Bool
 | 0, _, li => (Region.ready .any ops li).isEmpty
 | n + 1, k, li => (Region.ready .any ops li == [k]) && seqB ops n (k + 1) (li.setIfInBounds k true)
theorem wpAny_seq : ∀ (l : List Oper) (k : Nat) (li : Array Bool) (a : Act) (w : World), (∀ j, l[j]? = ops[k + j]?) → seqB ops l.length k li = true → wpList P ops Q l a w → wpAny P .any ops Q l.length li a w
 | [], k, li, a, w, _, hB, h => ⟨by simpa [seqB] using hB, h⟩
 | o :: l, k, li, a, w, hl, hB, h => by
  simp only [List.length_cons, seqB, Bool.and_eq_true, beq_iff_eq] at hB
  have h0 : ops[k]? = some o := by simpa using (hl 0).symm
  refine ⟨fun h' => (by rw [hB.1] at h'; cases h'), fun i hi => ?_⟩
  rw [hB.1, List.mem_singleton] at hi
  subst hi
  have h2 : wpOp P ops Q i (wpList P ops Q l) a w := by unfold wpOp; simp only [h0]; exact h
  exact wpOp_mono (fun a' w' h3 => wpAny_seq l (i + 1) _ a' w' (fun j => by have := hl (j + 1); simpa [Nat.add_assoc, Nat.add_comm 1 j] using this) hB.2 h3) h2
theorem wpH_lex (hs : Region.noSelect ops = true) (hwait : waitB ops m = true) {K : Act → Prop} {f : Nat} : ∀ (l : List Oper) (k : Nat) (li : Array Bool) (a : Act), Dn ops li → k + l.length = m → (∀ j, j < l.length → l[j]? = ops[k + j]?) →
  preB ops l.length k li = true → allB m (runL l.length k li) = true → wpQuiet P ops C K l a → (∀ a, K a → ∀ w, C w → wpAny P .any ops Q f (runL l.length k li) a w) → wpH P ops C Q m (l.length + f) li a
 | [], k, li, a, _, _, _, _, hA, h, hK => by
  rw [List.length_nil, Nat.zero_add]
  exact wpH_all hA (hK a h)
 | o :: l, k, li, a, hD, hk, hl, hB, hA, h, hK => by
  have h0 : ops[k]? = some o := by simpa using (hl 0 (by simp)).symm
  simp only [List.length_cons, preB, Bool.and_eq_true] at hB
  obtain ⟨⟨hr, hf⟩, hB'⟩ := hB
  have hst : qOp P ops C k (wpQuiet P ops C K l) a := by unfold qOp; simp only [h0]; exact h
  obtain ⟨v, hy, hK'⟩ := yieldsIn_of_qOp h0 hst
  rw [List.length_cons, show l.length + 1 + f = (l.length + f) + 1 by omega]
  exact wpH_first h0 (by simp only [List.length_cons] at hk; omega) hwait (Region.noSelect_spec hs) _ li a hD (Region.free_spec h0 hf) (by simpa using hr) hy
   (wpH_lex hs hwait l (k + 1) _ _ (hD.set (by simpa using hr)) (by simp only [List.length_cons] at hk; omega) (fun j hj => by have := hl (j + 1) (by simp only [List.length_cons]; omega); simpa [Nat.add_assoc, Nat.add_comm 1 j] using this) hB' hA hK' hK)
def tailB (ops : Array Oper) (m t : Nat) : Bool := Region.noSelect ops && (waitB ops m && (preB ops m 0 (Array.replicate ops.size false) && (allB m (runL m 0 (Array.replicate ops.size false)) && (seqB ops t m (runL m 0 (Array.replicate ops.size false)) && Nat.beq (m + t) ops.size))))
theorem wp_region_tail {r : Option Nat} {id : Nat} {l0 l1 : List Oper} {a : Act} {w : World} (hm : P.follows .mixedOrders = true) (hB : tailB (l0 ++ l1).toArray l0.length l1.length = true) (hC : C { w with drawn := w.drawn + 1 })
  (h : wpQuiet P (l0 ++ l1).toArray C (fun a' => ∀ w', C w' → wpList P (l0 ++ l1).toArray Q l1 a' w') l0 a) : wpp r P (.region id (l0 ++ l1).toArray true) Q a w := by
 simp only [tailB, Bool.and_eq_true] at hB
 obtain ⟨h1, h2, h3, h4, h5, h6⟩ := hB
 refine wpp_region_any hm (wpAny_of_H (m := l0.length) _ _ _ _ hC ?_)
 have key := wpH_lex (Q := Q) (f := l1.length) h1 h2 l0 0 (Array.replicate (l0 ++ l1).toArray.size false) a (fun j o _ hj => by rw [getD_rep] at hj; cases hj) (by omega) (fun j hj => by simp [List.getElem?_append_left hj]) h3 h4 h (fun a' hK w' hw' => wpAny_seq l1 l0.length _ a' w' (fun j => by simp [List.getElem?_append_right]) h5 (hK w' hw'))
 have e : l0.length + l1.length = (l0 ++ l1).toArray.size := by simp
 exact (congrArg (fun s => wpH P (l0 ++ l1).toArray C Q l0.length s (Array.replicate (l0 ++ l1).toArray.size false) a) e).mp key
end
def memB (o : Oper) : Bool := match o.op with
 | .store .. => true
 | .alloc .. => true
 | .box .. => true
 | .buildSlice .. => true
 | .makeSlice .. => true
 | .makeMap .. => true
 | .mapUpdate .. => true
 | .call c => match c.callee with
  | .builtin .append => true
  | .builtin .delete => true
  | _ => false
 | _ => false
inductive Split : List Oper → List Oper → List Oper → Prop where
 | z {o : Oper} {r : List Oper} (h : memB o = true) : Split (o :: r) [] (o :: r)
 | s {o : Oper} {r x y : List Oper} (h : memB o = false) (k : Split r x y) : Split (o :: r) (o :: x) y
theorem Split.eq {l x y : List Oper} (h : Split l x y) : l = x ++ y := by
 induction h with
 | z h => rfl
 | s h k ih => rw [List.cons_append, ih]
section
variable {P : Program} {n : Nm} {l : Env} {C : World → Prop} {Q : Exit → Act → World → Prop}
theorem W.regq {id : Nat} {l0 x y : List Oper} (hs : Split l0 x y) (hm : P.follows .mixedOrders = true) (hB : tailB (x ++ y).toArray x.length y.length = true) (hC : ∀ w, C w → C { w with drawn := w.drawn + 1 })
  (h : QL P n l0.toArray C (fun a' => ∀ w', C w' → wpList P l0.toArray Q y a' w') x l) : W P n (.region id l0.toArray true) Q l C := ⟨fun a w hs' hc => by
 have := hs.eq
 subst this
 exact wp_region_tail (C := C) hm hB (hC w hc) (h.run a hs')⟩
inductive SplitN : Nat → List Oper → List Oper → List Oper → Prop where
 | z {r : List Oper} : SplitN 0 r [] r
 | s {k : Nat} {o : Oper} {r x y : List Oper} (h : SplitN k r x y) : SplitN (k + 1) (o :: r) (o :: x) y
theorem SplitN.eq {k : Nat} {l x y : List Oper} (h : SplitN k l x y) : l = x ++ y := by
 induction h with
 | z => rfl
 | s h ih => rw [List.cons_append, ih]
theorem W.regn (k : Nat) {id : Nat} {l0 x y : List Oper} (hs : SplitN k l0 x y) (hm : P.follows .mixedOrders = true) (hB : tailB (x ++ y).toArray x.length y.length = true) (hC : ∀ w, C w → C { w with drawn := w.drawn + 1 })
  (h : QL P n l0.toArray C (fun a' => ∀ w', C w' → wpList P l0.toArray Q y a' w') x l) : W P n (.region id l0.toArray true) Q l C := ⟨fun a w hs' hc => by
 have := hs.eq
 subst this
 exact wp_region_tail (C := C) hm hB (hC w hc) (h.run a hs')⟩
theorem W.regd0 {id : Nat} {l0 : List Oper} (hq : (l0.all fun o => !memB o) = true) (hm : P.follows .mixedOrders = true) (hB : Region.lexB .any l0.toArray = true) (hC : ∀ w, C w → C { w with drawn := w.drawn + 1 })
  (h : QL P n l0.toArray C (fun a' => ∀ w', C w' → Q .normal a' w') l0 l) : W P n (.region id l0.toArray true) Q l C := W.regd hm hB hC h
theorem QL.tail {ops : Array Oper} {y : List Oper} (h : OL P n ops Q y l C) : QL P n ops C (fun a' => ∀ w', C w' → wpList P ops Q y a' w') [] l := ⟨fun a hs w hc => h.run a w hs hc⟩
end
end Go.Eng

/- Slices over a block of the call's own that is changed in place: append within its room, clear; slices in two and three numbers; min; loads of several cells that the class tells. General. No condition. -/
namespace Go.Eng
open Go.RowKit
section
variable {P : Program} {n : Nm} {l : Env} {H : List Item} {S : List World} {C : World → Prop} {c : Bool} {d : Option Nat} {ty : TypeId} {pos : String} {af : Array Edge} {g : Option (Nat × Bool)}
variable {ops : Array Oper} {rest : List Oper} {Q : Exit → Act → World → Prop} {t : TypeId} {x y z u : Operand} {cx cy cz cu : Bool}
theorem Pev.min2 {k k' : IntKind} {a b : Int} {ats : Array TypeId} (hx : evl l x = some (cx, .int k a)) (hcx : c = true → cx = true) (hy : evl l y = some (cy, .int k' b)) (hcy : c = true → cy = true) :
  Pev P n l C ⟨d, .call { callee := .builtin .min, args := #[x, y], argTypes := ats }, ty, pos, af, g⟩ c (.int k (if b < a then b else a)) :=
 .of_run fun h ac w hs hw => by
  have hr := run_min_int2 (P := P) w ats ty k k' a b
  simp [execOp, resolve, invoke, builtin, hs.eval hx (hcx h), hs.eval hy (hcy h), hr]
theorem Pev.max2 {k k' : IntKind} {a b : Int} {ats : Array TypeId} (hx : evl l x = some (cx, .int k a)) (hcx : c = true → cx = true) (hy : evl l y = some (cy, .int k' b)) (hcy : c = true → cy = true) :
  Pev P n l C ⟨d, .call { callee := .builtin .max, args := #[x, y], argTypes := ats }, ty, pos, af, g⟩ c (.int k (if a < b then b else a)) :=
 .of_run fun h ac w hs hw => by
  have hr := run_max_int2 (P := P) w ats ty k k' a b
  simp [execOp, resolve, invoke, builtin, hs.eval hx (hcx h), hs.eval hy (hcy h), hr]
theorem set_same {α : Type} {H : List α} {p : Nat} {i : α} (h : H[p]? = some i) : H.set p i = H := by
 obtain ⟨hlt, rfl⟩ := List.getElem?_eq_some_iff.1 h
 exact List.set_getElem_self hlt
end
end Go.Eng

/- A region that draws its order and whose operations write memory beside one another: an invariant over the set of operations that are done. General. No condition. -/
namespace Go.Eng
open Go.RowKit
inductive SubO (l : Env) (n : Nm) (old : Nat → Value) : Env → Prop where
 | nil : SubO l n old []
 | cons {t : Nat} {c : Bool} {v : Value} {l' : Env} (h : look l t = some (c, v)) (r : SubO l n old l') : SubO l n old ((t, c, v) :: l')
 | old {t : Nat} {l' : Env} (h : Nat.ble (t + 1) n.n = true) (r : SubO l n old l') : SubO l n old ((t, true, old t) :: l')
theorem Sees.subO {n : Nm} {l l' : Env} {a : Act} {old : Nat → Value} (h : Sees n l a) (ho : ∀ t, t < n.n → a.tmps[t]? = some (old t)) (hs : SubO l n old l') : Sees n l' a := by
 refine ⟨h.df, h.sz, ?_⟩
 induction hs with
 | nil => intro t c v ht; cases ht
 | @cons t0 c0 v0 l0 h0 _ ih =>
  intro t c v ht
  simp only [Eng.look] at ht
  by_cases e : t0 = t
  ·subst e
   rw [Nat.beq_refl, cond_true] at ht
   exact h.at_ t0 c v (by rw [h0]; exact ht)
  ·rw [show Nat.beq t0 t = false from by rw [Bool.eq_false_iff]; intro hb; exact e (Nat.eq_of_beq_eq_true hb), cond_false] at ht
   exact ih t c v ht
 | @old t0 l0 h0 _ ih =>
  intro t c v ht
  simp only [Eng.look] at ht
  by_cases e : t0 = t
  ·subst e
   rw [Nat.beq_refl, cond_true] at ht
   simp only [Option.some.injEq, Prod.mk.injEq] at ht
   obtain ⟨rfl, rfl⟩ := ht
   exact ho t0 (Nat.le_of_ble_eq_true h0)
  ·rw [show Nat.beq t0 t = false from by rw [Bool.eq_false_iff]; intro hb; exact e (Nat.eq_of_beq_eq_true hb), cond_false] at ht
   exact ih t c v ht
def upd (e : Nat → Bool) (i : Nat) : Nat → Bool := fun j => Nat.beq j i || e j
def cnt (e : Nat → Bool) : Nat → Nat
 | 0 => 0
 | n + 1 => cnt e n + (if e n then 0 else 1)
theorem upd_ne {e : Nat → Bool} {i j : Nat} (h : j ≠ i) : upd e i j = e j := by
 have : Nat.beq j i = false := by
  rw [Bool.eq_false_iff]; intro hb; exact h (Nat.eq_of_beq_eq_true hb)
 simp [upd, this]
theorem upd_eq {e : Nat → Bool} {i : Nat} : upd e i i = true := by simp [upd, Nat.beq_refl]
theorem cnt_upd {e : Nat → Bool} {i : Nat} (h : e i = false) : ∀ n, cnt (upd e i) n = if i < n then cnt e n - 1 else cnt e n
 | 0 => by simp [cnt]
 | n + 1 => by
  have ih := cnt_upd h n
  have hpos : ∀ n, i < n → 1 ≤ cnt e n := by
   intro n
   induction n with
   | zero => intro h; omega
   | succ n ih =>
    intro hn
    rw [cnt]
    by_cases hin : i = n
    ·subst hin; rw [h]; simp
    ·have := ih (by omega); omega
  rw [cnt, cnt, ih]
  by_cases hin : i = n
  ·subst hin
   rw [upd_eq, h]; simp
  ·rw [upd_ne (Ne.symm hin)]
   by_cases hl : i < n
   ·have := hpos n hl
    have h3 : i < n + 1 := by omega
    rw [if_pos hl, if_pos h3]; omega
   ·have h3 : ¬ i < n + 1 := by omega
    rw [if_neg hl, if_neg h3]
theorem cnt_zero {e : Nat → Bool} : ∀ {n}, cnt e n = 0 → ∀ i, i < n → e i = true
 | 0, _, i, hi => by omega
 | n + 1, h, i, hi => by
  rw [cnt] at h
  by_cases hin : i = n
  ·subst hin
   cases he : e i
   ·rw [he] at h; simp at h
   ·rfl
  ·exact cnt_zero (n := n) (by omega) i (by omega)
theorem cnt_pos {e : Nat → Bool} : ∀ {n}, (∀ i, i < n → e i = true) → cnt e n = 0
 | 0, _ => rfl
 | n + 1, h => by rw [cnt, cnt_pos (fun i hi => h i (by omega)), h n (by omega)]; rfl
section
variable {P : Program} {ops : Array Oper} {Q : Exit → Act → World → Prop}
def backB (ops : Array Oper) : Bool := (List.range ops.size).all fun j => match ops[j]? with
 | some o => o.after.all fun e => !Region.binds .any e || Nat.blt e.on j
 | none => true
theorem backB_spec (h : backB ops = true) {j : Nat} {o : Oper} (hj : ops[j]? = some o) {e : Edge} (he : e ∈ o.after) (hbd : Region.binds .any e = true) : e.on < j := by
 have h1 := List.all_eq_true.1 h j (List.mem_range.2 (Array.getElem?_eq_some_iff.1 hj).1)
 simp only [hj] at h1
 have h2 := Array.all_eq_true_iff_forall_mem.1 h1 e he
 rw [hbd, Bool.not_true, Bool.false_or] at h2
 exact Nat.le_of_ble_eq_true h2
theorem ready_some (hb : backB ops = true) {li : Array Bool} {e : Nat → Bool} (hl : ∀ i, i < ops.size → e i = li.getD i false) (hs : li.size = ops.size) {k : Nat} (hk : k < ops.size) (hk' : e k = false) : Region.ready .any ops li ≠ [] := by
 -- the least one that is not done is ready
 obtain ⟨i, hi, hmin⟩ : ∃ i, (i < ops.size ∧ e i = false) ∧ ∀ j, j < i → ¬ (j < ops.size ∧ e j = false) := by
  induction k using Nat.strongRecOn with
  | _ k ih =>
   by_cases hex : ∃ j, j < k ∧ (j < ops.size ∧ e j = false)
   ·obtain ⟨j, hj, h1, h2⟩ := hex
    exact ih j hj h1 h2
   ·exact ⟨k, ⟨hk, hk'⟩, fun j hj h => hex ⟨j, hj, h⟩⟩
 have hmem : i ∈ Region.ready .any ops li := by
  rw [mem_ready]
  refine ⟨?_, ops[i], Array.getElem?_eq_getElem hi.1, fun d hd hbd => ?_⟩
  ·have := hl i hi.1
   rw [hi.2] at this
   have hlt : i < li.size := by omega
   simp [hlt] at this ⊢
   first | exact this | exact this.symm
  ·have h1 := backB_spec hb (Array.getElem?_eq_getElem hi.1) hd hbd
   have h2 : e d.on = true := by
    cases hd' : e d.on
    ·exact absurd ⟨by omega, hd'⟩ (hmin d.on h1)
    ·rfl
   rw [← hl d.on (by omega)]; exact h2
 intro h0
 rw [h0] at hmem
 cases hmem
theorem wpAny_inv (hb : backB ops = true) (I : (Nat → Bool) → Act → World → Prop)
  (hstep : ∀ e i o a w, I e a w → ops[i]? = some o → e i = false → (∀ d ∈ o.after, Region.binds .any d = true → e d.on = true) → wpOp P ops Q i (I (upd e i)) a w)
  (hend : ∀ e a w, I e a w → (∀ i, i < ops.size → e i = true) → Q .normal a w) :
  ∀ (f : Nat) (li : Array Bool) (e : Nat → Bool) (a : Act) (w : World), (∀ i, i < ops.size → e i = li.getD i false) → li.size = ops.size → cnt e ops.size = f → I e a w → wpAny P .any ops Q f li a w
 | 0, li, e, a, w, hl, hs, hc, hI => by
  have hall := cnt_zero hc
  refine ⟨?_, hend e a w hI hall⟩
  rw [List.eq_nil_iff_forall_not_mem]
  intro i hi
  obtain ⟨h1, o, ho, _⟩ := mem_ready.1 hi
  have hlt := (Array.getElem?_eq_some_iff.1 ho).1
  have h2 := hl i hlt
  rw [hall i hlt] at h2
  have hlt' : i < li.size := by omega
  simp [hlt'] at h1 h2
  rw [h1] at h2
  cases h2
 | f + 1, li, e, a, w, hl, hs, hc, hI => by
  refine ⟨fun h0 => ?_, fun i hi => ?_⟩
  ·exfalso
   have : ∃ k, k < ops.size ∧ e k = false := by
    refine Classical.byContradiction fun hn => ?_
    have := cnt_pos (e := e) (n := ops.size) (fun i hi => by
     cases he : e i
     ·exact absurd ⟨i, hi, he⟩ hn
     ·rfl)
    omega
   obtain ⟨k, hk, hk'⟩ := this
   exact ready_some hb hl hs hk hk' h0
  ·obtain ⟨h1, o, ho, hall⟩ := mem_ready.1 hi
   have hlt := (Array.getElem?_eq_some_iff.1 ho).1
   have hlt' : i < li.size := by omega
   have hei : e i = false := by
    rw [hl i hlt]
    simp [hlt'] at h1 ⊢
    exact h1
   refine wpOp_mono (fun a' w' hI' => wpAny_inv hb I hstep hend f (li.setIfInBounds i true) (upd e i) a' w' (fun j hj => ?_) (by simp [hs]) ?_ hI') (hstep e i o a w hI ho hei (fun d hd hb' => ?_))
   ·by_cases hji : j = i
    ·subst hji; rw [upd_eq]; simp [hlt']
    ·rw [upd_ne hji, getD_set_ne false (Ne.symm hji)]; exact hl j hj
   ·rw [cnt_upd hei, if_pos hlt]; omega
   ·have h2 := hall d hd hb'
    rw [← hl d.on (Nat.lt_trans (backB_spec hb ho hd hb') hlt)] at h2
    exact h2
end
section
variable {P : Program} {n : Nm} {l : Env} {C : World → Prop} {Q : Exit → Act → World → Prop} {S : List World}
def Beside (n : Nm) (S : List World) {X : Type} (E : X → (Nat → Bool) → Env) (H : X → (Nat → Bool) → List Item) (e : Nat → Bool) (Q : Exit → Act → World → Prop) : Exit → Act → World → Prop := fun ex a w => match ex with
 | .normal => ∃ x, Sees n (E x e) a ∧ Cls (H x e) S w
 | ex => Q ex a w
def Closed (l0 : List Oper) (e : Nat → Bool) : Prop := ∀ j o, l0[j]? = some o → e j = true → ∀ d ∈ o.after, Region.binds .any d = true → e d.on = true
theorem upd_mono {e : Nat → Bool} {i j : Nat} (h : e j = true) : upd e i j = true := by simp [Eng.upd, h]
theorem Closed.upd {l0 : List Oper} {e : Nat → Bool} (h : Closed l0 e) {i : Nat} {o : Oper} (ho : l0[i]? = some o) (hd : ∀ d ∈ o.after, Region.binds .any d = true → e d.on = true) : Closed l0 (Eng.upd e i) := fun j o' ho' hj d hd' hb => by
 by_cases hji : j = i
 ·subst hji
  rw [ho] at ho'
  obtain rfl := Option.some.inj ho'
  exact upd_mono (hd d hd' hb)
 ·rw [upd_ne hji] at hj
  exact upd_mono (h j o' ho' hj d hd' hb)
theorem Closed.not {l0 : List Oper} {e : Nat → Bool} (h : Closed l0 e) {i j : Nat} {o : Oper} (ho : l0[j]? = some o) (hi : e i = false) (hd : (o.after.any fun d => Nat.beq d.on i && Region.binds .any d) = true) : e j = false := by
 cases hj : e j
 ·rfl
 ·rw [Array.any_eq_true] at hd
  obtain ⟨k, hk, h3⟩ := hd
  simp only [Bool.and_eq_true, Nat.beq_eq] at h3
  have := h j o ho hj _ (Array.getElem_mem hk) h3.2
  rw [h3.1, hi] at this
  exact this.symm
theorem At.beside {X : Type} {E : X → (Nat → Bool) → Env} {H : X → (Nat → Bool) → List Item} {e : Nat → Bool} (x : X) (hs : Sub l (E x e)) (hc : ∀ w, C w → Cls (H x e) S w) : At n (Beside n S E H e Q) .normal l C :=
 ⟨fun a w s c => ⟨x, s.sub hs, hc w c⟩⟩
theorem upon_Q {o : Oper} {a : Act} {K : Act → World → Prop} {Q Q' : Exit → Act → World → Prop} (hp : ∀ e a w, e ≠ .normal → Q e a w → Q' e a w) {r : Result Next} (h : Oper.upon P o a K Q r) : Oper.upon P o a K Q' r := by
 have hlet : LetsOut Q → LetsOut Q' := fun ⟨a, w, hq⟩ => ⟨a, w, hp _ _ _ (by simp) hq⟩
 cases r with
 | ok n w' =>
  cases n <;> simp only [Oper.upon] at h ⊢ <;>
   first
    | exact h
    | exact Calls.mono h (fun e w'' he => by cases e <;> first | exact he | exact hp _ _ _ (by simp) he | exact hlet he)
 | halt x w' =>
  cases x <;> simp only [Oper.upon] at h ⊢ <;> first | exact h | exact hp _ _ _ (by simp) h
theorem wpOp_of_one {ops : Array Oper} {i : Nat} {o : Oper} {a : Act} {w : World} {X : Type} {E : X → (Nat → Bool) → Env} {H : X → (Nat → Bool) → List Item} {e : Nat → Bool} (ho : ops[i]? = some o)
  (h : wpList P ops (Beside n S E H e Q) [o] a w) : wpOp P ops Q i (fun a w => ∃ x, Sees n (E x e) a ∧ Cls (H x e) S w) a w := by
 have hp : ∀ ex a w, ex ≠ .normal → Beside n S E H e Q ex a w → Q ex a w := fun ex a w hne h => by
  cases ex <;> first | exact h | exact absurd rfl hne
 unfold wpOp
 simp only [ho]
 unfold wpList at h
 split
 ·rename_i hw
  rw [if_pos hw] at h
  rcases h with h | ⟨h, a', w', hq⟩
  ·refine .inl ?_
   unfold Oper.wp at h ⊢
   exact upon_Q hp h
  ·exact .inr ⟨h, a', w', hp _ _ _ (by simp) hq⟩
 ·rename_i hw
  rw [if_neg hw] at h
  exact h
theorem W.regany {id : Nat} {l0 : List Oper} {X : Type} (E : X → (Nat → Bool) → Env) (H : X → (Nat → Bool) → List Item) (x0 : (Nat → Value) → X) (hm : P.follows .mixedOrders = true) (hb : backB l0.toArray = true) (hC : ∀ w, C w → C { w with drawn := w.drawn + 1 })
  (h0 : ∀ old, SubO l n old (E (x0 old) (fun _ => false))) (hc0 : ∀ old w, C w → Cls (H (x0 old) (fun _ => false)) S w)
  (step : ∀ x e i o, l0[i]? = some o → e i = false → (∀ d ∈ o.after, Region.binds .any d = true → e d.on = true) → Closed l0 e → OL P n l0.toArray (Beside n S E H (upd e i) Q) [o] (E x e) (Cls (H x e) S))
  (fin : ∀ x e, (∀ i, i < l0.length → e i = true) → At n Q .normal (E x e) (Cls (H x e) S)) : W P n (.region id l0.toArray true) Q l C := ⟨fun a w hs hc => by
 refine wpp_region_any hm (wpAny_inv hb (fun e a w => Closed l0 e ∧ ∃ x, Sees n (E x e) a ∧ Cls (H x e) S w) ?_ ?_ _ _ (fun _ => false) a _ ?_ (by simp) ?_ ⟨fun j o _ h => (by cases h), x0 (fun t => (a.tmps[t]?).getD undef), hs.subO (fun t ht => (by rw [Array.getElem?_eq_getElem (by rw [hs.sz]; exact ht)]; rfl)) (h0 _), hc0 _ _ (hC w hc)⟩)
 ·rintro e i o a w ⟨hcl, x, hs, hc⟩ ho hei hd
  have ho' : l0[i]? = some o := by simpa using ho
  exact wpOp_mono (fun a w h => ⟨hcl.upd ho' hd, h⟩) (wpOp_of_one (by simpa using ho) ((step x e i o ho' hei hd hcl).run a w hs hc))
 ·rintro e a w ⟨_, x, hs, hc⟩ hall
  exact (fin x e (fun i hi => hall i (by simpa using hi))).run a w hs hc
 ·intro i hi
  simp at hi
  simp [hi]
 ·have : ∀ n, cnt (fun _ => false) n = n := by
   intro n; induction n with
   | zero => rfl
   | succ n ih => rw [cnt, ih]; rfl
  rw [this]⟩
end
def nothing : Item := ⟨fun _ => False, fun _ => True, fun _ _ _ _ => trivial⟩
theorem NotOwned.nothing {H : List Item} {k : Nat} (r : NotOwned H k) : NotOwned (Eng.nothing :: H) k := NotOwned.any (fun h => h) r
theorem NotOwned.bif {c : Bool} {i j : Item} {H : List Item} {k : Nat} (hi : NotOwned [i] k) (hj : NotOwned [j] k) (r : NotOwned H k) : NotOwned ((bif c then i else j) :: H) k := by
 refine NotOwned.any (fun h => ?_) r
 cases c
 ·exact hj.not ⟨j, by simp, h⟩
 ·exact hi.not ⟨i, by simp, h⟩
theorem Hole.parts {p : Nat} {H : List Item} {i : Item} {F : Item → List Item} (h : Hole p H i F) : ∃ H1 H2, H = H1 ++ i :: H2 ∧ ∀ j, F j = H1 ++ j :: H2 := by
 induction h with
 | z => exact ⟨[], _, rfl, fun j => rfl⟩
 | s h ih =>
  obtain ⟨H1, H2, h1, h2⟩ := ih
  exact ⟨_ :: H1, H2, by rw [h1]; rfl, fun j => by show _ :: _ = _; rw [h2 j]; rfl⟩
theorem Cls.fill {p : Nat} {H : List Item} {S : List World} {j : Item} {F : Item → List Item} {w : World} (hh : Hole p H nothing F) (h : Cls (j :: H) S w) : Cls (F j) S w := by
 obtain ⟨H1, H2, rfl, hF⟩ := hh.parts
 rw [hF]
 have hsub : ∀ i, i ∈ H1 ++ j :: H2 → i ∈ j :: (H1 ++ nothing :: H2) := fun i hi => by
  simp only [List.mem_append, List.mem_cons] at hi ⊢
  rcases hi with h | h | h
  ·exact .inr (.inl h)
  ·exact .inl h
  ·exact .inr (.inr (.inr h))
 have hd := h.dj
 rw [List.pairwise_cons, List.pairwise_append, List.pairwise_cons] at hd
 obtain ⟨hj, h1, ⟨_, h2⟩, h12⟩ := hd
 refine ⟨fun i hi => h.holds i (hsub i hi), fun i hi => h.lt i (hsub i hi), ?_, fun s hs => (h.kp s hs).mono fun k _ ⟨i, hi, hk⟩ => ?_⟩
 ·rw [List.pairwise_append, List.pairwise_cons]
  refine ⟨h1, ⟨fun b hb => hj b (by simp [hb]), h2⟩, fun a ha b hb => ?_⟩
  rcases List.mem_cons.1 hb with rfl | hb
  ·exact fun k hk hk' => hj a (by simp [ha]) k hk' hk
  ·exact h12 a ha b (by simp [hb])
 ·simp only [List.mem_cons, List.mem_append] at hi
  rcases hi with rfl | h | rfl | h
  ·exact ⟨_, by simp, hk⟩
  ·exact ⟨i, by simp [h], hk⟩
  ·exact hk.elim
  ·exact ⟨i, by simp [h], hk⟩
theorem Cls.add_nothing {H : List Item} {S : List World} {w : World} (h : Cls H S w) : Cls (H ++ [nothing]) S w := by
 refine ⟨fun i hi => ?_, fun i hi => ?_, ?_, fun s hs => (h.kp s hs).mono fun k _ ⟨i, hi, hk⟩ => ⟨i, by simp [hi], hk⟩⟩
 ·rcases List.mem_append.1 hi with h' | h'
  ·exact h.holds i h'
  ·rw [List.mem_singleton.1 h']; trivial
 ·rcases List.mem_append.1 hi with h' | h'
  ·exact h.lt i h'
  ·rw [List.mem_singleton.1 h']; exact fun k hk => hk.elim
 ·rw [List.pairwise_append]
  exact ⟨h.dj, List.pairwise_singleton _ _, fun a _ b hb k _ hk => by rw [List.mem_singleton.1 hb] at hk; exact hk⟩
end Go.Eng

/- More rules: what a class tells, calls of function values that change the class, a store into a grown row, forgetting ahead of an unknown rest. General. No condition. -/
namespace Go.Eng
open Go.RowKit
section
variable {P : Program} {n : Nm} {l : Env} {H : List Item} {S : List World} {C : World → Prop} {c : Bool} {d : Option Nat} {ty : TypeId} {pos : String} {af : Array Edge} {g : Option (Nat × Bool)}
variable {ops : Array Oper} {rest : List Oper} {Q : Exit → Act → World → Prop} {t : TypeId} {x y z : Operand} {cx cy cz : Bool}
theorem W.fact {code : Code} {φ : Prop} (h : ∀ w, C w → φ) (k : φ → W P n code Q l C) : W P n code Q l C := ⟨fun a w hs hc => (k (h w hc)).run a w hs hc⟩
theorem OL.fact {φ : Prop} (h : ∀ w, C w → φ) (k : φ → OL P n ops Q rest l C) : OL P n ops Q rest l C := ⟨fun a w hs hc => (k (h w hc)).run a w hs hc⟩
theorem At.fact {e : Exit} {φ : Prop} (h : ∀ w, C w → φ) (k : φ → At n Q e l C) : At n Q e l C := ⟨fun a w hs hc => (k (h w hc)).run a w hs hc⟩
theorem OL.sub {l' : Env} {C' : World → Prop} (hs : Sub l l') (hc : ∀ w, C w → C' w) (h : OL P n ops Q rest l' C') : OL P n ops Q rest l C := ⟨fun a w s c => h.run a w (s.sub hs) (hc w c)⟩
theorem OL.callvE {α : Type} (V : α → Value) (Φ : α → Prop) (C' : α → World → Prop) {f : FuncId} {first cap : List Value} {args : List Operand} {vs : List Value} {ats : Array TypeId} {dd : Nat} (hx : evl l x = some (true, .func (.func f) first.toArray cap.toArray)) (hn : Nat.ble (dd + 1) n.n = true) (hf : callable P f = true) (ha : Args l true args vs)
  (h : ∀ w, C w → Calls P f (first ++ vs ++ cap).toArray w fun e w' => ∃ u, e = .returned (V u) ∧ Φ u ∧ C' u w')
  (k : ∀ u, Φ u → OL P n ops Q rest ((dd, true, V u) :: l) (C' u)) : OL P n ops Q (⟨some dd, .call { callee := .value x, args := args.toArray, argTypes := ats }, ty, pos, af, none⟩ :: rest) l C := by
 have hn' := Nat.le_of_ble_eq_true hn
 refine ⟨fun a w hs hc => ?_⟩
 refine wpList_plain rfl fun K hK => ?_
 show Oper.upon P _ a K Q ((execOp a.eval _).run P w)
 rw [run_callv hf (hs.eval hx rfl)]
 show Calls P f _ w _
 rw [List.map_toArray, ha.map hs rfl]
 have h2 := h w hc
 simp only [List.append_toArray] at h2 ⊢
 refine h2.mono fun e w' ⟨u, he, hu, hr⟩ => ?_
 subst he
 exact hK _ _ ((k u hu).run _ w' (hs.put hn' true (V u)) hr)
theorem Thin.same : ∀ {H : List Item}, Thin S H H
 | [] => .nil
 | _ :: _ => .keep Thin.same
theorem row_some {w : World} {base m cap size : Nat} {O : Nat → Prop} {q : Option Addr} {e : TypeId} {xs : List Value} (h : (row base O q m cap e size xs).holds w) (hm : 0 < m) : ∃ g0, q = some ⟨g0, 0, none⟩ := by
 rcases h.2.2 with ⟨h3, h4⟩ | ⟨g, cap', cur, h3, _⟩
 ·omega
 ·simp only [Value.slice.injEq] at h3
  exact ⟨g, h3.1⟩
theorem OL.cls {C' : World → Prop} (hc : ∀ w, C w → C' w) (h : OL P n ops Q rest l C') : OL P n ops Q rest l C := ⟨fun a w s c => h.run a w s (hc w c)⟩
theorem W.cls {code : Code} {C' : World → Prop} (hc : ∀ w, C w → C' w) (h : W P n code Q l C') : W P n code Q l C := ⟨fun a w s c => h.run a w s (hc w c)⟩
theorem Cls.perm {H' : List Item} {w : World} (h : Cls H S w) (hp : H.Perm H') : Cls H' S w :=
 ⟨fun i hi => h.holds i (hp.mem_iff.2 hi), fun i hi => h.lt i (hp.mem_iff.2 hi), (hp.pairwise_iff (fun {i j} hij k hj hi => hij k hi hj)).1 h.dj, fun s hs => (h.kp s hs).mono fun k _ ⟨i, hi, hk⟩ => ⟨i, hp.mem_iff.1 hi, hk⟩⟩
theorem Cls.last {w : World} {i : Item} (h : Cls (i :: H) S w) : Cls (H ++ [i]) S w := h.perm (List.perm_append_comm (l₁ := [i]))
theorem Cls.flip {w : World} {i j : Item} (h : Cls (i :: j :: H) S w) : Cls (j :: i :: H) S w := h.perm (List.Perm.swap _ _ _)
theorem At.finC {mm : Nat} {rr : Option Nat} {fn : Func} {R : Ending → World → Prop} {tt b k : Nat} {t' : TypeId} {cs : List Value} (hr : fn.results = #[.cell tt ty]) (ht : look l tt = some (true, .pointer (some ⟨b, 0, none⟩))) (hp : blk b t' cs ∈ H) (hs : aggN P ty = some k) (hk : cs.length = k)
  (h : ∀ w, Cls H S w → R (.returned (.agg cs.toArray)) w) : At ⟨mm, [], rr⟩ (bodyPost P fn R) .ret l (Cls H S) :=
 ⟨fun a w hs' hc => ⟨hs'.df, .agg cs.toArray, by
  have h1 := hs'.at_ tt true _ ht
  have h2 := run_loadVar_agg (P := P) (t := ty) (vs := cs) (a := ⟨b, 0, none⟩) (w := w) (by rw [hk]; exact hs) (fun j v hj => by rw [add_mid, Nat.zero_add, blk_cell (hc.item hp)]; exact hj)
  simp [results, hr, Array.getD_eq_getD_getElem?, h1, asAddr, h2], h w hc⟩⟩
theorem Cls.nothing_cons {w : World} (h : Cls H S w) : Cls (nothing :: H) S w :=
 h.add (Keep.refl _ w) _ trivial (fun k hk => hk.elim)
end
end Go.Eng

/- Maps whose keys are strings, of the call's own: an item for the list of keys and values; make, look up, put a new key, delete. General. No condition. -/
namespace Go.Eng
open Go.RowKit Go.MapKept
abbrev MP := List (ByteArray × Value)
def mget : MP → ByteArray → Option Value
 | [], _ => none
 | p :: r, k => if p.1 = k then some p.2 else mget r k
def mdel : MP → ByteArray → MP
 | [], _ => []
 | p :: r, k => if p.1 = k then r else p :: mdel r k
def mcells (m : MP) : List (Value × Value) := m.map fun p => (.string p.1, p.2)
def mapS (b : Nat) (m : MP) : Item :=
 ⟨fun k => k = b, fun w => ∃ es clock, w.heap[b]? = some (.map es clock) ∧ es.toList.map (fun e => (e.key, e.val)) = mcells m, fun w w' hk ⟨es, c, h, h2⟩ => ⟨es, c, (hk b rfl).trans h, h2⟩⟩
theorem NotOwned.mapS {H : List Item} {b : Nat} {m : MP} {k : Nat} (h : k ≠ b) (r : NotOwned H k) : NotOwned (Eng.mapS b m :: H) k := NotOwned.any (fun hm => h hm) r
theorem now_str : ∀ (es : List MapEntry) (m : MP) (i : Nat) (k : ByteArray), es.map (fun e => (e.key, e.val)) = mcells m →
  (Instr.findNow .string (.string k) es i = some none ∧ mget m k = none) ∨ ∃ j v, Instr.findNow .string (.string k) es i = some (some (i + j, v)) ∧ mget m k = some v ∧ es.eraseIdx j = es.eraseIdx j ∧ (es.eraseIdx j).map (fun e => (e.key, e.val)) = mcells (mdel m k) ∧ j < es.length
 | [], m, i, k, h => by
  cases m with
  | nil => exact .inl ⟨rfl, rfl⟩
  | cons p r => simp [mcells] at h
 | e :: es, m, i, k, h => by
  cases m with
  | nil => simp [mcells] at h
  | cons p r =>
   simp only [mcells, List.map_cons, List.cons.injEq, Prod.mk.injEq] at h
   obtain ⟨⟨h1, h2⟩, h3⟩ := h
   by_cases hk : p.1 = k
   ·refine .inr ⟨0, e.val, ?_, by simp [mget, hk, h2], rfl, ?_, by simp⟩
    ·simp [Instr.findNow, Instr.sameNow, h1, (Go.MapKept.bytes_beq k p.1).2 hk.symm]
    ·simp only [List.eraseIdx_cons_zero, mdel, hk, if_true]
     exact h3
   ·have hb : (k == p.1) = false := by
     rw [Bool.eq_false_iff]
     exact fun hh => hk ((Go.MapKept.bytes_beq k p.1).1 hh).symm
    rcases now_str es r (i + 1) k h3 with ⟨h4, h5⟩ | ⟨j, v, h4, h5, _, h6, h7⟩
    ·exact .inl ⟨by simp [Instr.findNow, Instr.sameNow, h1, hb, h4], by simp [mget, hk, h5]⟩
    ·refine .inr ⟨j + 1, v, by simp [Instr.findNow, Instr.sameNow, h1, hb, h4]; omega, by simp [mget, hk, h5], rfl, ?_, by simp; omega⟩
     simp only [List.eraseIdx_cons_succ, List.map_cons, mdel, hk, if_false, mcells, h1, h2]
     rw [h6]; rfl
section
variable {P : Program} {n : Nm} {l : Env} {H : List Item} {S : List World} {C : World → Prop} {c : Bool} {d : Option Nat} {ty : TypeId} {pos : String} {af : Array Edge} {g : Option (Nat × Bool)}
variable {ops : Array Oper} {rest : List Oper} {Q : Exit → Act → World → Prop} {t : TypeId} {x y z : Operand} {cx cy cz : Bool}
def mapT (P : Program) (t : TypeId) : Option (TypeId × TypeId) := match P.underlying t with
 | some (.map k e) => match P.underlying k with
  | some .string => some (k, e)
  | _ => none
 | _ => none
theorem mapT_spec {k e : TypeId} (h : mapT P t = some (k, e)) : P.underlying t = some (.map k e) ∧ P.underlying k = some .string := by
 unfold mapT at h
 split at h
 ·split at h
  ·simp only [Option.some.injEq, Prod.mk.injEq] at h
   obtain ⟨rfl, rfl⟩ := h
   rename_i h1 _ h2
   exact ⟨h1, h2⟩
  ·cases h
 ·cases h
theorem isKey_str (s : ByteArray) : IsKey .string (.string s) := by simp [IsKey]
theorem Pev.lookup {k e : TypeId} {b : Nat} {m : MP} {s : ByteArray} {zv : Value} (hx : evl l x = some (cx, .map (some b))) (hcx : c = true → cx = true) (hy : evl l y = some (cy, .string s)) (hcy : c = true → cy = true) (ht : mapT P t = some (k, e)) (hz : zeroV P e = some zv) (hm : mapS b m ∈ H) :
  Pev P n l (Cls H S) ⟨d, .lookup t x y false, ty, pos, af, g⟩ c ((mget m s).getD zv) :=
 .of_run fun h a w hs hw => by
  obtain ⟨h1, h2⟩ := mapT_spec ht
  obtain ⟨es, clock, hb, hes⟩ := hw.item hm
  have hr : (Instr.lookup t (.map (some b)) (.string s) false).run P w = .ok ((mget m s).getD zv) w := by
   simp only [Instr.lookup, Sem.run_bind, run_underlying h1, Result.andThen_ok, Go.MapKept.run_getObj_map (P := P) hb, Sem.run_pure, run_checkKey h2 (isKey_str s)]
   rcases now_str es.toList m 0 s hes with ⟨h3, h4⟩ | ⟨j, v, h3, h4, _⟩
   ·rw [run_findKey h2 h3]
    simp [run_zeroV hz, h4]
   ·rw [run_findKey h2 h3]
    simp [h4]
  simp only [execOp, hs.eval hx (hcx h), hs.eval hy (hcy h), Sem.run_bind, hr, Result.andThen_ok]
  rfl
theorem OL.makeMap {dd : Nat} {k e : TypeId} (hn : Nat.ble (dd + 1) n.n = true) (ht : mapT P t = some (k, e)) (kk : ∀ b, AllLe S b → OL P n ops Q rest ((dd, true, .map (some b)) :: l) (Cls (mapS b [] :: H) S)) :
  OL P n ops Q (⟨some dd, .makeMap t none, ty, pos, af, none⟩ :: rest) l (Cls H S) :=
 OL.new (C' := fun b w => AllLe S b ∧ Cls (mapS b [] :: H) S w) rfl rfl hn (fun b => .map (some b))
  (fun a w hs hc => ⟨w.heap.size, w.alloc (.map #[] 0), rfl, AllLe.mk hc, hc.add (ext_alloc w _) _ ⟨#[], 0, heap_alloc_new w _, rfl⟩ (fun k hk => by
   have hk' : k = w.heap.size := hk
   subst hk'; simp)⟩)
  (fun b => ⟨fun a w hs hc => (kk b hc.1).run a w hs hc.2⟩)
theorem set_heap {w : World} {b : Nat} {o o' : Obj} (hb : w.heap[b]? = some o) : ({ w with heap := w.heap.setIfInBounds b o' } : World).heap[b]? = some o' ∧ Keep (fun k => k = b) w { w with heap := w.heap.setIfInBounds b o' } := by
 have hlt := (Array.getElem?_eq_some_iff.1 hb).1
 refine ⟨by simp [Array.getElem?_setIfInBounds, hlt], rfl, rfl, rfl, by simp, fun k hk hne => ?_⟩
 have : ¬ b = k := fun e => hne e.symm
 simp [Array.getElem?_setIfInBounds, this]
end
end Go.Eng

/- Maps whose keys are ints: an item for the list of keys and values; make, look up, put, delete; range over a map. General. No condition. -/
namespace Go.Eng
open Go.RowKit Go.MapKept
abbrev MI := List (Int × Value)
def iget : MI → Int → Option Value
 | [], _ => none
 | p :: r, k => if p.1 = k then some p.2 else iget r k
def idel : MI → Int → MI
 | [], _ => []
 | p :: r, k => if p.1 = k then r else p :: idel r k
def iput : MI → Int → Value → MI
 | [], k, v => [(k, v)]
 | p :: r, k, v => if p.1 = k then (k, v) :: r else p :: iput r k v
theorem iget_iput (m : MI) (k : Int) (v : Value) (j : Int) : iget (iput m k v) j = if k = j then some v else iget m j := by
 induction m with
 | nil => simp [iput, iget]
 | cons p r ih =>
  unfold iput
  by_cases h : p.1 = k
  ·rw [if_pos h]
   simp only [iget, h]
   split <;> simp_all
  ·rw [if_neg h]
   simp only [iget, ih]
   by_cases h2 : p.1 = j
   ·rw [if_pos h2, if_pos h2, if_neg (fun e => h (h2.trans e.symm))]
   ·rw [if_neg h2, if_neg h2]
theorem iput_new : ∀ {m : MI} {k : Int} {v : Value}, iget m k = none → iput m k v = m ++ [(k, v)]
 | [], k, v, _ => rfl
 | p :: r, k, v, h => by
  rw [iget] at h
  by_cases e : p.1 = k
  ·rw [if_pos e] at h; cases h
  ·rw [if_neg e] at h
   rw [iput, if_neg e, iput_new h]; rfl
def icells (m : MI) : List (Value × Value) := m.map fun p => (.int .i64 p.1, p.2)
structure MapIs (es : Array MapEntry) (clock : Nat) (m : MI) : Prop where
 es_ : es.toList.map (fun e => (e.key, e.val)) = icells m
 lt : ∀ x ∈ es.toList, x.born < clock
 nd : (es.toList.map (·.born)).Nodup
def mapI (b : Nat) (m : MI) : Item :=
 ⟨fun k => k = b, fun w => ∃ es clock, w.heap[b]? = some (.map es clock) ∧ MapIs es clock m, fun w w' hk ⟨es, c, h, h2⟩ => ⟨es, c, (hk b rfl).trans h, h2⟩⟩
theorem NotOwned.mapI {H : List Item} {b : Nat} {m : MI} {k : Nat} (h : k ≠ b) (r : NotOwned H k) : NotOwned (Eng.mapI b m :: H) k := NotOwned.any (fun hm => h hm) r
theorem now_int : ∀ (es : List MapEntry) (m : MI) (i : Nat) (k : Int), es.map (fun e => (e.key, e.val)) = icells m →
  (Instr.findNow (.int .i64) (.int .i64 k) es i = some none ∧ iget m k = none) ∨ ∃ j v e0, Instr.findNow (.int .i64) (.int .i64 k) es i = some (some (i + j, v)) ∧ iget m k = some v ∧ es[j]? = some e0 ∧ e0.key = .int .i64 k ∧ (es.eraseIdx j).map (fun e => (e.key, e.val)) = icells (idel m k) ∧ ∀ v', (es.modify j (fun e => { e with key := .int .i64 k, val := v' })).map (fun e => (e.key, e.val)) = icells (iput m k v')
 | [], m, i, k, h => by
  cases m with
  | nil => exact .inl ⟨rfl, rfl⟩
  | cons p r => simp [icells] at h
 | e :: es, m, i, k, h => by
  cases m with
  | nil => simp [icells] at h
  | cons p r =>
   simp only [icells, List.map_cons, List.cons.injEq, Prod.mk.injEq] at h
   obtain ⟨⟨h1, h2⟩, h3⟩ := h
   by_cases hk : p.1 = k
   ·refine .inr ⟨0, e.val, e, ?_, by simp [iget, hk, h2], rfl, by rw [h1, hk], ?_, fun v' => ?_⟩
    ·simp [Instr.findNow, Instr.sameNow, h1, hk]
    ·simp only [List.eraseIdx_cons_zero, idel, hk, if_true]
     exact h3
    ·rw [List.modify_zero_cons]
     simp only [List.map_cons, iput, hk, if_true, icells]
     rw [h3]
     first | done | rfl
   ·have hb : (k == p.1) = false := by
     rw [Bool.eq_false_iff]
     exact fun hh => hk (show k = p.1 by simpa using hh).symm
    rcases now_int es r (i + 1) k h3 with ⟨h4, h5⟩ | ⟨j, v, e0, h4, h5, h6, h7, h8, h9⟩
    ·exact .inl ⟨by simp [Instr.findNow, Instr.sameNow, h1, hb, h4], by simp [iget, hk, h5]⟩
    ·refine .inr ⟨j + 1, v, e0, by simp [Instr.findNow, Instr.sameNow, h1, hb, h4]; omega, by simp [iget, hk, h5], by simpa using h6, h7, ?_, fun v' => ?_⟩
     ·simp only [List.eraseIdx_cons_succ, List.map_cons, idel, hk, if_false, icells, h1, h2]
      rw [h8]; rfl
     ·rw [List.modify_succ_cons]
      simp only [List.map_cons, iput, hk, if_false, icells, h1, h2]
      rw [h9]; rfl
theorem isKey_int (s : Int) : IsKey (.int .i64) (.int .i64 s) := by simp [IsKey]
theorem W.exx {P : Program} {n : Nm} {l : Env} {C : World → Prop} {Q : Exit → Act → World → Prop} {code : Code} {X : Type} {C' : X → World → Prop} (h : ∀ w, C w → ∃ x, C' x w) (k : ∀ x, W P n code Q l (C' x)) : W P n code Q l C :=
 ⟨fun a w hs hc => by
  obtain ⟨x, hx⟩ := h w hc
  exact (k x).run a w hs hx⟩
theorem OL.exx {P : Program} {n : Nm} {l : Env} {C : World → Prop} {Q : Exit → Act → World → Prop} {ops : Array Oper} {rest : List Oper} {X : Type} {C' : X → World → Prop} (h : ∀ w, C w → ∃ x, C' x w) (k : ∀ x, OL P n ops Q rest l (C' x)) : OL P n ops Q rest l C :=
 ⟨fun a w hs hc => by
  obtain ⟨x, hx⟩ := h w hc
  exact (k x).run a w hs hx⟩
section
variable {P : Program} {n : Nm} {l : Env} {H : List Item} {S : List World} {C : World → Prop} {c : Bool} {d : Option Nat} {ty : TypeId} {pos : String} {af : Array Edge} {g : Option (Nat × Bool)}
variable {ops : Array Oper} {rest : List Oper} {Q : Exit → Act → World → Prop} {t : TypeId} {x y z : Operand} {cx cy cz : Bool}
def mapTi (P : Program) (t : TypeId) : Option (TypeId × TypeId) := match P.underlying t with
 | some (.map k e) => match P.underlying k with
  | some (.int .i64) => some (k, e)
  | _ => none
 | _ => none
theorem mapTi_spec {k e : TypeId} (h : mapTi P t = some (k, e)) : P.underlying t = some (.map k e) ∧ P.underlying k = some (.int .i64) := by
 unfold mapTi at h
 split at h
 ·split at h
  ·simp only [Option.some.injEq, Prod.mk.injEq] at h
   obtain ⟨rfl, rfl⟩ := h
   rename_i h1 _ h2
   exact ⟨h1, h2⟩
  ·cases h
 ·cases h
theorem run_ilookup {w : World} {k e : TypeId} {b clock : Nat} {es : Array MapEntry} {m : MI} {s : Int} {zv : Value} (ht : mapTi P t = some (k, e)) (hz : zeroV P e = some zv) (hb : w.heap[b]? = some (.map es clock)) (hm : MapIs es clock m) (co : Bool) :
  (Instr.lookup t (.map (some b)) (.int .i64 s) co).run P w = .ok (if co then .tuple #[(iget m s).getD zv, .bool (iget m s).isSome] else (iget m s).getD zv) w := by
 obtain ⟨h1, h2⟩ := mapTi_spec ht
 simp only [Instr.lookup, Sem.run_bind, run_underlying h1, Result.andThen_ok, Go.MapKept.run_getObj_map (P := P) hb, Sem.run_pure, run_checkKey h2 (isKey_int s)]
 rcases now_int es.toList m 0 s hm.es_ with ⟨h3, h4⟩ | ⟨j, v, _, h3, h4, _⟩
 ·rw [run_findKey h2 h3]
  simp [run_zeroV hz, h4]
 ·rw [run_findKey h2 h3]
  simp [h4]
theorem Pev.ilookup {k e : TypeId} {b : Nat} {m : MI} {s : Int} {zv : Value} (hx : evl l x = some (cx, .map (some b))) (hcx : c = true → cx = true) (hy : evl l y = some (cy, .int .i64 s)) (hcy : c = true → cy = true) (ht : mapTi P t = some (k, e)) (hz : zeroV P e = some zv) (hm : ∀ w, C w → (mapI b m).holds w) :
  Pev P n l C ⟨d, .lookup t x y false, ty, pos, af, g⟩ c ((iget m s).getD zv) :=
 .of_run fun h a w hs hw => by
  obtain ⟨es, clock, hb, hes⟩ := hm w hw
  have hr := run_ilookup (s := s) ht hz hb hes false
  simp only [execOp, hs.eval hx (hcx h), hs.eval hy (hcy h), Sem.run_bind, hr, Result.andThen_ok]
  rfl
theorem Pev.ilookup2 {k e : TypeId} {b : Nat} {m : MI} {s : Int} {zv : Value} (hx : evl l x = some (cx, .map (some b))) (hcx : c = true → cx = true) (hy : evl l y = some (cy, .int .i64 s)) (hcy : c = true → cy = true) (ht : mapTi P t = some (k, e)) (hz : zeroV P e = some zv) (hm : ∀ w, C w → (mapI b m).holds w) :
  Pev P n l C ⟨d, .lookup t x y true, ty, pos, af, g⟩ c (.tuple #[(iget m s).getD zv, .bool (iget m s).isSome]) :=
 .of_run fun h a w hs hw => by
  obtain ⟨es, clock, hb, hes⟩ := hm w hw
  have hr := run_ilookup (s := s) ht hz hb hes true
  simp only [execOp, hs.eval hx (hcx h), hs.eval hy (hcy h), Sem.run_bind, hr, Result.andThen_ok]
  rfl
theorem OL.imakeMap {dd : Nat} {k e : TypeId} (hn : Nat.ble (dd + 1) n.n = true) (ht : mapTi P t = some (k, e)) (kk : ∀ b, AllLe S b → OL P n ops Q rest ((dd, true, .map (some b)) :: l) (Cls (mapI b [] :: H) S)) :
  OL P n ops Q (⟨some dd, .makeMap t none, ty, pos, af, none⟩ :: rest) l (Cls H S) :=
 OL.new (C' := fun b w => AllLe S b ∧ Cls (mapI b [] :: H) S w) rfl rfl hn (fun b => .map (some b))
  (fun a w hs hc => ⟨w.heap.size, w.alloc (.map #[] 0), rfl, AllLe.mk hc, hc.add (ext_alloc w _) _ ⟨#[], 0, heap_alloc_new w _, ⟨rfl, by simp, by simp⟩⟩ (fun k hk => by
   have hk' : k = w.heap.size := hk
   subst hk'; simp)⟩)
  (fun b => ⟨fun a w hs hc => (kk b hc.1).run a w hs hc.2⟩)
theorem OL.iput {k e : TypeId} {b p : Nat} {m : MI} {s : Int} {v : Value} {F : Item → List Item} (hx : evl l x = some (true, .map (some b))) (hy : evl l y = some (true, .int .i64 s)) (hz : evl l z = some (true, v)) (ht : mapTi P t = some (k, e)) (hH : Hole p H (mapI b m) F)
  (kk : OL P n ops Q rest l (Cls (F (mapI b (iput m s v))) S)) : OL P n ops Q (⟨none, .mapUpdate t x y z, ty, pos, af, none⟩ :: rest) l (Cls H S) := by
 obtain ⟨hp, hF⟩ := hH.eq
 rw [hF] at kk
 obtain ⟨h1, h2⟩ := mapTi_spec ht
 refine OL.store_ (C' := Cls (H.set p (mapI b (Eng.iput m s v))) S) rfl rfl (fun a w hs hc => ?_) kk
 obtain ⟨es, clock, hb, hes⟩ := hc.item (List.mem_of_getElem? hp)
 have fin : ∀ (es' : Array MapEntry) (clock' : Nat), (Instr.mapUpdate t (.map (some b)) (.int .i64 s) v).run P w = .ok () { w with heap := w.heap.setIfInBounds b (.map es' clock') } → MapIs es' clock' (Eng.iput m s v) → ∃ w', (execOp a.eval ⟨none, .mapUpdate t x y z, ty, pos, af, none⟩).run P w = .ok .skip w' ∧ Cls (H.set p (mapI b (Eng.iput m s v))) S w' := fun es' clock' hr hm => by
  obtain ⟨hh, hk⟩ := set_heap (o' := .map es' clock') hb
  refine ⟨_, ?_, hc.turn p hp (j := mapI b (Eng.iput m s v)) hk ⟨_, _, hh, hm⟩ (fun q hq => ?_) (fun q hq => hq)⟩
  ·simp only [execOp, hs.eval hx rfl, hs.eval hy rfl, hs.eval hz rfl, Sem.run_bind, hr, Result.andThen_ok]
   rfl
  ·have hq' : q = b := hq
   subst hq'
   exact ⟨.inl rfl, Nat.lt_of_lt_of_le (hc.lt _ (List.mem_of_getElem? hp) q rfl) hk.size⟩
 rcases now_int es.toList m 0 s hes.es_ with ⟨h3, h4⟩ | ⟨j, v', e0, h3, h4, h5, h6, _, h7⟩
 ·refine fin (es.push { key := .int .i64 s, val := v, born := clock }) (clock + 1) ?_ ⟨?_, fun x hx => ?_, ?_⟩
  ·simp only [Instr.mapUpdate, Sem.run_bind, run_underlying h1, Result.andThen_ok, Go.MapKept.run_getObj_map (P := P) hb, run_checkKey h2 (isKey_int s), run_findKey h2 h3, run_setObj_map _ hb]
  ·rw [iput_new h4]
   simp [hes.es_, icells]
  ·simp only [Array.toList_push, List.mem_append, List.mem_singleton] at hx
   rcases hx with hx | rfl
   ·exact Nat.lt_succ_of_lt (hes.lt x hx)
   ·exact Nat.lt_succ_self _
  ·simp only [Array.toList_push, List.map_append, List.map_cons, List.map_nil]
   refine List.nodup_append.2 ⟨hes.nd, by simp, ?_⟩
   intro a ha b hb
   simp only [List.mem_singleton] at hb
   subst hb
   obtain ⟨x, hx, rfl⟩ := List.mem_map.1 ha
   exact Nat.ne_of_lt (hes.lt x hx)
 ·rw [Nat.zero_add] at h3
  have hj : es[j]? = some e0 := by simpa using h5
  have hml : (es.modify j fun e => { e with key := .int .i64 s, val := v }).toList = es.toList.modify j fun e => { e with key := .int .i64 s, val := v } := by simp
  have hborn : (es.toList.modify j fun e => { e with key := .int .i64 s, val := v }).map (·.born) = es.toList.map (·.born) := by
   apply List.ext_getElem?
   intro i
   simp only [List.getElem?_map, List.getElem?_modify]
   by_cases hij : j = i
   ·subst hij
    cases he : es.toList[j]? <;> simp
   ·cases he : es.toList[i]? <;> simp [hij]
  refine fin (es.modify j fun e => { e with key := .int .i64 s, val := v }) clock ?_ ⟨by rw [hml]; exact h7 v, fun x hx => ?_, by rw [hml, hborn]; exact hes.nd⟩
  ·simp [Instr.mapUpdate, run_underlying h1, Go.MapKept.run_getObj_map (P := P) hb, run_checkKey h2 (isKey_int s), run_findKey h2 h3, hj, h6, run_keyThatStays (isKey_int s), run_setObj_map _ hb, Result.andThen]
  ·have : x.born ∈ (es.toList.modify j fun e => { e with key := .int .i64 s, val := v }).map (·.born) := List.mem_map.2 ⟨x, by rw [← hml]; exact hx, rfl⟩
   rw [hborn] at this
   obtain ⟨y, hy, e⟩ := List.mem_map.1 this
   rw [← e]; exact hes.lt y hy
/-! ### range over a map -/
def itI (r b since : Nat) (seen : Array Nat) (c0 : Nat) : Item :=
 ⟨fun k => k = r, fun w => w.heap[r]? = some (.mapIter (some b) since seen c0), fun w w' hk h => (hk r rfl).trans h⟩
theorem NotOwned.itI {H : List Item} {r b since c0 : Nat} {seen : Array Nat} {k : Nat} (h : k ≠ r) (rr : NotOwned H k) : NotOwned (Eng.itI r b since seen c0 :: H) k := NotOwned.any (fun hm => h hm) rr
def mapX (b : Nat) (es : Array MapEntry) (clock : Nat) : Item :=
 ⟨fun k => k = b, fun w => w.heap[b]? = some (.map es clock), fun w w' hk h => (hk b rfl).trans h⟩
theorem NotOwned.mapX {H : List Item} {b clock : Nat} {es : Array MapEntry} {k : Nat} (h : k ≠ b) (rr : NotOwned H k) : NotOwned (Eng.mapX b es clock :: H) k := NotOwned.any (fun hm => h hm) rr
theorem Cls.mapX_of {w : World} {b p : Nat} {m : MI} {F : Item → List Item} (hh : Hole p H (mapI b m) F) (h : Cls H S w) : ∃ x : Array MapEntry × Nat, MapIs x.1 x.2 m ∧ Cls (F (mapX b x.1 x.2)) S w := by
 obtain ⟨h1, h2⟩ := hh.eq
 have hm := List.mem_of_getElem? h1
 obtain ⟨es, clock, hb, hes⟩ := h.item hm
 refine ⟨(es, clock), hes, ?_⟩
 rw [h2]
 exact h.turn p h1 (Keep.refl _ _) hb (fun k hk => ⟨.inl hk, h.lt _ hm k hk⟩) (fun k hk => hk)
theorem OL.rangeMap {dd : Nat} {k e : TypeId} {b clock : Nat} {es : Array MapEntry} (hx : evl l x = some (true, .map (some b))) (hn : Nat.ble (dd + 1) n.n = true) (ht : mapTi P t = some (k, e)) (hb : ∀ w, Cls H S w → w.heap[b]? = some (.map es clock))
  (kk : ∀ r, AllLe S r → OL P n ops Q rest ((dd, true, .pointer (some ⟨r, 0, none⟩)) :: l) (Cls (itI r b clock #[] clock :: H) S)) :
  OL P n ops Q (⟨some dd, .range t x, ty, pos, af, none⟩ :: rest) l (Cls H S) :=
 OL.new (C' := fun r w => AllLe S r ∧ Cls (itI r b clock #[] clock :: H) S w) rfl rfl hn (fun r => .pointer (some ⟨r, 0, none⟩))
  (fun a w hs hc => by
   have hr := run_range_map w t k e b es clock (mapTi_spec ht).1 (hb w hc)
   refine ⟨w.heap.size, _, ?_, AllLe.mk hc, hc.add (ext_alloc w (.mapIter (some b) clock #[] clock)) _ (Go.heap_alloc_new w _) (fun k hk => by
    have hk' : k = w.heap.size := hk
    subst hk'; simp)⟩
   simp only [execOp, hs.eval hx rfl, Sem.run_bind, hr, Result.andThen_ok]
   rfl)
  (fun b => ⟨fun a w hs hc => (kk b hc.1).run a w hs hc.2⟩)
theorem Cls.drew1 {w w1 : World} (h : Cls H S w) (e : w1 = w ∨ w1 = w.drew) : Cls H S w1 := by
 rcases e with rfl | rfl
 ·exact h
 ·exact h.drew
theorem OL.nextMap {dd p r b since c0 clock : Nat} {seen : Array Nat} {es : Array MapEntry} {F : Item → List Item} (hx : evl l x = some (true, .pointer (some ⟨r, 0, none⟩))) (hn : Nat.ble (dd + 1) n.n = true) (hb : ∀ w, Cls H S w → w.heap[b]? = some (.map es clock)) (hold : ∀ e ∈ es.toList, e.born < since) (hsc : since ≤ c0)
  (hH : Hole p H (itI r b since seen c0) F)
  (k0 : (leftOf es seen).size = 0 → OL P n ops Q rest ((dd, true, .tuple #[.bool false]) :: l) (Cls H S))
  (k1 : ∀ e ∈ (leftOf es seen).toList, OL P n ops Q rest ((dd, true, .tuple #[.bool true, e.key, e.val]) :: l) (Cls (F (itI r b since (seen.push e.born) clock)) S)) :
  OL P n ops Q (⟨some dd, .next x false, ty, pos, af, none⟩ :: rest) l (Cls H S) := by
 have hn' := Nat.le_of_ble_eq_true hn
 obtain ⟨hp, hF⟩ := hH.eq
 have hm := List.mem_of_getElem? hp
 refine ⟨fun a w hs hc => ?_⟩
 refine wpList_plain rfl fun K hK => ?_
 rcases run_next_at (P := P) w ty r b since c0 seen es clock (hc.item hm) (hb w hc) hold hsc with ⟨h0, hr⟩ | ⟨e, he, w1, hw1, hr⟩
 ·show Oper.upon P _ a K Q ((execOp a.eval _).run P w)
  simp only [execOp, hs.eval hx rfl, Sem.run_bind, hr, Result.andThen_ok]
  exact hK _ _ ((k0 h0).run _ w (hs.put hn' true _) hc)
 ·show Oper.upon P _ a K Q ((execOp a.eval _).run P w)
  simp only [execOp, hs.eval hx rfl, Sem.run_bind, hr, Result.andThen_ok]
  have hc1 := hc.drew1 hw1
  obtain ⟨hh, hk⟩ := set_heap (o' := .mapIter (some b) since (seen.push e.born) clock) (hc1.item hm)
  refine hK _ _ ((k1 e he).run _ _ (hs.put hn' true _) ?_)
  rw [hF]
  exact hc1.turn p hp (j := itI r b since (seen.push e.born) clock) hk hh (fun q hq => ⟨.inl hq, Nat.lt_of_lt_of_le (hc1.lt _ hm q hq) hk.size⟩) (fun q hq => hq)
theorem Pev.entryMap {r b since clock : Nat} {seen : Array Nat} {es : Array MapEntry} {e : MapEntry} (hx : evl l x = some (cx, .pointer (some ⟨r, 0, none⟩))) (hcx : c = true → cx = true) (hb : ∀ w, Cls H S w → w.heap[b]? = some (.map es clock)) (hi : itI r b since (seen.push e.born) clock ∈ H) (he : e ∈ es.toList) (hn : (es.toList.map (·.born)).Nodup) :
  Pev P n l (Cls H S) ⟨d, .entry x, ty, pos, af, g⟩ c (.tuple #[e.key, e.val]) :=
 .of_run fun h a w hs hw => by
  have hr := run_entry_at (P := P) w r b since seen es clock e (hw.item hi) (hb w hw) he hn
  simp only [execOp, hs.eval hx (hcx h), Sem.run_bind, hr, Result.andThen_ok]
  rfl
end
end Go.Eng

/- A region that draws its order, whose pure operations come first, whatever its other ones wait for, and whose other ones then follow one behind another. General. No condition. -/
namespace Go.Eng
open Go.RowKit
def pureB (o : Oper) : Bool := match o.op with
 | .move _ => true
 | .assign _ => true
 | .pick .. => true
 | .build .. => true
 | .load .. => true
 | .nilCheck _ => true
 | .binOp .. => true
 | .unOp .. => true
 | .convert .. => true
 | .makeFunc .. => true
 | .slice .. => true
 | .fieldAddr .. => true
 | .field .. => true
 | .indexAddr .. => true
 | .index .. => true
 | .lookup .. => true
 | .extract .. => true
 | .call c => match c.callee with
  | .builtin .len => true
  | .builtin .min => true
  | .builtin .max => true
  | _ => false
 | _ => false
def depB (o : Oper) : Bool := match o.op with
 | .load .. => true
 | .lookup .. => true
 | .index .. => true
 | .convert .. => true
 | _ => false
section
variable {P : Program} {ops : Array Oper} {C0 : World → Prop}
theorem value_only {M : Sem Value} {w : World} {n : Next} {w' : World} (h : (do pure (.value (← M)) : Sem Next).run P w = .ok n w') : ∃ u, n = .value u := by
 rw [Sem.run_bind] at h
 generalize M.run P w = r at h
 cases r with
 | ok v w1 => simp [Result.andThen] at h; exact ⟨v, h.1.symm⟩
 | halt x w1 => simp [Result.andThen] at h
theorem value_bind {α : Type} {M : Sem α} {f : α → Sem Next} (hf : ∀ x w n w', (f x).run P w = .ok n w' → ∃ u, n = .value u) (w : World) (n : Next) (w' : World) (h : (M >>= f).run P w = .ok n w') : ∃ u, n = .value u := by
 rw [Sem.run_bind] at h
 generalize M.run P w = r at h
 cases r with
 | ok v w1 => exact hf _ _ _ _ h
 | halt x w1 => simp [Result.andThen] at h
theorem pure_value {o : Oper} {ρ : Operand → Value} {w : World} {n : Next} {w' : World} (hp : pureB o = true) (h : (execOp ρ o).run P w = .ok n w') : ∃ u, n = .value u := by
 obtain ⟨dst, op, type, pos, after, guard⟩ := o
 cases op <;> simp only [pureB, Bool.false_eq_true] at hp <;> simp only [execOp] at h <;> try (exact value_only h)
 case move x => simp at h; exact ⟨_, h.1.symm⟩
 case assign x => simp at h; exact ⟨_, h.1.symm⟩
 case pick c a b =>
  rw [Sem.run_bind] at h
  generalize (asBool (ρ c)).run P w = r at h
  cases r with
  | ok v w1 => simp [Result.andThen] at h; exact ⟨_, h.1.symm⟩
  | halt x w1 => simp [Result.andThen] at h
 case nilCheck x =>
  split at h
  ·simp [runtimePanic] at h
  ·simp [runtimePanic] at h
  ·simp [runtimePanic] at h
  ·split at h
   ·simp [runtimePanic] at h
   ·refine value_bind (fun p => value_bind (fun q => ?_)) _ _ _ h
    intro w n w' h
    split at h
    ·simp only [unsupported, Sem.run_bind] at h
     simp at h
    ·simp at h; exact ⟨_, h.1.symm⟩
   ·simp at h; exact ⟨_, h.1.symm⟩
  ·simp at h; exact ⟨_, h.1.symm⟩
 case call c =>
  obtain ⟨callee, args, ats⟩ := c
  cases callee with
  | builtin b =>
   cases b <;> simp only [Bool.false_eq_true] at hp <;> simp only [resolve, invoke, builtin, Sem.run_bind, Sem.run_pure, Result.andThen_ok] at h
   case len =>
    generalize (Builtin.len_ ats type (Array.map ρ args)).run P w = r at h
    cases r with
    | ok v w1 => simp [Result.andThen] at h; exact ⟨v, h.1.symm⟩
    | halt x w1 => simp [Result.andThen] at h
   case min =>
    generalize (Builtin.min_ ats type (Array.map ρ args)).run P w = r at h
    cases r with
    | ok v w1 => simp [Result.andThen] at h; exact ⟨v, h.1.symm⟩
    | halt x w1 => simp [Result.andThen] at h
   case max =>
    generalize (Builtin.max_ ats type (Array.map ρ args)).run P w = r at h
    cases r with
    | ok v w1 => simp [Result.andThen] at h; exact ⟨v, h.1.symm⟩
    | halt x w1 => simp [Result.andThen] at h
  | value f => simp at hp
  | invoke r m => simp at hp
theorem still_of {D : World → Prop} {o : Oper} {ρ : Operand → Value} {w : World} {v : Value} (hp : pureB o = true) (h : Oper.quietUpon P D w v ((execOp ρ o).run P w)) : (execOp ρ o).run P w = .ok (.value v) w := by
 cases hr : (execOp ρ o).run P w with
 | ok n w' =>
  obtain ⟨u, rfl⟩ := pure_value hp hr
  rw [hr] at h
  simp only [Oper.quietUpon] at h
  rw [h.1, h.2]
 | halt x w' => rw [hr] at h; simp only [Oper.quietUpon] at h
/-! ### What one operation yields, where the class is asked of operations that look at memory alone -/
def YieldsZ (P : Program) (ops : Array Oper) (C0 : World → Prop) (o : Oper) (v : Value) (a : Act) : Prop :=
 (Region.wanted o (yielded ops a.tmps) = true ∧ ∀ w, (depB o = true → C0 w) → (execOp a.eval o).run P w = .ok (.value v) w) ∨
 (Region.wanted o (yielded ops a.tmps) = false ∧ v = undef)
theorem YieldsZ.of_same {o : Oper} {v : Value} {a a' : Act} (hy : YieldsZ P ops C0 o v a) (he : execOp a'.eval o = execOp a.eval o)
  (hw : Region.wanted o (yielded ops a'.tmps) = Region.wanted o (yielded ops a.tmps)) : YieldsZ P ops C0 o v a' := by
 unfold YieldsZ at *
 rw [he, hw]
 exact hy
variable {Q : Exit → Act → World → Prop}
theorem YieldsZ.wpOp {i : Nat} {o : Oper} {v : Value} {a : Act} (hi : ops[i]? = some o) (hy : YieldsZ P ops C0 o v a) {K : Act → World → Prop} {w : World} (hw0 : depB o = true → C0 w) (h : K (a.put o.dst v) w) : wpOp P ops Q i K a w := by
 unfold Go.wpOp
 simp only [hi]
 rcases hy with ⟨hw, hv⟩ | ⟨hw, rfl⟩
 ·simp only [hw, if_true, Oper.wp, hv w hw0, Oper.upon]; exact .inl h
 ·simp only [hw, Bool.false_eq_true, if_false]; exact h
theorem wpOp_putZ {j : Nat} {oi oj : Oper} {v : Value} (hj : ops[j]? = some oj) (hap : oi.apart ops oj = true)
  (hsi : ∀ cs b, oi.op ≠ .select cs b) (hsj : ∀ cs b, oj.op ≠ .select cs b) (hQ : ∀ c a w, ¬ Q (.panic c) a w) {K : Act → World → Prop} {a : Act} {w : World}
  (hy : YieldsZ P ops C0 oi v a) (h : wpOp P ops Q j K (a.put oi.dst v) w) :
  wpOp P ops Q j (fun a' w' => YieldsZ P ops C0 oi v a' ∧ K (a'.put oi.dst v) w') a w := by
 obtain ⟨h1, h2, h3⟩ := Oper.apart_spec hap
 have keep : ∀ (a : Act), YieldsZ P ops C0 oi v a → ∀ u, YieldsZ P ops C0 oi v (a.put oj.dst u) := fun a hy u =>
  hy.of_same (execOp_put oi hsi a oj.dst u h3) (wanted_put oi a oj.dst u h3)
 have keepD : ∀ d, YieldsZ P ops C0 oi v { a with defers := d :: a.defers } := fun d => hy.of_same rfl rfl
 unfold Go.wpOp at *
 simp only [hj] at *
 rw [wanted_put oj a oi.dst v h1] at h
 split
 ·rename_i hw
  simp only [hw, if_true] at h
  rcases h with h | ⟨hasks, hlets⟩
  case inr => exact .inr ⟨by unfold Oper.asks at *; rw [execOp_put oj hsj a oi.dst v h1] at hasks; exact hasks, hlets⟩
  refine .inl ?_
  unfold Oper.wp at *
  rw [execOp_put oj hsj a oi.dst v h1] at h
  generalize (execOp a.eval oj).run P w = r at *
  cases r with
  | ok n w' =>
   cases n <;> simp only [Oper.upon] at h ⊢
   case value u => exact ⟨keep a hy u, by rw [← Act.put_comm a v u h2]; exact h⟩
   case skip => exact ⟨keep a hy _, by rw [← Act.put_comm a v undef h2]; exact h⟩
   case defer d =>
    refine ⟨keep _ (keepD d) _, ?_⟩
    rw [← Act.put_comm _ v undef h2, ← Act.put_defers]
    exact h
   case enter f args =>
    refine Calls.mono h fun e w'' he => ?_
    cases e with
    | returned u => exact ⟨keep a hy u, by rw [← Act.put_comm a v u h2]; exact he⟩
    | panicked c => exact absurd he (hQ _ _ _)
    | outgrown => exact he
   case row row args => exact Rows.mono h fun u w'' he => ⟨keep a hy u, by rw [← Act.put_comm a v u h2]; exact he⟩
  | halt x w' =>
   cases x <;> simp only [Oper.upon] at h ⊢
   case panic u => exact absurd h (hQ _ _ _)
 ·rename_i hw
  simp only [hw] at h
  exact ⟨keep a hy _, by rw [← Act.put_comm a v undef h2]; exact h⟩
/-! ### Whatever order: what some operations keep is told -/
def wpZ (P : Program) (ops : Array Oper) (C0 : World → Prop) (need : Nat → Bool) (Q : Exit → Act → World → Prop) : Nat → Array Bool → Act → World → Prop
 | 0, li, a, w => Region.ready .any ops li = [] ∧ Q .normal a w
 | f + 1, li, a, w => (Region.ready .any ops li = [] → Q .normal a w) ∧ ∀ i ∈ Region.ready .any ops li, wpOp P ops Q i (fun a' w' => (need i = true → C0 w → C0 w') ∧ wpZ P ops C0 need Q f (li.setIfInBounds i true) a' w') a w
theorem wpAny_of_Z {need : Nat → Bool} : ∀ (f : Nat) (li : Array Bool) (a : Act) (w : World), wpZ P ops C0 need Q f li a w → wpAny P .any ops Q f li a w
 | 0, _, _, _, h => h
 | f + 1, li, a, w, h => ⟨h.1, fun i hi => wpOp_mono (fun a' w' h' => wpAny_of_Z f _ a' w' h'.2) (h.2 i hi)⟩
theorem wpZ_first {need : Nat → Bool} {i : Nat} {oi : Oper} {v : Value} (hi : ops[i]? = some oi) (hsel : ∀ (j : Nat) (o : Oper) cs b, ops[j]? = some o → o.op ≠ .select cs b) (hQ : ∀ c a w, ¬ Q (.panic c) a w) :
  ∀ (fuel : Nat) (li : Array Bool) (a : Act) (w : World), Dn ops li →
   (∀ j oj, ops[j]? = some oj → j ≠ i → li.getD j true = false → waitsB ops ops.size j i = false → oi.apart ops oj = true ∧ (depB oi = true → need j = true)) →
   i ∈ Region.ready .any ops li → YieldsZ P ops C0 oi v a → (depB oi = true → C0 w) →
   wpZ P ops C0 need Q fuel (li.setIfInBounds i true) (a.put oi.dst v) w → wpZ P ops C0 need Q (fuel + 1) li a w := by
 intro fuel
 induction fuel with
 | zero =>
  intro li a w hD _ hr hy hC H
  refine ⟨fun h => (by rw [h] at hr; cases hr), fun j hj => ?_⟩
  by_cases hji : j = i
  ·subst hji; exact hy.wpOp hi hC ⟨fun _ h => h, H⟩
  ·have := ready_mono hj hji
   rw [H.1] at this
   cases this
 | succ fuel ih =>
  intro li a w hD hfree hr hy hC H
  refine ⟨fun h => (by rw [h] at hr; cases hr), fun j hj => ?_⟩
  by_cases hji : j = i
  ·subst hji; exact hy.wpOp hi hC ⟨fun _ h => h, H⟩
  ·have h1 := H.2 j (ready_mono hj hji)
   obtain ⟨hjun, oj, hoj, hall⟩ := mem_ready.1 hj
   have hnw : waitsB ops ops.size j i = false := by
    cases hw : waitsB ops ops.size j i with
    | false => rfl
    | true =>
     have h2 := waits_done hD _ j oj hoj hall hw
     rw [getD_ft (mem_ready.1 hr).1] at h2
     cases h2
   obtain ⟨hap, hn⟩ := hfree j oj hoj hji hjun hnw
   have h2 := wpOp_putZ hoj hap (fun cs b => hsel i oi cs b hi) (fun cs b => hsel j oj cs b hoj) hQ hy h1
   have hfree' : ∀ k ok, ops[k]? = some ok → k ≠ i → (li.setIfInBounds j true).getD k true = false → waitsB ops ops.size k i = false → oi.apart ops ok = true ∧ (depB oi = true → need k = true) := fun k ok hk hki hun hno => by
    refine hfree k ok hk hki ?_ hno
    by_cases hjk : j = k
    ·subst hjk; exact hjun
    ·rw [getD_set_ne true hjk] at hun; exact hun
   refine wpOp_mono (fun a' w' h3 => ⟨h3.2.1, ih (li.setIfInBounds j true) a' w' (hD.set hj) hfree' (ready_mono hr (Ne.symm hji)) h3.1 (fun hd => h3.2.1 (hn hd) (hC hd)) ?_⟩) h2
   rw [Array.setIfInBounds_comm _ _ hji]
   exact h3.2.2
/-! ### The pure ones first -/
def freeZ (ops : Array Oper) (li : Array Bool) (i : Nat) : Bool :=
 match ops[i]? with
 | none => false
 | some oi => (List.range ops.size).all fun j => Nat.beq j i || (li.getD j true || (waitsB ops ops.size j i || (match ops[j]? with
   | some oj => oi.apart ops oj
   | none => true)))
def needZ (ops : Array Oper) (xi : List Nat) (k : Nat) : Bool := xi.any fun i => (match ops[i]? with | some o => depB o | none => false) && !waitsB ops ops.size k i
theorem freeZ_spec {i : Nat} {oi : Oper} {li : Array Bool} {xi : List Nat} (hi : ops[i]? = some oi) (hx : i ∈ xi) (h : freeZ ops li i = true) (j : Nat) (oj : Oper) (hj : ops[j]? = some oj) (hne : j ≠ i) (hun : li.getD j true = false) (hno : waitsB ops ops.size j i = false) :
  oi.apart ops oj = true ∧ (depB oi = true → needZ ops xi j = true) := by
 simp only [freeZ, hi, List.all_eq_true, List.mem_range] at h
 have h1 := h j (Array.getElem?_eq_some_iff.1 hj).1
 have hb : Nat.beq j i = false := by
  rw [Bool.eq_false_iff]; intro hb; exact hne (Nat.eq_of_beq_eq_true hb)
 simp only [hj, hun, hno, hb, Bool.false_or] at h1
 refine ⟨h1, fun hd => List.any_eq_true.2 ⟨i, hx, ?_⟩⟩
 simp [hi, hd, hno]
def preZ (ops : Array Oper) : List Nat → Array Bool → Bool
 | [], _ => true
 | i :: r, li => (Region.ready .any ops li).contains i && (freeZ ops li i && preZ ops r (li.setIfInBounds i true))
def runZ : List Nat → Array Bool → Array Bool
 | [], li => li
 | i :: r, li => runZ r (li.setIfInBounds i true)
def seqZ (ops : Array Oper) : List Nat → Array Bool → Bool
 | [], li => (Region.ready .any ops li).isEmpty
 | k :: t, li => (Region.ready .any ops li == [k]) && seqZ ops t (li.setIfInBounds k true)
def wpZL (P : Program) (ops : Array Oper) (C0 : World → Prop) (K : Act → Prop) : List Oper → Act → Prop
 | [], a => K a
 | o :: r, a => if Region.wanted o (yielded ops a.tmps) then ∃ v, (∀ w, (depB o = true → C0 w) → (execOp a.eval o).run P w = .ok (.value v) w) ∧ wpZL P ops C0 K r (a.put o.dst v) else wpZL P ops C0 K r (a.put o.dst undef)
def wpT (P : Program) (ops : Array Oper) (C0 : World → Prop) (need : Nat → Bool) (Q : Exit → Act → World → Prop) : List (Nat × Oper) → Act → World → Prop
 | [], a, w => Q .normal a w
 | (k, _) :: r, a, w => wpOp P ops Q k (fun a' w' => (need k = true → C0 w') ∧ wpT P ops C0 need Q r a' w') a w
theorem wpZ_seq {need : Nat → Bool} : ∀ (y : List (Nat × Oper)) (li : Array Bool) (a : Act) (w : World), seqZ ops (y.map (·.1)) li = true → wpT P ops C0 need Q y a w → wpZ P ops C0 need Q y.length li a w
 | [], li, a, w, hB, h => ⟨by simpa [seqZ] using hB, h⟩
 | (k, o) :: r, li, a, w, hB, h => by
  simp only [List.map_cons, seqZ, Bool.and_eq_true, beq_iff_eq] at hB
  refine ⟨fun h' => (by rw [hB.1] at h'; cases h'), fun i hi => ?_⟩
  rw [hB.1, List.mem_singleton] at hi
  subst hi
  exact wpOp_mono (fun a' w' h3 => ⟨fun hn _ => h3.1 hn, wpZ_seq r _ a' w' hB.2 h3.2⟩) h
theorem wpZ_pre {xi0 : List Nat} (hs : Region.noSelect ops = true) (hQ : ∀ c a w, ¬ Q (.panic c) a w) {K : Act → Prop} {f : Nat} {w : World} (hw : C0 w) : ∀ (x : List (Nat × Oper)) (li : Array Bool) (a : Act), (∀ p ∈ x, p.1 ∈ xi0 ∧ ops[p.1]? = some p.2) → Dn ops li →
  preZ ops (x.map (·.1)) li = true → wpZL P ops C0 K (x.map (·.2)) a → (∀ a, K a → wpZ P ops C0 (needZ ops xi0) Q f (runZ (x.map (·.1)) li) a w) → wpZ P ops C0 (needZ ops xi0) Q (x.length + f) li a w
 | [], li, a, _, _, _, h, hK => by
  rw [List.length_nil, Nat.zero_add]; exact hK a h
 | (i, o) :: r, li, a, hx, hD, hB, h, hK => by
  obtain ⟨hmem, hi⟩ := hx _ (.head _)
  simp only [List.map_cons, preZ, Bool.and_eq_true] at hB
  obtain ⟨hr, hf, hB'⟩ := hB
  have hr' : i ∈ Region.ready .any ops li := by simpa using hr
  have key : ∃ v, YieldsZ P ops C0 o v a ∧ wpZL P ops C0 K (r.map (·.2)) (a.put o.dst v) := by
   simp only [List.map_cons, wpZL] at h
   split at h
   ·rename_i hw
    obtain ⟨v, h1, h2⟩ := h
    exact ⟨v, .inl ⟨hw, h1⟩, h2⟩
   ·rename_i hw
    exact ⟨undef, .inr ⟨by simpa using hw, rfl⟩, h⟩
  obtain ⟨v, hy, h2⟩ := key
  rw [List.length_cons, show r.length + 1 + f = (r.length + f) + 1 by omega]
  exact wpZ_first hi (Region.noSelect_spec hs) hQ _ li a w hD (freeZ_spec hi hmem hf) hr' hy (fun _ => hw)
   (wpZ_pre hs hQ hw r _ _ (fun p hp => hx p (.tail _ hp)) (hD.set hr') hB' h2 hK)
def NoPanic (Q : Exit → Act → World → Prop) : Exit → Act → World → Prop := fun e a w => match e with
 | .panic _ => False
 | e => Q e a w
theorem wpOp_np {i : Nat} {K : Act → World → Prop} {a : Act} {w : World} (h : wpOp P ops (NoPanic Q) i K a w) : wpOp P ops Q i K a w := by
 have hp : ∀ e a w, e ≠ .normal → NoPanic Q e a w → Q e a w := fun e a w _ h => by
  cases e <;> first | exact h | exact h.elim
 unfold wpOp at *
 split
 ·rename_i ho; simp only [ho] at h; exact h
 ·rename_i o ho
  simp only [ho] at h
  split
  ·rename_i hw
   rw [if_pos hw] at h
   rcases h with h | ⟨h, a', w', hq⟩
   ·refine .inl ?_
    unfold Oper.wp at h ⊢
    exact upon_Q hp h
   ·exact .inr ⟨h, a', w', hq⟩
  ·rename_i hw
   rw [if_neg hw] at h
   exact h
theorem wpAny_np : ∀ (f : Nat) (li : Array Bool) (a : Act) (w : World), wpAny P .any ops (NoPanic Q) f li a w → wpAny P .any ops Q f li a w
 | 0, _, _, _, h => h
 | f + 1, li, a, w, h => ⟨h.1, fun i hi => wpOp_np (wpOp_mono (fun a' w' h' => wpAny_np f _ a' w' h') (h.2 i hi))⟩
end
inductive ZSplit : Nat → List Nat → List Oper → List (Nat × Oper) → List (Nat × Oper) → Prop where
 | nil {k : Nat} {tl : List Nat} : ZSplit k tl [] [] []
 | pure {k : Nat} {tl : List Nat} {o : Oper} {r : List Oper} {x y : List (Nat × Oper)} (hp : (pureB o && o.after.toList.all fun e => tl.all fun t => !Nat.beq t e.on) = true) (h : ZSplit (k + 1) tl r x y) : ZSplit k tl (o :: r) ((k, o) :: x) y
 | tail {k : Nat} {tl : List Nat} {o : Oper} {r : List Oper} {x y : List (Nat × Oper)} (h : ZSplit (k + 1) (k :: tl) r x y) : ZSplit k tl (o :: r) x ((k, o) :: y)
theorem ZSplit.spec {k : Nat} {tl : List Nat} {l : List Oper} {x y : List (Nat × Oper)} (h : ZSplit k tl l x y) : (∀ p ∈ x, k ≤ p.1 ∧ l[p.1 - k]? = some p.2 ∧ pureB p.2 = true) ∧ (∀ p ∈ y, k ≤ p.1 ∧ l[p.1 - k]? = some p.2) ∧ x.length + y.length = l.length := by
 induction h with
 | nil => simp
 | @pure k tl o r x y hp h ih =>
  simp only [Bool.and_eq_true] at hp
  refine ⟨fun p hpm => ?_, fun p hpm => ?_, by simp only [List.length_cons]; omega⟩
  ·rcases List.mem_cons.1 hpm with rfl | hpm
   ·exact ⟨Nat.le_refl _, by simp, hp.1⟩
   ·obtain ⟨h1, h2, h3⟩ := ih.1 p hpm
    exact ⟨by omega, by rw [show p.1 - k = (p.1 - (k + 1)) + 1 by omega, List.getElem?_cons_succ]; exact h2, h3⟩
  ·obtain ⟨h1, h2⟩ := ih.2.1 p hpm
   exact ⟨by omega, by rw [show p.1 - k = (p.1 - (k + 1)) + 1 by omega, List.getElem?_cons_succ]; exact h2⟩
 | @tail k tl o r x y h ih =>
  refine ⟨fun p hpm => ?_, fun p hpm => ?_, by simp only [List.length_cons]; omega⟩
  ·obtain ⟨h1, h2, h3⟩ := ih.1 p hpm
   exact ⟨by omega, by rw [show p.1 - k = (p.1 - (k + 1)) + 1 by omega, List.getElem?_cons_succ]; exact h2, h3⟩
  ·rcases List.mem_cons.1 hpm with rfl | hpm
   ·exact ⟨Nat.le_refl _, by simp⟩
   ·obtain ⟨h1, h2⟩ := ih.2.1 p hpm
    exact ⟨by omega, by rw [show p.1 - k = (p.1 - (k + 1)) + 1 by omega, List.getElem?_cons_succ]; exact h2⟩
structure ZL (P : Program) (n : Nm) (ops : Array Oper) (C0 : World → Prop) (K : Act → Prop) (rest : List (Nat × Oper)) (l : Env) : Prop where
 run : ∀ a, Sees n l a → wpZL P ops C0 K (rest.map (·.2)) a
structure TL (P : Program) (n : Nm) (ops : Array Oper) (C0 : World → Prop) (need : Nat → Bool) (Q : Exit → Act → World → Prop) (y : List (Nat × Oper)) (l : Env) (C : World → Prop) : Prop where
 run : ∀ a w, Sees n l a → C w → wpT P ops C0 need Q y a w
def TQ (P : Program) (ops : Array Oper) (C0 : World → Prop) (need : Nat → Bool) (k : Nat) (r : List (Nat × Oper)) (Q : Exit → Act → World → Prop) : Exit → Act → World → Prop := fun e a w => match e with
 | .normal => (need k = true → C0 w) ∧ wpT P ops C0 need Q r a w
 | e => Q e a w
def zB (ops : Array Oper) (xi yi : List Nat) : Bool := Region.noSelect ops && (preZ ops xi (Array.replicate ops.size false) && seqZ ops yi (runZ xi (Array.replicate ops.size false)))
section
variable {P : Program} {n : Nm} {l : Env} {C C0 : World → Prop} {ops : Array Oper} {Q : Exit → Act → World → Prop} {K : Act → Prop} {o : Oper} {k : Nat} {x y r : List (Nat × Oper)} {need : Nat → Bool}
theorem W.regz {id : Nat} {l0 : List Oper} (hs : ZSplit 0 [] l0 x y) (hm : P.follows .mixedOrders = true) (hB : zB l0.toArray (x.map (·.1)) (y.map (·.1)) = true) (hC : ∀ w, C w → C { w with drawn := w.drawn + 1 })
  (h : ZL P n l0.toArray C (fun a' => ∀ w', C w' → wpT P l0.toArray C (needZ l0.toArray (x.map (·.1))) (NoPanic Q) y a' w') x l) : W P n (.region id l0.toArray true) Q l C := ⟨fun a w hs' hc => by
 simp only [zB, Bool.and_eq_true] at hB
 obtain ⟨h1, h2, h3⟩ := hB
 obtain ⟨hx, hy, hlen⟩ := hs.spec
 refine wpp_region_any hm (wpAny_np _ _ _ _ (wpAny_of_Z (C0 := C) (need := needZ l0.toArray (x.map (·.1))) _ _ _ _ ?_))
 have key := wpZ_pre (P := P) (ops := l0.toArray) (C0 := C) (Q := NoPanic Q) (xi0 := x.map (·.1)) (f := y.length) (w := { w with drawn := w.drawn + 1 }) h1 (fun _ _ _ h => h) (hC w hc) x (Array.replicate l0.toArray.size false) a
  (fun p hp => ⟨List.mem_map.2 ⟨p, hp, rfl⟩, by have := (hx p hp).2.1; simpa using this⟩) (fun j o _ hj => by rw [getD_rep] at hj; cases hj) h2 (h.run a hs')
  (fun a' hK => wpZ_seq y _ a' _ h3 (hK _ (hC w hc)))
 have e : x.length + y.length = l0.toArray.size := by simpa using hlen
 exact (congrArg (fun s => wpZ P l0.toArray C (needZ l0.toArray (x.map (·.1))) (NoPanic Q) s (Array.replicate l0.toArray.size false) a { w with drawn := w.drawn + 1 }) e).mp key⟩
theorem ZL.nil (h : TL P n ops C0 need Q y l C0) : ZL P n ops C0 (fun a' => ∀ w', C0 w' → wpT P ops C0 need Q y a' w') [] l := ⟨fun a hs w hc => h.run a w hs hc⟩
theorem ZL.step {d : Nat} {c : Bool} {v : Value} (hp : pureB o = true) (hg : Guard l ops o.guard c) (hd : o.dst = some d) (hn : Nat.ble (d + 1) n.n = true) (hv : Pev P n l (fun w => depB o = true → C0 w) o c v)
  (kk : ZL P n ops C0 K r ((d, c, v) :: l)) : ZL P n ops C0 K ((k, o) :: r) l := by
 have hn' := Nat.le_of_ble_eq_true hn
 refine ⟨fun a hs => ?_⟩
 show wpZL P ops C0 K (o :: r.map (·.2)) a
 unfold wpZL
 rw [hg.wanted hs]
 cases c with
 | true => exact ⟨v, fun w hw => still_of hp (hv.run rfl a w hs hw), by rw [hd]; exact kk.run _ (hs.put hn' true v)⟩
 | false => rw [hd]; exact kk.run _ (hs.put hn' false v)
theorem ZL.op {d : Nat} {c : Bool} {v : Value} (hb : (pureB o && !depB o) = true) (hg : Guard l ops o.guard c) (hd : o.dst = some d) (hn : Nat.ble (d + 1) n.n = true) (hv : Pev P n l (fun _ => True) o c v)
  (kk : ZL P n ops C0 K r ((d, c, v) :: l)) : ZL P n ops C0 K ((k, o) :: r) l := by
 simp only [Bool.and_eq_true, Bool.not_eq_true'] at hb
 exact ZL.step hb.1 hg hd hn ⟨fun hc a w hs hw => by
  have := hv.run hc a w hs trivial
  rw [still_of hb.1 this]; exact ⟨rfl, rfl⟩⟩ kk
theorem ZL.ld {d : Nat} {c : Bool} {v : Value} (hb : (pureB o && depB o) = true) (hg : Guard l ops o.guard c) (hd : o.dst = some d) (hn : Nat.ble (d + 1) n.n = true) (hv : Pev P n l C0 o c v)
  (kk : ZL P n ops C0 K r ((d, c, v) :: l)) : ZL P n ops C0 K ((k, o) :: r) l := by
 simp only [Bool.and_eq_true] at hb
 exact ZL.step hb.1 hg hd hn ⟨fun hc a w hs hw => by
  have := hv.run hc a w hs (hw hb.2)
  rw [still_of hb.1 this]; exact ⟨rfl, rfl⟩⟩ kk
theorem TL.nil (h : At n Q .normal l C) : TL P n ops C0 need Q [] l C := ⟨fun a w hs hc => h.run a w hs hc⟩
theorem TL.one (hi : ops[k]? = some o) (h : OL P n ops (TQ P ops C0 need k r Q) [o] l C) : TL P n ops C0 need Q ((k, o) :: r) l C := ⟨fun a w hs hc => by
 have hp : ∀ ex a w, ex ≠ .normal → TQ P ops C0 need k r Q ex a w → Q ex a w := fun ex a w hne h => by
  cases ex <;> first | exact h | exact absurd rfl hne
 have h := h.run a w hs hc
 show wpOp P ops Q k _ a w
 unfold wpOp
 simp only [hi]
 unfold wpList at h
 split
 ·rename_i hw
  rw [if_pos hw] at h
  rcases h with h | ⟨h, a', w', hq⟩
  ·refine .inl ?_
   unfold Oper.wp at h ⊢
   exact upon_Q hp h
  ·exact .inr ⟨h, a', w', hp _ _ _ (by simp) hq⟩
 ·rename_i hw
  rw [if_neg hw] at h
  exact h⟩
theorem At.tn (hk : need k = false) (h : TL P n ops C0 need Q r l C) : At n (TQ P ops C0 need k r Q) .normal l C := ⟨fun a w hs hc => ⟨fun h' => (by rw [hk] at h'; cases h'), h.run a w hs hc⟩⟩
theorem At.tk (hk : ∀ w, C w → C0 w) (h : TL P n ops C0 need Q r l C) : At n (TQ P ops C0 need k r Q) .normal l C := ⟨fun a w hs hc => ⟨fun _ => hk w hc, h.run a w hs hc⟩⟩
theorem At.np (h : At n Q .normal l C) : At n (NoPanic Q) .normal l C := ⟨h.run⟩
end
/-! a guard that is known, among the quiet operations -/
section
variable {P : Program} {n : Nm} {l : Env} {C : World → Prop} {c : Bool} {d : Option Nat} {op : Op} {ty : TypeId} {pos : String} {af : Array Edge} {g : Option (Nat × Bool)} {ops : Array Oper} {K : Act → Prop} {rest : List Oper}
theorem QL.gateOff {dd : Nat} (hg : Guard l ops g c) (hc : c = false) (hn : Nat.ble (dd + 1) n.n = true) (h : QL P n ops C K rest ((dd, false, undef) :: l)) : QL P n ops C K (⟨some dd, op, ty, pos, af, g⟩ :: rest) l := by
 have hn' := Nat.le_of_ble_eq_true hn
 refine ⟨fun a hs => ?_⟩
 unfold wpQuiet
 rw [hg.wanted hs]
 subst hc
 exact h.run _ (hs.put hn' false undef)
end
end Go.Eng

/- The walks of flow's into and empty: sets of functions as words in blocks of their own. Conditions: none. -/
namespace Go.Co
open Go.Eng
def u64s (l : List Nat) : List Value := l.map fun (x : Nat) => .int .u64 (x : Int)
theorem u64s_len (l : List Nat) : (u64s l).length = l.length := by simp [u64s]
theorem u64s_get {l : List Nat} {i x : Nat} (h : l[i]? = some x) : (u64s l)[i]? = some (.int .u64 (x : Int)) := by simp [u64s, h]
theorem u64s_set (l : List Nat) (i x : Nat) : (u64s l).set i (.int .u64 (x : Int)) = u64s (l.set i x) := by simp [u64s]
theorem set_same_ {l : List Nat} {i x : Nat} (h : l[i]? = some x) : l.set i x = l := by
 refine List.ext_getElem? fun j => ?_
 by_cases hj : i = j
 ·subst hj
  rw [List.getElem?_set_self (List.getElem?_eq_some_iff.1 h).1, h]
 ·rw [List.getElem?_set_ne hj]
theorem u64s_rep (n : Nat) : List.replicate n (.int .u64 0 : Value) = u64s (List.replicate n 0) := by simp [u64s]
end Go.Co
namespace Go.Proofs.YtkpjndhgicbjjaaDoor.co
open Go.RowKit Go.Eng Go.Co
set_option maxRecDepth 100000
theorem into_calls (bs ba bb : Nat) (cE cN cM cH cA : Value) (mv : Bool) (A B : List Nat) (hl : A.length = B.length) (hA : ∀ x ∈ A, x < 18446744073709551616) (hB : ∀ x ∈ B, x < 18446744073709551616) (hlim : A.length ≤ 1000) (ca cb : Nat) (H : List Eng.Item) (S : List World) (w : World)
  (hc : Cls (blk bs 56 [cE, cN, cM, cH, cA, .bool mv] :: blk ba 67 (u64s A) :: blk bb 67 (u64s B) :: H) S w) :
  Calls Tryd.prog 46 [.pointer (some ⟨bs, 0, none⟩), .slice (some ⟨ba, 0, none⟩) A.length ca, .slice (some ⟨bb, 0, none⟩) B.length cb].toArray w fun e w' => e = .returned (.tuple #[]) ∧
   Cls (blk bs 56 [cE, cN, cM, cH, cA, .bool (mv || !decide (orW A B = A))] :: blk ba 67 (u64s (orW A B)) :: blk bb 67 (u64s B) :: H) S w' := by
 refine enter Tryd.func46 rfl Tryd.ntmps46 rfl hc ?_
 (simp only [argEnv, Nat.zero_add, Nat.reduceAdd])
 apply W.sr
 apply omv; rfl; rfl
 apply oop; rfl; apply Pev.len_slice; rfl; exact yes; rfl
 apply omv; rfl; rfl
 apply OL.nx
 apply W.block
 refine W.loop (G := Nat) (fun i => i ≤ A.length) (fun i => A.length - i)
  (fun i => [(0, true, .pointer (some ⟨bs, 0, none⟩)), (1, true, .slice (some ⟨ba, 0, none⟩) A.length ca), (8, true, .slice (some ⟨bb, 0, none⟩) B.length cb), (9, true, .int .i64 (B.length : Int)), (10, true, .int .i64 (i : Int))])
  (fun i => Cls (blk bs 56 [cE, cN, cM, cH, cA, .bool (mv || movW A B i)] :: blk ba 67 (u64s (mixW A B i)) :: blk bb 67 (u64s B) :: H) S) 0 (Nat.zero_le _) (by exact Sub.au) (fun w' hw' => by rw [mixW_zero, show movW A B 0 = false from rfl, Bool.or_false]; exact hw') ?_
 intro i hi
 apply W.sr
 apply obn; rfl; rfl; rfl; apply Bin.lss
 apply OL.nx
 apply W.seq
 (refine W.cnd (fun hlt => ?_) (fun hlt => ?_)) <;> (try (exfalso; first | omega | exact hlt trivial | contradiction))
 ·have hia : i < A.length := by omega
  obtain ⟨x, hx⟩ : ∃ x, A[i]? = some x := ⟨A[i], List.getElem?_eq_getElem hia⟩
  obtain ⟨y, hy⟩ : ∃ y, B[i]? = some y := ⟨B[i], List.getElem?_eq_getElem (by omega)⟩
  have hxl := hA x (List.mem_of_getElem? hx)
  have hyl := hB y (List.mem_of_getElem? hy)
  have hvb : (u64s B)[0 + (i : Int).toNat * 1]? = some (.int .u64 (y : Int)) := by
   rw [show 0 + (i : Int).toNat * 1 = i by omega]
   exact u64s_get hy
  have hva : (u64s (mixW A B i))[0 + (i : Int).toNat * 1]? = some (.int .u64 (x : Int)) := by
   rw [show 0 + (i : Int).toNat * 1 = i by omega]
   exact u64s_get (mixW_get hl hx)
  have hor : bits .or .u64 (x : Int) (y : Int) = ((x ||| y : Nat) : Int) := bits_or_u64_nat x y hxl hyl
  have hml := mixW_len hl i
  have hnx := mixW_succ hl hx hy
  have hmx := movW_succ hx hy
  apply W.sk
  apply W.sb
  apply W.sr
  apply omv; rfl; rfl
  apply oop; rfl; apply Pev.idxB; rfl; exact yes; rfl; exact yes; rfl; intro hcond; omega; rfl
  apply oop; rfl; apply Pev.load_blk; rfl; exact yes; exact .tail _ (.tail _ (.head _)); rfl; assumption
  apply oas; rfl; rfl
  apply oas; rfl; rfl
  apply OL.nx
  apply W.seq
  apply W.regd0; decide +kernel; kernel_rfl; decide +kernel; exact fun w hw => hw.drew
  apply qmv; rfl; rfl
  apply qmv; rfl; rfl
  apply qop; rfl; apply Pev.idxB; rfl; exact yes; rfl; exact yes; rfl; intro hcond; omega; rfl
  apply qop; rfl; apply Pev.load_blk; rfl; exact yes; exact .tail _ (.head _); rfl; assumption
  apply qmv; rfl; rfl
  apply qbn; rfl; rfl; rfl; apply Bin.or
  apply qmv; rfl; rfl
  apply qmv; rfl; rfl
  apply qop; rfl; apply Pev.idxB; rfl; exact yes; rfl; exact yes; rfl; intro hcond; omega; rfl
  apply qop; rfl; apply Pev.load_blk; rfl; exact yes; exact .tail _ (.head _); rfl; assumption
  apply qbn; rfl; rfl; rfl; apply Bin.neq
  apply QL.nil
  with_reducible apply At.next
  rw [hor]
  (refine W.cnd (fun hne => ?_) (fun hne => ?_)) <;> (try (exfalso; first | omega | exact hne trivial | contradiction))
  ·apply W.sr
   apply omv; rfl; rfl
   apply omv; rfl; rfl
   apply oop; rfl; apply Pev.idxB; rfl; exact yes; rfl; exact yes; rfl; intro hcond; omega; rfl
   apply oop; rfl; apply Pev.load_blk; rfl; exact yes; exact .tail _ (.head _); rfl; assumption
   apply omv; rfl; rfl
   apply obn; rfl; rfl; rfl; apply Bin.or
   apply oop; rfl; apply Pev.idxB; rfl; exact yes; rfl; exact yes; rfl; intro hcond; omega; rfl
   rw [hor]
   (apply OL.storeI); rfl; rfl; rfl; rfl; rfl; (exact Swap.au); (rw [u64s_len]; omega)
   rw [show 0 + (i : Int).toNat * 1 = i by omega, u64s_set, hnx]
   apply OL.nx
   apply W.reg
   apply omv; rfl; rfl
   apply oop; rfl; apply Pev.nil_ptr; rfl; exact yes
   apply ofa; rfl; rfl; rfl
   apply OL.storeB; rfl; rfl; exact CellsL.one rfl; rfl; rfl; rfl; exact Swap.au; exact Put.au
   apply OL.nil
   with_reducible apply At.in_normal
   with_reducible apply At.next
   apply W.reg
   apply obn; rfl; rfl; rfl; apply Bin.add_in; omega
   apply omv; rfl; rfl
   apply OL.nil
   have hne' : (x ||| y = x) = False := by simp only [eq_iff_iff, iff_false]; omega
   refine At.again (i + 1) (by omega) (by omega) (by exact Sub.au) (fun w' hw' => ?_)
   rw [hmx]
   simpa [hne'] using hw'
  ·apply W.skip
   with_reducible apply At.in_normal
   with_reducible apply At.next
   apply W.reg
   apply obn; rfl; rfl; rfl; apply Bin.add_in; omega
   apply omv; rfl; rfl
   apply OL.nil
   have he : x ||| y = x := by omega
   refine At.again (i + 1) (by omega) (by omega) (by exact Sub.au) (fun w' hw' => ?_)
   rw [hmx, ← hnx, he, set_same_ (mixW_get hl hx)]
   simpa using hw'
 ·obtain rfl : i = A.length := by omega
  refine W.xt ?_
  refine At.end_ (At.fin0 rfl (fun w' hw' => ⟨rfl, ?_⟩))
  rw [movW_all hl, mixW_all hl] at hw'
  exact hw'
theorem into_same_calls (bs ba : Nat) (cE cN cM cH cA mv : Value) (A : List Nat) (hA : ∀ x ∈ A, x < 18446744073709551616) (hlim : A.length ≤ 1000) (ca cb : Nat) (H : List Eng.Item) (S : List World) (w : World)
  (hc : Cls (blk bs 56 [cE, cN, cM, cH, cA, mv] :: blk ba 67 (u64s A) :: H) S w) :
  Calls Tryd.prog 46 [.pointer (some ⟨bs, 0, none⟩), .slice (some ⟨ba, 0, none⟩) A.length ca, .slice (some ⟨ba, 0, none⟩) A.length cb].toArray w fun e w' => e = .returned (.tuple #[]) ∧
   Cls (blk bs 56 [cE, cN, cM, cH, cA, mv] :: blk ba 67 (u64s A) :: H) S w' := by
 refine enter Tryd.func46 rfl Tryd.ntmps46 rfl hc ?_
 (simp only [argEnv, Nat.zero_add, Nat.reduceAdd])
 apply W.sr
 apply omv; rfl; rfl
 apply oop; rfl; apply Pev.len_slice; rfl; exact yes; rfl
 apply omv; rfl; rfl
 apply OL.nx
 apply W.block
 refine W.loop (G := Nat) (fun i => i ≤ A.length) (fun i => A.length - i)
  (fun i => [(0, true, .pointer (some ⟨bs, 0, none⟩)), (1, true, .slice (some ⟨ba, 0, none⟩) A.length ca), (8, true, .slice (some ⟨ba, 0, none⟩) A.length cb), (9, true, .int .i64 (A.length : Int)), (10, true, .int .i64 (i : Int))])
  (fun i => Cls (blk bs 56 [cE, cN, cM, cH, cA, mv] :: blk ba 67 (u64s A) :: H) S) 0 (Nat.zero_le _) (by exact Sub.au) (fun w' hw' => hw') ?_
 intro i hi
 apply W.sr
 apply obn; rfl; rfl; rfl; apply Bin.lss
 apply OL.nx
 apply W.seq
 (refine W.cnd (fun hlt => ?_) (fun hlt => ?_)) <;> (try (exfalso; first | omega | exact hlt trivial | contradiction))
 ·have hia : i < A.length := by omega
  obtain ⟨x, hx⟩ : ∃ x, A[i]? = some x := ⟨A[i], List.getElem?_eq_getElem hia⟩
  have hxl := hA x (List.mem_of_getElem? hx)
  have hva : (u64s A)[0 + (i : Int).toNat * 1]? = some (.int .u64 (x : Int)) := by
   rw [show 0 + (i : Int).toNat * 1 = i by omega]
   exact u64s_get hx
  have hor : bits .or .u64 (x : Int) (x : Int) = (x : Int) := by rw [bits_or_u64_nat x x hxl hxl, Nat.or_self]
  apply W.sk
  apply W.sb
  apply W.sr
  apply omv; rfl; rfl
  apply oop; rfl; apply Pev.idxB; rfl; exact yes; rfl; exact yes; rfl; intro hcond; omega; rfl
  apply oop; rfl; apply Pev.load_blk; rfl; exact yes; exact .tail _ (.head _); rfl; assumption
  apply oas; rfl; rfl
  apply oas; rfl; rfl
  apply OL.nx
  apply W.seq
  apply W.regd0; decide +kernel; kernel_rfl; decide +kernel; exact fun w hw => hw.drew
  apply qmv; rfl; rfl
  apply qmv; rfl; rfl
  apply qop; rfl; apply Pev.idxB; rfl; exact yes; rfl; exact yes; rfl; intro hcond; omega; rfl
  apply qop; rfl; apply Pev.load_blk; rfl; exact yes; exact .tail _ (.head _); rfl; assumption
  apply qmv; rfl; rfl
  apply qbn; rfl; rfl; rfl; apply Bin.or
  apply qmv; rfl; rfl
  apply qmv; rfl; rfl
  apply qop; rfl; apply Pev.idxB; rfl; exact yes; rfl; exact yes; rfl; intro hcond; omega; rfl
  apply qop; rfl; apply Pev.load_blk; rfl; exact yes; exact .tail _ (.head _); rfl; assumption
  apply qbn; rfl; rfl; rfl; apply Bin.neq
  apply QL.nil
  with_reducible apply At.next
  rw [hor]
  refine W.cond rfl (fun h => by simp at h) (fun _ => ?_)
  apply W.skip
  with_reducible apply At.in_normal
  with_reducible apply At.next
  apply W.reg
  apply obn; rfl; rfl; rfl; apply Bin.add_in; omega
  apply omv; rfl; rfl
  apply OL.nil
  exact At.again (i + 1) (by omega) (by omega) (by exact Sub.au) (fun w' hw' => hw')
 ·obtain rfl : i = A.length := by omega
  refine W.xt ?_
  exact At.end_ (At.fin0 rfl (fun w' hw' => ⟨rfl, hw'⟩))
end Go.Proofs.YtkpjndhgicbjjaaDoor.co

/- Items held together in a bag (the same as in SrP, which is not imported beside this). General. No condition. -/
namespace Go.Eng
open Go.RowKit
def bag (B : Nat) (L : List Item) : Item :=
 ⟨fun k => B ≤ k ∧ ∃ i ∈ L, i.own k, fun w => (∀ i ∈ L, i.holds w ∧ ∀ k, i.own k → B ≤ k) ∧ L.Pairwise (fun (i j : Item) => ∀ k : Nat, i.own k → ¬ j.own k),
  fun w w' hk h => ⟨fun i hi => ⟨i.stab w w' (fun k ho => hk k ⟨(h.1 i hi).2 k ho, i, hi, ho⟩) (h.1 i hi).1, (h.1 i hi).2⟩, h.2⟩⟩
theorem NotOwned.bag {H : List Item} {B k : Nat} {L : List Item} (h : k < B) (r : NotOwned H k) : NotOwned (Eng.bag B L :: H) k := NotOwned.any (fun ho => Nat.not_le_of_lt h ho.1) r
section
variable {H : List Item} {S : List World} {w : World} {B : Nat} {L L' : List Item} {i : Item}
theorem Cls.bag_nil (h : Cls H S w) (B : Nat) : Cls (bag B [] :: H) S w :=
 h.add (Keep.refl _ w) _ ⟨fun i hi => by (cases hi), .nil⟩ (fun k hk => by obtain ⟨_, i, hi, _⟩ := hk; cases hi)
theorem Cls.bag_in (h : Cls (i :: bag B L :: H) S w) (hB : ∀ k, i.own k → B ≤ k) : Cls (bag B (i :: L) :: H) S w := by
 have hd := h.dj
 rw [List.pairwise_cons, List.pairwise_cons] at hd
 obtain ⟨h1, h2, h3⟩ := hd
 have hb := h.holds (bag B L) (by simp)
 refine ⟨fun j hj => ?_, fun j hj => ?_, ?_, fun s hs => (h.kp s hs).mono fun k _ ⟨j, hj, hk⟩ => ?_⟩
 ·rcases List.mem_cons.1 hj with rfl | hj
  ·refine ⟨fun x hx => ?_, List.pairwise_cons.2 ⟨fun x hx k hk hxk => ?_, hb.2⟩⟩
   ·rcases List.mem_cons.1 hx with rfl | hx
    ·exact ⟨h.holds _ (.head _), hB⟩
    ·exact hb.1 x hx
   ·exact h1 _ (.head _) k hk ⟨hB k hk, x, hx, hxk⟩
  ·exact h.holds j (by simp [hj])
 ·rcases List.mem_cons.1 hj with rfl | hj
  ·rintro k ⟨hk, x, hx, hxk⟩
   rcases List.mem_cons.1 hx with rfl | hx
   ·exact h.lt _ (.head _) k hxk
   ·exact h.lt (bag B L) (by simp) k ⟨hk, x, hx, hxk⟩
  ·exact h.lt j (by simp [hj])
 ·refine List.pairwise_cons.2 ⟨fun j hj k hk hjk => ?_, h3⟩
  obtain ⟨hk, x, hx, hxk⟩ := hk
  rcases List.mem_cons.1 hx with rfl | hx
  ·exact h1 j (.tail _ hj) k hxk hjk
  ·exact h2 j hj k ⟨hk, x, hx, hxk⟩ hjk
 ·rcases List.mem_cons.1 hj with rfl | hj
  ·exact ⟨_, .head _, hB k hk, _, .head _, hk⟩
  ·rcases List.mem_cons.1 hj with rfl | hj
   ·obtain ⟨hk, x, hx, hxk⟩ := hk
    exact ⟨_, .head _, hk, x, .tail _ hx, hxk⟩
   ·exact ⟨j, .tail _ hj, hk⟩
theorem Cls.bag_out (h : Cls (bag B (i :: L) :: H) S w) : Cls (i :: bag B L :: H) S w := by
 have hd := h.dj
 rw [List.pairwise_cons] at hd
 obtain ⟨h1, h3⟩ := hd
 obtain ⟨hb, hp⟩ := h.holds (bag B (i :: L)) (.head _)
 rw [List.pairwise_cons] at hp
 have hi := hb i (.head _)
 refine ⟨fun j hj => ?_, fun j hj => ?_, ?_, fun s hs => (h.kp s hs).mono fun k _ ⟨j, hj, hk⟩ => ?_⟩
 ·rcases List.mem_cons.1 hj with rfl | hj
  ·exact hi.1
  ·rcases List.mem_cons.1 hj with rfl | hj
   ·exact ⟨fun x hx => hb x (.tail _ hx), hp.2⟩
   ·exact h.holds j (.tail _ hj)
 ·rcases List.mem_cons.1 hj with rfl | hj
  ·exact fun k hk => h.lt _ (.head _) k ⟨hi.2 k hk, _, .head _, hk⟩
  ·rcases List.mem_cons.1 hj with rfl | hj
   ·rintro k ⟨hk, x, hx, hxk⟩
    exact h.lt _ (.head _) k ⟨hk, x, .tail _ hx, hxk⟩
   ·exact h.lt j (.tail _ hj)
 ·refine List.pairwise_cons.2 ⟨fun j hj k hk hjk => ?_, List.pairwise_cons.2 ⟨fun j hj k hk hjk => ?_, h3⟩⟩
  ·rcases List.mem_cons.1 hj with rfl | hj
   ·obtain ⟨_, x, hx, hxk⟩ := hjk
    exact hp.1 x hx k hk hxk
   ·exact h1 j hj k ⟨hi.2 k hk, _, .head _, hk⟩ hjk
  ·obtain ⟨hk, x, hx, hxk⟩ := hk
   exact h1 j hj k ⟨hk, x, .tail _ hx, hxk⟩ hjk
 ·rcases List.mem_cons.1 hj with rfl | hj
  ·obtain ⟨hk, x, hx, hxk⟩ := hk
   rcases List.mem_cons.1 hx with rfl | hx
   ·exact ⟨_, .head _, hxk⟩
   ·exact ⟨_, .tail _ (.head _), hk, x, hx, hxk⟩
  ·exact ⟨j, .tail _ (.tail _ hj), hk⟩
theorem Cls.bag_perm (h : Cls (bag B L :: H) S w) (p : L.Perm L') : Cls (bag B L' :: H) S w := by
 have ho : (bag B L').own = (bag B L).own := by
  funext k
  refine propext ⟨fun ⟨h1, x, hx, h2⟩ => ⟨h1, x, p.symm.mem_iff.1 hx, h2⟩, fun ⟨h1, x, hx, h2⟩ => ⟨h1, x, p.mem_iff.1 hx, h2⟩⟩
 have hd := h.dj
 rw [List.pairwise_cons] at hd
 obtain ⟨hb, hp⟩ := h.holds (bag B L) (.head _)
 refine ⟨fun j hj => ?_, fun j hj => ?_, List.pairwise_cons.2 ⟨fun j hj => by rw [ho]; exact hd.1 j hj, hd.2⟩, fun s hs => (h.kp s hs).mono fun k _ ⟨j, hj, hk⟩ => ?_⟩
 ·rcases List.mem_cons.1 hj with rfl | hj
  ·exact ⟨fun x hx => hb x (p.mem_iff.2 hx), hp.perm p (fun {a b} hab k hk hk2 => hab k hk2 hk)⟩
  ·exact h.holds j (.tail _ hj)
 ·rcases List.mem_cons.1 hj with rfl | hj
  ·rw [ho]; exact h.lt _ (.head _)
  ·exact h.lt j (.tail _ hj)
 ·rcases List.mem_cons.1 hj with rfl | hj
  ·exact ⟨_, .head _, by rw [ho]; exact hk⟩
  ·exact ⟨j, .tail _ hj, hk⟩
end
end Go.Eng
