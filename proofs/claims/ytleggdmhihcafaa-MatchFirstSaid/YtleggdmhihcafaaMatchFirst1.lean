/- Texts of the proof of MatchFirst, part 1: rules of a calculus for walking, plain laws, and walks of the functions that the law reaches. No condition. -/
import Derived.WalkKit
import Derived.Deep.Quiet
import Derived.ProofKit
import Derived.OpenShut
import Derived.LoopN
import Derived.CallsIn
import Derived.OrdersIn
import Derived.LoopNIn
import Derived.TacticsIn
import Derived.RangeFuncLeaves
import Derived.Maps.AppendAt
import Derived.WideKeyArgs
import Derived.ChangeArms
import Derived.DataReads
import Derived.Laws.MakeOwn
import Derived.WalkSpells
import Derived.Laws.Slices
import Derived.Laws.Small
import Derived.Laws.StructEq
set_option linter.unusedVariables false
set_option linter.unusedSimpArgs false
set_option linter.unusedSectionVars false
/- A small calculus for walks: the temporaries as a list of entries, memory as a list of owned items and of worlds that are kept; rules for the operations. General: any program P. No condition. -/
namespace Go.Eng
open Go.RowKit
/-! ### Entries: slot, condition, value -/
abbrev Env := List (Nat × Bool × Value)
def look : Env → Nat → Option (Bool × Value)
 | [], _ => none
 | (t, e) :: r, s => bif Nat.beq t s then some e else look r s
def evl (l : Env) : Operand → Option (Bool × Value)
 | .tmp t => look l t
 | .const v => some (true, v)
 | .global g => some (true, .pointer (some ⟨g, 0, none⟩))
 | .func f => some (true, .func (.func f) #[] #[])
structure Nm where
 n : Nat
 M : List Deferred
 r : Option Nat
structure Sees (n : Nm) (l : Env) (a : Act) : Prop where
 df : a.defers = n.M
 sz : a.tmps.size = n.n
 at_ : ∀ t c v, look l t = some (c, v) → a.tmps[t]? = some (bif c then v else undef)
theorem Sees.eval {n : Nm} {l : Env} {a : Act} (h : Sees n l a) {x : Operand} {c : Bool} {v : Value} (hx : evl l x = some (c, v)) (hc : c = true) : a.eval x = v := by
 subst hc
 match x, hx with
 | .tmp t, hx =>
  have := h.at_ t true v hx
  simp only [Act.eval, Array.getD_eq_getD_getElem?, this]; rfl
 | .const u, hx => simp only [evl, Option.some.injEq, Prod.mk.injEq] at hx; exact hx.2
 | .global g, hx => simp only [evl, Option.some.injEq, Prod.mk.injEq] at hx; exact hx.2
 | .func f, hx => simp only [evl, Option.some.injEq, Prod.mk.injEq] at hx; exact hx.2
theorem Sees.put {n : Nm} {l : Env} {a : Act} (h : Sees n l a) {d : Nat} (hd : d < n.n) (c : Bool) (v : Value) :
  Sees n ((d, c, v) :: l) (a.put (some d) (bif c then v else undef)) := by
 refine ⟨h.df, ?_, fun t c' v' ht => ?_⟩
 ·show (a.tmps.setIfInBounds d _).size = n.n
  rw [Array.size_setIfInBounds]; exact h.sz
 ·show (a.tmps.setIfInBounds d _)[t]? = _
  rw [Array.getElem?_setIfInBounds]
  simp only [look] at ht
  by_cases e : d = t
  ·subst e
   rw [Nat.beq_refl, cond_true] at ht
   simp only [Option.some.injEq, Prod.mk.injEq] at ht
   obtain ⟨rfl, rfl⟩ := ht
   rw [if_pos rfl, if_pos (by rw [h.sz]; exact hd)]
  ·rw [show Nat.beq d t = false from by rw [Bool.eq_false_iff]; intro hb; exact e (Nat.eq_of_beq_eq_true hb), cond_false] at ht
   rw [if_neg e]
   exact h.at_ t c' v' ht
inductive Sub (l : Env) : Env → Prop where
 | nil : Sub l []
 | cons {t : Nat} {c : Bool} {v : Value} {l' : Env} (h : look l t = some (c, v)) (r : Sub l l') : Sub l ((t, c, v) :: l')
theorem Sub.look {l l' : Env} (h : Sub l l') : ∀ t c v, look l' t = some (c, v) → Eng.look l t = some (c, v) := by
 induction h with
 | nil => intro t c v h; cases h
 | @cons t0 c0 v0 l0 h0 _ ih =>
  intro t c v ht
  simp only [Eng.look] at ht
  by_cases e : t0 = t
  ·subst e
   rw [Nat.beq_refl, cond_true] at ht
   rw [h0]; exact ht
  ·rw [show Nat.beq t0 t = false from by rw [Bool.eq_false_iff]; intro hb; exact e (Nat.eq_of_beq_eq_true hb), cond_false] at ht
   exact ih t c v ht
theorem Sees.sub {n : Nm} {l l' : Env} {a : Act} (h : Sees n l a) (hs : Sub l l') : Sees n l' a :=
 ⟨h.df, h.sz, fun t c v ht => h.at_ t c v (hs.look t c v ht)⟩
/-! ### Guards -/
inductive Guard (l : Env) (ops : Array Oper) : Option (Nat × Bool) → Bool → Prop where
 | none : Guard l ops .none true
 | yes {j d : Nat} {b : Bool} (hd : (ops[j]?).bind (·.dst) = some d) (h : look l d = some (true, .bool b)) : Guard l ops (some (j, true)) b
 | no {j d : Nat} {b : Bool} (hd : (ops[j]?).bind (·.dst) = some d) (h : look l d = some (true, .bool b)) : Guard l ops (some (j, false)) (!b)
 | cyes {j d : Nat} {c b : Bool} (hd : (ops[j]?).bind (·.dst) = some d) (h : look l d = some (c, .bool b)) : Guard l ops (some (j, true)) (c && b)
 | cno {j d : Nat} {c b : Bool} (hd : (ops[j]?).bind (·.dst) = some d) (h : look l d = some (c, .bool b)) : Guard l ops (some (j, false)) (c && !b)
theorem yielded_of {n : Nm} {l : Env} {a : Act} (hs : Sees n l a) {ops : Array Oper} {j d : Nat} {c b : Bool} (hd : (ops[j]?).bind (·.dst) = some d) (h : look l d = some (c, .bool b)) :
  yielded ops a.tmps j = if c then some b else none := by
 have ht := hs.at_ d c _ h
 unfold yielded
 rw [hd]
 simp only [Option.bind_some, ht]
 cases c <;> simp [undef]
theorem Guard.wanted {n : Nm} {l : Env} {a : Act} (hs : Sees n l a) {ops : Array Oper} {o : Oper} {c : Bool} (h : Guard l ops o.guard c) :
  Region.wanted o (yielded ops a.tmps) = c := by
 unfold Region.wanted
 generalize o.guard = g at h
 cases h with
 | none => rfl
 | @yes j d b hd h => simp only [yielded_of hs hd h, if_true]; cases c <;> rfl
 | @no j d b hd h => simp only [yielded_of hs hd h, if_true]; cases b <;> rfl
 | @cyes j d c b hd h => simp only [yielded_of hs hd h]; cases c <;> cases b <;> rfl
 | @cno j d c b hd h => simp only [yielded_of hs hd h]; cases c <;> cases b <;> rfl
theorem Sub.cons_eq {l l' : Env} {t : Nat} {c : Bool} {v v' : Value} (h : Eng.look l t = some (c, v')) (hv : v' = v) (r : Sub l l') : Sub l ((t, c, v) :: l') := .cons (by rw [h, hv]) r
/-! what a tactic finds by itself, as an argument that is filled in -/
theorem Sub.au {l l' : Env} (h : Sub l l' := by (repeat (first | exact Sub.nil | apply Sub.cons rfl | (refine Sub.cons_eq rfl (congrArg (Value.int .i64) (by first | omega | (simp only; omega))) ?_))); first | done | fail) : Sub l l' := h
theorem Guard.au {l : Env} {ops : Array Oper} {g : Option (Nat × Bool)} {c : Bool} (h : Guard l ops g c := by (first | exact Guard.none | exact Guard.yes rfl rfl | exact Guard.no rfl rfl | exact Guard.cyes rfl rfl | exact Guard.cno rfl rfl); first | done | fail) : Guard l ops g c := h
/-! ### Memory: items and kept worlds -/
structure Item where
 own : Nat → Prop
 holds : World → Prop
 stab : ∀ w w' : World, (∀ k, own k → w'.heap[k]? = w.heap[k]?) → holds w → holds w'
structure Keep (O : Nat → Prop) (s w : World) : Prop where
 os : w.os = s.os
 tape : w.tape = s.tape
 output : w.output = s.output
 size : s.heap.size ≤ w.heap.size
 block : ∀ k, k < s.heap.size → ¬ O k → w.heap[k]? = s.heap[k]?
theorem Keep.refl (O : Nat → Prop) (s : World) : Keep O s s := ⟨rfl, rfl, rfl, Nat.le_refl _, fun _ _ _ => rfl⟩
theorem Keep.trans {O : Nat → Prop} {a b c : World} (h : Keep O a b) (k : Keep O b c) : Keep O a c :=
 ⟨k.os.trans h.os, k.tape.trans h.tape, k.output.trans h.output, Nat.le_trans h.size k.size, fun i hi ho => (k.block i (Nat.lt_of_lt_of_le hi h.size) ho).trans (h.block i hi ho)⟩
theorem Keep.mono {O O' : Nat → Prop} {s w : World} (h : Keep O s w) (ho : ∀ k, k < s.heap.size → O k → O' k) : Keep O' s w :=
 ⟨h.os, h.tape, h.output, h.size, fun k hk hn => h.block k hk fun x => hn (ho k hk x)⟩
abbrev Ext (w w' : World) : Prop := Keep (fun _ => False) w w'
theorem Ext.below {w w' : World} (h : Ext w w') : Below w.heap.size w w' := ⟨h.os, h.tape, h.output, h.size, fun k hk => h.block k hk id⟩
theorem Ext.of_below {w w' : World} (h : Below w.heap.size w w') : Ext w w' := ⟨h.os, h.tape, h.output, h.size, fun k hk _ => h.block k hk⟩
def owned (H : List Item) (k : Nat) : Prop := ∃ i ∈ H, i.own k
structure Cls (H : List Item) (S : List World) (w : World) : Prop where
 holds : ∀ i ∈ H, i.holds w
 lt : ∀ i ∈ H, ∀ k, i.own k → k < w.heap.size
 dj : H.Pairwise fun i j => ∀ k, i.own k → ¬ j.own k
 kp : ∀ s ∈ S, Keep (owned H) s w
theorem Cls.start (w : World) : Cls [] [w] w :=
 {holds := fun i hi => by cases hi
  lt := fun i hi => by cases hi
  dj := List.Pairwise.nil
  kp := fun s hs => by simp only [List.mem_singleton] at hs; subst hs; exact .refl _ _ }
theorem Cls.ext {H : List Item} {S : List World} {w w' : World} (h : Cls H S w) (he : Ext w w') : Cls H S w' :=
 ⟨fun i hi => i.stab w w' (fun k hk => he.block k (h.lt i hi k hk) id) (h.holds i hi), fun i hi k hk => Nat.lt_of_lt_of_le (h.lt i hi k hk) he.size, h.dj,
  fun s hs => (h.kp s hs).trans (he.mono fun _ _ x => x.elim)⟩
theorem Cls.drew {H : List Item} {S : List World} {w : World} (h : Cls H S w) : Cls H S { w with drawn := w.drawn + 1 } :=
 h.ext ⟨rfl, rfl, rfl, Nat.le_refl _, fun _ _ _ => rfl⟩
theorem Cls.forget {H : List Item} {S S' : List World} {w : World} (h : Cls H S w) (hs : ∀ s ∈ S', s ∈ S) : Cls H S' w := ⟨h.holds, h.lt, h.dj, fun s x => h.kp s (hs s x)⟩
theorem Cls.note {H : List Item} {S : List World} {w : World} (h : Cls H S w) : Cls H (w :: S) w :=
 ⟨h.holds, h.lt, h.dj, fun s x => by cases x with | head => exact .refl _ _ | tail _ x => exact h.kp s x⟩
theorem Cls.add {H : List Item} {S : List World} {w w' : World} (h : Cls H S w) (he : Ext w w') (i : Item) (hi : i.holds w') (ho : ∀ k, i.own k → w.heap.size ≤ k ∧ k < w'.heap.size) : Cls (i :: H) S w' := by
 have h' := h.ext he
 refine ⟨fun j hj => ?_, fun j hj => ?_, .cons (fun j hj k hk hk' => ?_) h'.dj, fun s hs => (h'.kp s hs).mono fun k _ ⟨j, hj, x⟩ => ⟨j, .tail _ hj, x⟩⟩
 ·cases hj with
  | head => exact hi
  | tail _ hj => exact h'.holds j hj
 ·cases hj with
  | head => exact fun k hk => (ho k hk).2
  | tail _ hj => exact h'.lt j hj
 ·have := h.lt j hj k hk'; have := (ho k hk).1; omega
theorem Cls.turn {H : List Item} {S : List World} {w w' : World} (h : Cls H S w) (p : Nat) {i j : Item} (hp : H[p]? = some i) (hw : Keep i.own w w') (hj : j.holds w')
  (ho : ∀ k, j.own k → (i.own k ∨ w.heap.size ≤ k) ∧ k < w'.heap.size) (hk : ∀ k, i.own k → j.own k) : Cls (H.set p j) S w' := by
 have hlt : p < H.length := by
  rcases Nat.lt_or_ge p H.length with hl | hl
  ·exact hl
  ·rw [List.getElem?_eq_none hl] at hp; cases hp
 have hpi : H[p] = i := by rw [List.getElem?_eq_getElem hlt] at hp; exact Option.some.inj hp
 have far : ∀ q (hq : q < H.length), q ≠ p → ∀ k, H[q].own k → ¬ i.own k := by
  intro q hq hne k hk hik
  rcases Nat.lt_or_gt_of_ne hne with hl | hl
  ·exact List.pairwise_iff_getElem.1 h.dj q p hq hlt hl k hk (hpi ▸ hik)
  ·exact List.pairwise_iff_getElem.1 h.dj p q hlt hq hl k (hpi ▸ hik) hk
 have mem : ∀ x ∈ H.set p j, x = j ∨ ∃ q, ∃ hq : q < H.length, q ≠ p ∧ x = H[q] := by
  intro x hx
  obtain ⟨q, hq, e⟩ := List.getElem_of_mem hx
  rw [List.getElem_set] at e
  by_cases hqp : p = q
  ·rw [if_pos hqp] at e; exact .inl e.symm
  ·rw [if_neg hqp] at e; exact .inr ⟨q, by simpa using hq, Ne.symm hqp, e.symm⟩
 refine ⟨fun x hx => ?_, fun x hx k hxk => ?_, ?_, fun s hs => ?_⟩
 ·rcases mem x hx with rfl | ⟨q, hq, hne, rfl⟩
  ·exact hj
  ·exact H[q].stab w w' (fun k hk => hw.block k (h.lt _ (List.getElem_mem hq) k hk) (far q hq hne k hk)) (h.holds _ (List.getElem_mem hq))
 ·rcases mem x hx with rfl | ⟨q, hq, hne, rfl⟩
  ·exact (ho k hxk).2
  ·exact Nat.lt_of_lt_of_le (h.lt _ (List.getElem_mem hq) k hxk) hw.size
 ·rw [List.pairwise_iff_getElem]
  intro a b ha hb hab k hka hkb
  rw [List.getElem_set] at hka hkb
  simp only [List.length_set] at ha hb
  by_cases h1 : p = a
  ·subst h1
   rw [if_pos rfl] at hka
   rw [if_neg (by omega)] at hkb
   rcases (ho k hka).1 with h2 | h2
   ·exact far b hb (by omega) k hkb h2
   ·have := h.lt _ (List.getElem_mem hb) k hkb; omega
  ·rw [if_neg h1] at hka
   by_cases h2 : p = b
   ·subst h2
    rw [if_pos rfl] at hkb
    rcases (ho k hkb).1 with h3 | h3
    ·exact far a ha (by omega) k hka h3
    ·have := h.lt _ (List.getElem_mem ha) k hka; omega
   ·rw [if_neg h2] at hkb
    exact List.pairwise_iff_getElem.1 h.dj a b ha hb hab k hka hkb
 ·have hin : ∀ k, i.own k → owned (H.set p j) k := fun k hik => ⟨j, List.mem_of_getElem? (List.getElem?_set_self (by simpa using hlt)), hk k hik⟩
  have hs1 := h.kp s hs
  refine ⟨hw.os.trans hs1.os, hw.tape.trans hs1.tape, hw.output.trans hs1.output, Nat.le_trans hs1.size hw.size, fun k hks hno => ?_⟩
  have h1 : ¬ i.own k := fun x => hno (hin k x)
  refine (hw.block k (Nat.lt_of_lt_of_le hks hs1.size) h1).trans (hs1.block k hks ?_)
  rintro ⟨x, hx, hxk⟩
  obtain ⟨q, hq, rfl⟩ := List.getElem_of_mem hx
  by_cases hqp : q = p
  ·subst hqp; exact h1 (hpi ▸ hxk)
  ·exact hno ⟨H[q], List.mem_of_getElem? (by rw [List.getElem?_set_ne (Ne.symm hqp)]; exact List.getElem?_eq_getElem hq), hxk⟩
/-! ### Blocks -/
def blk (b : Nat) (t : TypeId) (c : List Value) : Item :=
 ⟨fun k => k = b, fun w => w.heap[b]? = some (.cells c.toArray t (0, 0)), fun w w' hk h => (hk b rfl).trans h⟩
theorem blk_cell {w : World} {b o : Nat} {t : TypeId} {c : List Value} (h : (blk b t c).holds w) : w.cell? ⟨b, o, none⟩ = c[o]? := by
 have h' : w.heap[b]? = some (.cells c.toArray t (0, 0)) := h
 simp [World.cell?, h']
theorem ext_alloc (w : World) (o : Obj) : Ext w (w.alloc o) := Ext.of_below ((Below.refl _ _).alloc (Nat.le_refl _) o)
theorem Cls.alloc {H : List Item} {S : List World} {w : World} (h : Cls H S w) (t : TypeId) (c : List Value) :
  Cls (blk w.heap.size t c :: H) S (w.alloc (.cells c.toArray t)) :=
 h.add (ext_alloc w _) _ (heap_alloc_new w _) (fun k hk => by
  have hk' : k = w.heap.size := hk
  subst hk'; simp)
end Go.Eng

/- Codes walked in whatever round of a range over a function, with whatever deferred calls: the rules of control out of the kit's fenced ones. General. No condition. -/
namespace Go.Eng
open Go.RowKit
def wideR (r : Option Nat) : Fence := { Fence.wide with round := r }
theorem fencedR (P : Program) (r : Option Nat) (m : Machine) : m.fenced P (wideR r) := fenced_wide P m
def opCalm (o : Oper) : Bool := match o.op with
 | .defer _ => false
 | _ => true
def calmC : Code → Bool
 | .region _ ops _ => ops.toList.all opCalm
 | .seq a b => calmC a && calmC b
 | .cond _ a b => calmC a && calmC b
 | .block _ a => calmC a
 | .loop a => calmC a
 | .scope a => calmC a
 | _ => true
def wpp (r : Option Nat) (P : Program) (c : Code) (Q : Exit → Act → World → Prop) (a : Act) (w : World) : Prop := (r.isSome = true → calmC c = true) → c.wpIn (wideR r) 0 P Q a w
section
variable {P : Program} {r : Option Nat} {Q : Exit → Act → World → Prop} {a : Act} {w : World} {x y c : Code} {ops : Array Oper}
theorem wpp_mono {Q' : Exit → Act → World → Prop} (h : wpp r P c Q a w) (hq : ∀ e a w, Q e a w → Q' e a w) : wpp r P c Q' a w := fun hp => wpIn_mono (h hp) hq
theorem wpp_seq (h : wpp r P x (Exit.then (wpp r P y Q) Q) a w) : wpp r P (.seq x y) Q a w := fun hp => by
 have hp2 : r.isSome = true → calmC x = true ∧ calmC y = true := fun h => by have := hp h; simpa [calmC] using this
 refine wpIn_seq (wpIn_mono (h fun h => (hp2 h).1) fun e a w hq => ?_)
 cases e with
 | normal => exact hq fun h => (hp2 h).2
 | _ => exact hq
theorem wpp_cond_split {o : Operand} {t : Bool} (hc : a.eval o = .bool t) (ht : t = true → wpp r P x Q a w) (hf : t = false → wpp r P y Q a w) : wpp r P (.cond o x y) Q a w := fun hp => by
 have hp2 : r.isSome = true → calmC x = true ∧ calmC y = true := fun h => by have := hp h; simpa [calmC] using this
 exact wpIn_cond_split hc (fun h => ht h fun h => (hp2 h).1) (fun h => hf h fun h => (hp2 h).2)
theorem wpp_block {id : Nat} (h : wpp r P c (Exit.inBlock id Q) a w) : wpp r P (.block id c) Q a w := fun hp => wpIn_block (h hp)
theorem wpp_skip (h : Q .normal a w) : wpp r P .skip Q a w := fun _ => wpIn_skip h
theorem wpp_exit {id : Nat} (h : Q (.exit id) a w) : wpp r P (.exit id) Q a w := fun _ => wpIn_exit h
theorem wpp_ret (h : Q .ret a w) : wpp r P .ret Q a w := fun _ => wpIn_ret h
def roundsP (r : Option Nat) (P : Program) (c : Code) (Q : Exit → Act → World → Prop) : Nat → Act → World → Prop
 | 0, _, _ => False
 | m + 1, a, w => wpp r P c (Exit.then (roundsP r P c Q m) Q) a w
theorem wpp_loop (m : Nat) (h : roundsP r P c Q m a w) : wpp r P (.loop c) Q a w := fun hp => by
 have hp : r.isSome = true → calmC c = true := hp
 refine wpIn_loop_rounds m ?_
 induction m generalizing a w with
 | zero => exact h.elim
 | succ m ih =>
  refine wpIn_mono (h hp) fun e a w hq => ?_
  cases e with
  | normal => exact ih hq
  | _ => exact hq
theorem asks_outgrownR {b : Frame} {k : List Go.Item} {cs : List Frame} {i : Nat} {rest : List Nat} {o : Oper}
  (ho : ops[i]? = some o) (hw : Region.wanted o (yielded ops a.tmps) = true) (hb : b.kind ≠ .early) (hs : o.semAt b.roundOf a.eval = execOp a.eval o) (h : o.asks P a w) :
  Outgrown P (lone (b.atR a (.inRegion ops (i :: rest) :: k)) cs w) := by
 obtain ⟨hm, hkept⟩ := h
 have hg := stepGR_op (P := P) (b := b) (k := k) (cs := cs) (w := w) (rest := rest) ho hw
 rw [hs] at hg
 have hes : noRoomEvent ∈ (stepG P true { frame := b.atR a (.inRegion ops (i :: rest) :: k), callers := cs, status := .running, dying := none } w).es := by
  rw [hg]
  have hk : ((b.atR a (.inRegion ops (i :: rest) :: k)).kind == CallKind.early) = false := by simpa [Frame.atR] using hb
  have hm' : noRoomEvent ∈ Sem.events P (execOp a.eval o) w #[] := hm
  simp only [stepG.apply, Sem.runT_eq, if_true, hk, Bool.false_eq_true, if_false]
  rw [GStep.es_after]
  refine Array.mem_append.2 (.inl (seen_keeps P _ _ ?_))
  cases hrun : (execOp a.eval o).run P w with
  | ok x w' => exact hm'
  | halt x w' =>
   rw [hrun] at hkept
   cases x with
   | unsupported u => cases u <;> first | exact hkept.elim | exact hm'
   | blocked => exact hkept.elim
   | waiting => exact hkept.elim
   | _ => exact hm'
 refine Outgrown.now (o := { g := 0, fn := (b.atR a (.inRegion ops (i :: rest) :: k)).fn, pos := (b.atR a (.inRegion ops (i :: rest) :: k)).place, act := .mark .noRoom }) ?_ rfl rfl
 rw [stepT, move_lone]
 refine runT_lists P _ 0 { frame := b.atR a (.inRegion ops (i :: rest) :: k), callers := cs, status := .running, dying := none } (by simp [lone]) _ ?_
 exact mem_ofEvents (e := noRoomEvent) (by simpa [lone] using hes)
theorem wpp_ops2 {Y : Exit → Act → World → Prop} (l2 : List Nat) (hY : ∀ a w, Y .normal a w → ∀ (b : Frame) (k : List Go.Item) (cs : List Frame), b.roundOf = r → ∃ e a' w', Q e a' w' ∧ ArrivesIn (Machine.fenced P (wideR r)) P (lone (b.atR a (.inRegion ops l2 :: k)) cs w) b k cs e a' w')
  (hne : ∀ e a w, e ≠ .normal → Y e a w → Q e a w) (l : List Nat) : ∀ (a : Act) (w : World), wpOps P ops Y l a w → (r.isSome = true → ops.toList.all opCalm = true) → ∀ (b : Frame) (k : List Go.Item) (cs : List Frame), b.roundOf = r →
   ∃ e a' w', Q e a' w' ∧ ArrivesIn (Machine.fenced P (wideR r)) P (lone (b.atR a (.inRegion ops (l ++ l2) :: k)) cs w) b k cs e a' w' := by
 induction l with
 | nil => exact fun a w h _ b k cs hro => hY a w h b k cs hro
 | cons i rest0 ih =>
  intro a w h hcalm b k cs hro
  obtain ⟨rest, hrest⟩ : ∃ rest, rest0 ++ l2 = rest := ⟨_, rfl⟩
  rw [hrest] at ih
  rw [List.cons_append, hrest]
  simp only [wpOps] at h
  cases ho : ops[i]? with
  | none =>
   simp only [ho] at h
   obtain ⟨e, a', w', hq, harr⟩ := ih a w h hcalm b k cs hro
   have hs := stepR_op_skip (P := P) (b := b) (a := a) (k := k) (cs := cs) (w := w) (ops := ops) (i := i) (rest := rest) (by simp [ho])
   simp only [ho, Option.bind_none, Act.put] at hs
   exact ⟨e, a', w', hq, .of_steps (.one (fencedR _ _ _) hs) harr⟩
  | some o =>
   simp only [ho] at h
   have hsem : o.semAt b.roundOf a.eval = execOp a.eval o := by
    rw [hro]
    cases hr : r with
    | none => rfl
    | some l0 =>
     refine Oper.semAt_eq _ _ _ fun c hc => ?_
     have h1 := hcalm (by rw [hr]; rfl)
     rw [List.all_eq_true] at h1
     have h2 := h1 o (by
      have := Array.mem_of_getElem? ho
      simpa using this)
     unfold opCalm at h2
     rw [hc] at h2
     cases h2
   by_cases hw : Region.wanted o (yielded ops a.tmps) = true
   ·simp only [hw, if_true] at h
    rcases h with h | ⟨hasks, a₀, w₀, hq⟩
    case inr =>
     by_cases hk : b.kind = .early
     ·exact ⟨.outgrown, a₀, w₀, hne _ _ _ (by simp) hq, .inl hk⟩
     ·exact ⟨.outgrown, a₀, w₀, hne _ _ _ (by simp) hq, .inr (asks_outgrownR ho hw hk hsem hasks)⟩
    simp only [Oper.wp, Oper.upon] at h
    have h0 : (lone (b.atR a (.inRegion ops (i :: rest) :: k)) cs w).fenced P (wideR r) := fencedR _ _ _
    have hg := stepGR_op (P := P) (b := b) (k := k) (cs := cs) (w := w) (rest := rest) ho hw
    rw [hsem] at hg
    have hfin : ∀ v, (b.atR a (.inRegion ops (i :: rest) :: k)).finish v = b.atR (a.put o.dst v) (.inRegion ops rest :: k) := by
     intro v; rw [Frame.finish_atR, ho]; rfl
    split at h
    ·rename_i v w' hr'
     obtain ⟨e, a', w'', hq, harr⟩ := ih _ _ h hcalm b k cs hro
     refine ⟨e, a', w'', hq, .of_steps (.one h0 (step_lone_go ?_)) harr⟩
     rw [hg, ← hfin]; simp [stepG.apply, hr']
    ·rename_i w' hr'
     obtain ⟨e, a', w'', hq, harr⟩ := ih _ _ h hcalm b k cs hro
     refine ⟨e, a', w'', hq, .of_steps (.one h0 (step_lone_go ?_)) harr⟩
     rw [hg, ← hfin]; simp [stepG.apply, hr']
    ·rename_i d w' hr'
     obtain ⟨e, a', w'', hq, harr⟩ := ih _ _ h hcalm b k cs hro
     refine ⟨e, a', w'', hq, .of_steps (.one h0 (step_lone_go ?_)) harr⟩
     have : ({ b.atR a (.inRegion ops (i :: rest) :: k) with defers := d :: a.defers } : Frame).finish undef =
       b.atR ({ a with defers := d :: a.defers }.put o.dst undef) (.inRegion ops rest :: k) := by
      have := Frame.finish_atR b { a with defers := d :: a.defers } ops i rest k undef
      rw [ho] at this; exact this
     rw [hg]; simp only [stepG.apply, Sem.runT_eq, hr', GStep.bare_after]
     exact congrArg (fun fr => GStep.go { frame := fr, callers := cs, status := .running, dying := none } w') this
    ·rename_i f args w' hr'
     obtain ⟨e, w'', fr, hR, hsteps, hfn, hleave⟩ := h (b.atR a (.inRegion ops (i :: rest) :: k) :: cs)
     have hsteps := comesIn_wide.2 hsteps
     have henter : step P (lone (b.atR a (.inRegion ops (i :: rest) :: k)) cs w) =
       .next (lone (Frame.enter P f args .normal) (b.atR a (.inRegion ops (i :: rest) :: k) :: cs) w') :=
      step_lone_go (by rw [hg]; simp [stepG.apply, hr', Frame.atR])
     cases e with
     | returned v =>
      obtain ⟨e, a', w₃, hq, harr⟩ := ih _ _ hR hcalm b k cs hro
      refine ⟨e, a', w₃, hq, .of_steps (.head h0 henter (StepsIn.trans hsteps (.one (fencedR _ _ _) ?_))) harr⟩
      rw [← hfin]; exact step_leave_returned hleave
     | panicked chain =>
      refine ⟨.panic chain, a, w'', hne _ _ _ (by simp) hR, .inRegion ops (i :: rest) :: k, .head h0 henter (StepsIn.trans hsteps (.one (fencedR _ _ _) ?_))⟩
      rw [← Frame.raise_atR]; exact step_leave_panicked hleave
     | outgrown =>
      obtain ⟨a₀, w₀, hq⟩ := hR
      exact ⟨.outgrown, a₀, w₀, hne _ _ _ (by simp) hq, .inr (Outgrown.of_steps (.one henter) hsteps)⟩
    ·rename_i row args w' hr'
     obtain ⟨v, w'', hR, hsteps⟩ := h (b.atR a (.inRegion ops (i :: rest) :: k)) cs
     have hsteps := stepsIn_wide.2 hsteps
     have henter : step P (lone (b.atR a (.inRegion ops (i :: rest) :: k)) cs w) =
       .next (lone (Frame.ofRow P row args .normal) (b.atR a (.inRegion ops (i :: rest) :: k) :: cs) w') :=
      step_lone_go (by rw [hg]; simp [stepG.apply, hr', Frame.atR])
     obtain ⟨e, a', w₃, hq, harr⟩ := ih _ _ hR hcalm b k cs hro
     refine ⟨e, a', w₃, hq, .of_steps (.head h0 henter ?_) harr⟩
     rw [← hfin]; exact hsteps
    ·rename_i v w' hr'
     refine ⟨_, a, w', hne _ _ _ (by simp) h, .inRegion ops (i :: rest) :: k, .one h0 (step_lone_go ?_)⟩
     rw [hg, ← Frame.raise_atR]; simp [stepG.apply, hr']
    ·exact h.elim
   ·simp only [hw, if_false, Bool.false_eq_true] at h
    obtain ⟨e, a', w', hq, harr⟩ := ih _ _ h hcalm b k cs hro
    have hs := stepR_op_skip (P := P) (b := b) (a := a) (k := k) (cs := cs) (w := w) (ops := ops) (i := i) (rest := rest)
     (by simp [ho]; simpa using hw)
    simp only [ho, Option.bind_some] at hs
    exact ⟨e, a', w', hq, .of_steps (.one (fencedR _ _ _) hs) harr⟩
theorem wpp_ops (l : List Nat) (a : Act) (w : World) (h : wpOps P ops Q l a w) (hcalm : r.isSome = true → ops.toList.all opCalm = true) (b : Frame) (k : List Go.Item) (cs : List Frame) (hro : b.roundOf = r) :
   ∃ e a' w', Q e a' w' ∧ ArrivesIn (Machine.fenced P (wideR r)) P (lone (b.atR a (.inRegion ops l :: k)) cs w) b k cs e a' w' := by
 have := wpp_ops2 (r := r) (Q := Q) [] (fun a w h b k cs _ => ⟨.normal, a, w, h, .one (fencedR _ _ _) stepR_region_end⟩) (fun e a w _ h => h) l a w h hcalm b k cs hro
 rwa [List.append_nil] at this
theorem wpp_region {id : Nat} (h : wpOps P ops Q (List.range ops.size) a w) : wpp r P (.region id ops false) Q a w := fun hp b k cs hro _ _ =>
 let ⟨e, a', w', q, s⟩ := wpp_ops _ a w h hp b k cs hro; ⟨e, a', w', q, .of_steps (.one (fencedR _ _ _) stepR_region) s⟩
theorem wpp_region_draw {id : Nat} (h : ∀ t, wpOps P ops Q (Region.schedule (P.follows .mixedOrders) ops t) a { w with drawn := w.drawn + 1 }) : wpp r P (.region id ops true) Q a w := fun hp b k cs hro _ _ =>
 let ⟨e, a', w', q, s⟩ := wpp_ops _ a _ (h _) hp b k cs hro; ⟨e, a', w', q, .of_steps (.one (fencedR _ _ _) stepR_region_draw) s⟩
theorem wpp_region_any {id : Nat} (hm : P.follows .mixedOrders = true) (h : wpAny P .any ops Q ops.size (Array.replicate ops.size false) a { w with drawn := w.drawn + 1 }) : wpp r P (.region id ops true) Q a w :=
 wpp_region_draw fun t => by
  simp only [Region.schedule, hm, Bool.true_or, if_true]
  exact wpAny_sound ops.size t _ a _ h
theorem wpp_region_lit {id : Nat} {l : List Oper} (h : wpList P l.toArray Q l a w) : wpp r P (.region id l.toArray false) Q a w := by
 refine wpp_region ?_
 have := wpOps_eq_wpList (P := P) (ops := l.toArray) (Q := Q) l 0 (fun j => by simp)
 rw [List.range_eq_range']
 have hs : l.toArray.size = l.length := by simp
 rw [hs, this]
 exact h
theorem wpp_region_quiet {id : Nat} {C : World → Prop} (hm : P.follows .mixedOrders = true) (hB : Region.lexB .any ops = true) (hC : C { w with drawn := w.drawn + 1 })
  (h : wpQuiet P ops C (fun a' => ∀ w', C w' → Q .normal a' w') ops.toList a) : wpp r P (.region id ops true) Q a w := by
 simp only [Region.lexB, Bool.and_eq_true] at hB
 refine wpp_region_any hm (wpAny_of_quiet (Q := fun a' => ∀ w', C w' → Q .normal a' w') (fun _ w' hw' h => h w' hw') _ _ _ _ hC ?_)
 have := wpAnyQ_lex (C := C) (md := .any) hB.1 ops.toList 0 (Array.replicate ops.size false) a (by simp) (by simpa using hB.2) h
 simpa using this
theorem calls_of_wpp {f : FuncId} {fn : Func} {args : Array Value} {R : Ending → World → Prop} (hf : P.funcs[f]? = some fn) (hb : fn.body = some c)
  (h : wpp none P c (bodyPost P fn R) { tmps := args ++ Array.replicate (fn.ntmps - args.size) undef, defers := [] } w) : Calls P f args w R :=
 calls_of_wp hf hb (wpIn_wide.1 (h fun h => by cases h))
end
end Go.Eng

/- The rules of the calculus: control flow, pure operations, loads, calls, new blocks, stores. General: any program P. No condition. -/
namespace Go.Eng
open Go.RowKit
/-! ### Judgements -/
structure Pev (P : Program) (n : Nm) (l : Env) (C : World → Prop) (o : Oper) (c : Bool) (v : Value) : Prop where
 run : c = true → ∀ a w, Sees n l a → C w → Oper.quietUpon P C w v ((execOp a.eval o).run P w)
structure QL (P : Program) (n : Nm) (ops : Array Oper) (C : World → Prop) (K : Act → Prop) (rest : List Oper) (l : Env) : Prop where
 run : ∀ a, Sees n l a → wpQuiet P ops C K rest a
structure OL (P : Program) (n : Nm) (ops : Array Oper) (Q : Exit → Act → World → Prop) (rest : List Oper) (l : Env) (C : World → Prop) : Prop where
 run : ∀ a w, Sees n l a → C w → wpList P ops Q rest a w
structure W (P : Program) (n : Nm) (c : Code) (Q : Exit → Act → World → Prop) (l : Env) (C : World → Prop) : Prop where
 run : ∀ a w, Sees n l a → C w → wpp n.r P c Q a w
structure At (n : Nm) (Q : Exit → Act → World → Prop) (e : Exit) (l : Env) (C : World → Prop) : Prop where
 run : ∀ a w, Sees n l a → C w → Q e a w
section
variable {P : Program} {n : Nm} {l l' : Env} {C : World → Prop} {ops : Array Oper} {Q : Exit → Act → World → Prop} {rest : List Oper} {o : Oper} {K : Act → Prop}
/-! ### Control flow -/
theorem W.seq {x y : Code} (h : W P n x (Exit.then (wpp n.r P y Q) Q) l C) : W P n (.seq x y) Q l C := ⟨fun a w hs hc => wpp_seq (h.run a w hs hc)⟩
theorem W.reg {id : Nat} {l0 : List Oper} (h : OL P n l0.toArray Q l0 l C) : W P n (.region id l0.toArray false) Q l C := ⟨fun a w hs hc => wpp_region_lit (h.run a w hs hc)⟩
theorem W.regd {id : Nat} {l0 : List Oper} (hm : P.follows .mixedOrders = true) (hB : Region.lexB .any l0.toArray = true) (hC : ∀ w, C w → C { w with drawn := w.drawn + 1 })
  (h : QL P n l0.toArray C (fun a' => ∀ w', C w' → Q .normal a' w') l0 l) : W P n (.region id l0.toArray true) Q l C :=
 ⟨fun a w hs hc => wpp_region_quiet (C := C) hm hB (hC w hc) (by simpa using h.run a hs)⟩
theorem W.cond {x : Operand} {y z : Code} {b : Bool} (hx : evl l x = some (true, .bool b)) (ht : b = true → W P n y Q l C) (hf : b = false → W P n z Q l C) : W P n (.cond x y z) Q l C :=
 ⟨fun a w hs hc => wpp_cond_split (hs.eval hx rfl) (fun h => (ht h).run a w hs hc) (fun h => (hf h).run a w hs hc)⟩
theorem W.block {id : Nat} {c : Code} (h : W P n c (Exit.inBlock id Q) l C) : W P n (.block id c) Q l C := ⟨fun a w hs hc => wpp_block (h.run a w hs hc)⟩
theorem W.skip (h : At n Q .normal l C) : W P n .skip Q l C := ⟨fun a w hs hc => wpp_skip (h.run a w hs hc)⟩
theorem W.exit {id : Nat} (h : At n Q (.exit id) l C) : W P n (.exit id) Q l C := ⟨fun a w hs hc => wpp_exit (h.run a w hs hc)⟩
theorem W.ret (h : At n Q .ret l C) : W P n .ret Q l C := ⟨fun a w hs hc => wpp_ret (h.run a w hs hc)⟩
theorem W.sub {c : Code} {C' : World → Prop} (hs : Sub l l') (hc : ∀ w, C w → C' w) (h : W P n c Q l' C') : W P n c Q l C := ⟨fun a w s c => h.run a w (s.sub hs) (hc w c)⟩
theorem At.sub {e : Exit} {C' : World → Prop} (hs : Sub l l') (hc : ∀ w, C w → C' w) (h : At n Q e l' C') : At n Q e l C := ⟨fun a w s c => h.run a w (s.sub hs) (hc w c)⟩
theorem At.next {y : Code} (h : W P n y Q l C) : At n (Exit.then (wpp n.r P y Q) Q) .normal l C := ⟨h.run⟩
theorem At.then_ret {k : Act → World → Prop} (h : At n Q .ret l C) : At n (Exit.then k Q) .ret l C := ⟨h.run⟩
theorem At.then_exit {k : Act → World → Prop} {id : Nat} (h : At n Q (.exit id) l C) : At n (Exit.then k Q) (.exit id) l C := ⟨h.run⟩
theorem At.in_ret {id : Nat} (h : At n Q .ret l C) : At n (Exit.inBlock id Q) .ret l C := ⟨h.run⟩
theorem At.in_normal {id : Nat} (h : At n Q .normal l C) : At n (Exit.inBlock id Q) .normal l C := ⟨h.run⟩
theorem At.in_exit {id : Nat} (h : At n Q .normal l C) : At n (Exit.inBlock id Q) (.exit id) l C := ⟨fun a w hs hc => by
 show if id = id then Q .normal a w else Q (.exit id) a w
 rw [if_pos rfl]; exact h.run a w hs hc⟩
theorem At.in_other {id id' : Nat} (hne : Nat.beq id' id = false) (h : At n Q (.exit id') l C) : At n (Exit.inBlock id Q) (.exit id') l C := ⟨fun a w hs hc => by
 show if id' = id then Q .normal a w else Q (.exit id') a w
 rw [if_neg (fun e => by rw [e, Nat.beq_refl] at hne; cases hne)]; exact h.run a w hs hc⟩
def Again (n : Nm) {G : Type} (Φ : G → Prop) (μ : G → Nat) (lg : G → Env) (Cg : G → World → Prop) (g : G) (a : Act) (w : World) : Prop :=
 ∃ g', Φ g' ∧ μ g' < μ g ∧ Sees n (lg g') a ∧ Cg g' w
theorem W.loop {c : Code} {G : Type} (Φ : G → Prop) (μ : G → Nat) (lg : G → Env) (Cg : G → World → Prop) (g0 : G) (h0 : Φ g0) (hs0 : Sub l (lg g0)) (hc0 : ∀ w, C w → Cg g0 w)
  (body : ∀ g, Φ g → W P n c (Exit.then (Again n Φ μ lg Cg g) Q) (lg g) (Cg g)) : W P n (.loop c) Q l C := by
 have key : ∀ m g, μ g < m → Φ g → ∀ a w, Sees n (lg g) a → Cg g w → roundsP n.r P c Q m a w := by
  intro m
  induction m with
  | zero => intro g h; omega
  | succ m ih =>
   intro g hm hg a w hs hc
   show wpp n.r P c (Exit.then (roundsP n.r P c Q m) Q) a w
   refine wpp_mono ((body g hg).run a w hs hc) fun e a' w' hq => ?_
   cases e with
   | normal =>
    obtain ⟨g', hg', hlt, hs', hc'⟩ := hq
    exact ih g' (by omega) hg' a' w' hs' hc'
   | _ => exact hq
 exact ⟨fun a w hs hc => wpp_loop _ (key (μ g0 + 1) g0 (by omega) h0 a w (hs.sub hs0) (hc0 w hc))⟩
theorem At.again {G : Type} {Φ : G → Prop} {μ : G → Nat} {lg : G → Env} {Cg : G → World → Prop} {g : G} (g' : G) (hg : Φ g') (hm : μ g' < μ g) (hs : Sub l (lg g')) (hc : ∀ w, C w → Cg g' w) :
  At n (Exit.then (Again n Φ μ lg Cg g) Q) .normal l C := ⟨fun a w s c => ⟨g', hg, hm, s.sub hs, hc w c⟩⟩
/-! ### Entering and leaving a function -/
def argEnv : Nat → List Value → Env
 | _, [] => []
 | i, v :: r => (i, true, v) :: argEnv (i + 1) r
theorem look_argEnv : ∀ (vs : List Value) (i t : Nat) (c : Bool) (v : Value), look (argEnv i vs) t = some (c, v) → c = true ∧ i ≤ t ∧ vs[t - i]? = some v := by
 intro vs
 induction vs with
 | nil => intro i t c v h; cases h
 | cons u r ih =>
  intro i t c v h
  simp only [argEnv, look] at h
  by_cases e : i = t
  ·subst e
   rw [Nat.beq_refl, cond_true] at h
   simp only [Option.some.injEq, Prod.mk.injEq] at h
   exact ⟨h.1.symm, Nat.le_refl _, by simp [h.2]⟩
  ·rw [show Nat.beq i t = false from by rw [Bool.eq_false_iff]; intro hb; exact e (Nat.eq_of_beq_eq_true hb), cond_false] at h
   obtain ⟨h1, h2, h3⟩ := ih (i + 1) t c v h
   refine ⟨h1, by omega, ?_⟩
   rw [show t - i = (t - (i + 1)) + 1 from by omega, List.getElem?_cons_succ]; exact h3
theorem sees_args {n : Nat} {args : Array Value} (h : args.size ≤ n) : Sees ⟨n, [], none⟩ (argEnv 0 args.toList) { tmps := args ++ Array.replicate (n - args.size) undef, defers := [] } := by
 refine ⟨rfl, by simp; omega, fun t c v ht => ?_⟩
 obtain ⟨rfl, _, h3⟩ := look_argEnv _ 0 t c v ht
 have h4 : args[t]? = some v := by simpa using h3
 have h5 : t < args.size := by
  rcases Nat.lt_or_ge t args.size with hl | hl
  ·exact hl
  ·rw [Array.getElem?_eq_none hl] at h4; cases h4
 show (args ++ _)[t]? = some v
 rw [Array.getElem?_append_left h5]; exact h4
theorem enter {f : FuncId} {fn : Func} {c : Code} {args : List Value} {R : Ending → World → Prop} {w : World} {m : Nat} (hf : P.funcs[f]? = some fn) (hb : fn.body = some c) (hn : fn.ntmps = m) (ha : Nat.ble args.length m = true)
  (hC : C w) (h : W P ⟨m, [], none⟩ c (bodyPost P fn R) (argEnv 0 args) C) : Calls P f args.toArray w R := by
 subst hn
 exact calls_of_wpp hf hb (h.run _ w (by have := sees_args (args := args.toArray) (n := fn.ntmps) (by simpa using Nat.le_of_ble_eq_true ha); simpa using this) hC)
theorem At.fin1 {m : Nat} {r : Option Nat} {fn : Func} {R : Ending → World → Prop} {t : Nat} {v : Value} (hr : fn.results = #[.tmp t]) (ht : look l t = some (true, v)) (h : ∀ w, C w → R (.returned v) w) : At ⟨m, [], r⟩ (bodyPost P fn R) .ret l C :=
 ⟨fun a w hs hc => ⟨hs.df, v, by have := hs.at_ t true v ht; simp [results, hr, Array.getD_eq_getD_getElem?, this], h w hc⟩⟩
theorem At.fin2 {m : Nat} {r : Option Nat} {fn : Func} {R : Ending → World → Prop} {t u : Nat} {v v' : Value} (hr : fn.results = #[.tmp t, .tmp u]) (ht : look l t = some (true, v)) (hu : look l u = some (true, v'))
  (h : ∀ w, C w → R (.returned (.tuple #[v, v'])) w) : At ⟨m, [], r⟩ (bodyPost P fn R) .ret l C :=
 ⟨fun a w hs hc => ⟨hs.df, .tuple #[v, v'], by have h1 := hs.at_ t true v ht; have h2 := hs.at_ u true v' hu; simp [results, hr, Array.getD_eq_getD_getElem?, h1, h2], h w hc⟩⟩
/-! ### Lists of operations -/
theorem QL.nil (h : At n Q .normal l C) : QL P n ops C (fun a' => ∀ w', C w' → Q .normal a' w') [] l := ⟨fun a hs w hc => h.run a w hs hc⟩
theorem OL.nil (h : At n Q .normal l C) : OL P n ops Q [] l C := ⟨fun a w hs hc => h.run a w hs hc⟩
theorem QL.op {d : Nat} {c : Bool} {v : Value} (hg : Guard l ops o.guard c) (hd : o.dst = some d) (hn : Nat.ble (d + 1) n.n = true) (hv : Pev P n l C o c v)
  (k : QL P n ops C K rest ((d, c, v) :: l)) : QL P n ops C K (o :: rest) l := by
 have hn' := Nat.le_of_ble_eq_true hn
 refine ⟨fun a hs => ?_⟩
 unfold wpQuiet
 rw [hg.wanted hs]
 cases c with
 | true => exact ⟨v, fun w hw => hv.run rfl a w hs hw, by rw [hd]; exact k.run _ (hs.put hn' true v)⟩
 | false => rw [hd]; exact k.run _ (hs.put hn' false v)
theorem OL.op {d : Nat} {c : Bool} {v : Value} (hg : Guard l ops o.guard c) (hd : o.dst = some d) (hn : Nat.ble (d + 1) n.n = true) (hv : Pev P n l C o c v)
  (k : OL P n ops Q rest ((d, c, v) :: l) C) : OL P n ops Q (o :: rest) l C := by
 have hn' := Nat.le_of_ble_eq_true hn
 refine ⟨fun a w hs hc => ?_⟩
 unfold wpList
 rw [hg.wanted hs]
 cases c with
 | true =>
  refine .inl (Oper.wp_of_quiet (C := C) (K := fun a' => ∀ w', C w' → wpList P ops Q rest a' w') hc (fun a' w' hw' h => h w' hw') ⟨v, fun w hw => hv.run rfl a w hs hw, fun w' hw' => ?_⟩)
  rw [hd]; exact k.run _ w' (hs.put hn' true v) hw'
 | false => rw [hd]; exact k.run _ w (hs.put hn' false v) hc
theorem OL.store_ {C' : World → Prop} (hg : o.guard = none) (hd : o.dst = none) (hv : ∀ a w, Sees n l a → C w → ∃ w', (execOp a.eval o).run P w = .ok .skip w' ∧ C' w')
  (k : OL P n ops Q rest l C') : OL P n ops Q (o :: rest) l C := by
 refine ⟨fun a w hs hc => ?_⟩
 refine wpList_plain hg fun K hK => ?_
 obtain ⟨w', hr, hc'⟩ := hv a w hs hc
 show Oper.upon P o a K Q ((execOp a.eval o).run P w)
 rw [hr]
 show K (a.put o.dst undef) w'
 rw [hd]
 exact hK _ _ (k.run a w' hs hc')
/-! ### Several steps at once -/
theorem OL.nx {y : Code} (h : W P n y Q l C) : OL P n ops (Exit.then (wpp n.r P y Q) Q) [] l C := OL.nil (At.next h)
theorem W.sr {id : Nat} {l0 : List Oper} {y : Code} (h : OL P n l0.toArray (Exit.then (wpp n.r P y Q) Q) l0 l C) : W P n (.seq (.region id l0.toArray false) y) Q l C := W.seq (W.reg h)
theorem OL.nsr {id : Nat} {l0 : List Oper} {y : Code} (h : OL P n l0.toArray (Exit.then (wpp n.r P y Q) Q) l0 l C) : OL P n ops (Exit.then (wpp n.r P (Code.seq (.region id l0.toArray false) y) Q) Q) [] l C := OL.nx (W.sr h)
theorem W.sk {y : Code} (h : W P n y Q l C) : W P n .skip (Exit.then (wpp n.r P y Q) Q) l C := W.skip (At.next h)
theorem W.sb {id : Nat} {c y : Code} (h : W P n c (Exit.inBlock id (Exit.then (wpp n.r P y Q) Q)) l C) : W P n (.seq (.block id c) y) Q l C := W.seq (W.block h)
inductive Rch : (Exit → Act → World → Prop) → (Exit → Act → World → Prop) → Prop where
 | nil {Q : Exit → Act → World → Prop} : Rch Q Q
 | th {k : Act → World → Prop} {Q Q' : Exit → Act → World → Prop} (h : Rch Q Q') : Rch (Exit.then k Q) Q'
 | bl {id : Nat} {Q Q' : Exit → Act → World → Prop} (h : Rch Q Q') : Rch (Exit.inBlock id Q) Q'
theorem Rch.ret {Q' : Exit → Act → World → Prop} (h : Rch Q Q') (k : At n Q' .ret l C) : At n Q .ret l C := by
 induction h with
 | nil => exact k
 | th _ ih => exact At.then_ret (ih k)
 | bl _ ih => exact At.in_ret (ih k)
theorem W.rt {Q' : Exit → Act → World → Prop} (h : At n Q' .ret l C) (hr : Rch Q Q' := by (repeat (first | with_reducible apply Rch.th | with_reducible apply Rch.bl | exact Rch.nil)); first | done | fail) : W P n .ret Q l C := W.ret (hr.ret h)
inductive Ech (id : Nat) : (Exit → Act → World → Prop) → (Exit → Act → World → Prop) → Prop where
 | hit {Q : Exit → Act → World → Prop} : Ech id (Exit.inBlock id Q) Q
 | th {k : Act → World → Prop} {Q Q' : Exit → Act → World → Prop} (h : Ech id Q Q') : Ech id (Exit.then k Q) Q'
 | bl {id' : Nat} {Q Q' : Exit → Act → World → Prop} (hne : Nat.beq id id' = false) (h : Ech id Q Q') : Ech id (Exit.inBlock id' Q) Q'
theorem Ech.exit {id : Nat} {Q' : Exit → Act → World → Prop} (h : Ech id Q Q') (k : At n Q' .normal l C) : At n Q (.exit id) l C := by
 induction h with
 | hit => exact At.in_exit k
 | th _ ih => exact At.then_exit (ih k)
 | bl hne _ ih => exact At.in_other hne (ih k)
theorem W.xt {id : Nat} {Q' : Exit → Act → World → Prop} (h : At n Q' .normal l C) (he : Ech id Q Q' := by (repeat (first | with_reducible exact Ech.hit | with_reducible apply Ech.th | (with_reducible apply Ech.bl; rfl))); first | done | fail) : W P n (.exit id) Q l C := W.exit (he.exit h)
theorem W.cnd {x : Operand} {y z : Code} {b : Bool} {p q : Prop} (ht : p → W P n y Q l C) (hf : q → W P n z Q l C) (hx : evl l x = some (true, .bool b) := by rfl)
  (hp : (b = true) = p := by ((try simp only [Bool.and_eq_true, Bool.or_eq_true, Bool.not_eq_true', Bool.and_eq_false_iff, Bool.or_eq_false_iff, Bool.not_eq_false', decide_eq_true_eq, decide_eq_false_iff_not, Int.not_lt, Int.not_le]); rfl))
  (hq : (b = false) = q := by ((try simp only [Bool.and_eq_true, Bool.or_eq_true, Bool.not_eq_true', Bool.and_eq_false_iff, Bool.or_eq_false_iff, Bool.not_eq_false', decide_eq_true_eq, decide_eq_false_iff_not, Int.not_lt, Int.not_le]); rfl)) : W P n (.cond x y z) Q l C :=
 W.cond hx (fun h => ht (hp ▸ h)) (fun h => hf (hq ▸ h))
section
variable {dd : Nat} {v : Value} {b : Bool} {op : Op} {ty : TypeId} {pos : String} {af : Array Edge} {j d : Nat}
theorem oop (hn : Nat.ble (dd + 1) n.n = true) (hv : Pev P n l C ⟨some dd, op, ty, pos, af, none⟩ true v) (k : OL P n ops Q rest ((dd, true, v) :: l) C) : OL P n ops Q (⟨some dd, op, ty, pos, af, none⟩ :: rest) l C := OL.op Guard.none rfl hn hv k
theorem oy (hd : (ops[j]?).bind (·.dst) = some d) (h : look l d = some (true, .bool b)) (hn : Nat.ble (dd + 1) n.n = true) (hv : Pev P n l C ⟨some dd, op, ty, pos, af, some (j, true)⟩ b v) (k : OL P n ops Q rest ((dd, b, v) :: l) C) : OL P n ops Q (⟨some dd, op, ty, pos, af, some (j, true)⟩ :: rest) l C := OL.op (Guard.yes hd h) rfl hn hv k
theorem ono (hd : (ops[j]?).bind (·.dst) = some d) (h : look l d = some (true, .bool b)) (hn : Nat.ble (dd + 1) n.n = true) (hv : Pev P n l C ⟨some dd, op, ty, pos, af, some (j, false)⟩ (!b) v) (k : OL P n ops Q rest ((dd, !b, v) :: l) C) : OL P n ops Q (⟨some dd, op, ty, pos, af, some (j, false)⟩ :: rest) l C := OL.op (Guard.no hd h) rfl hn hv k
theorem qop (hn : Nat.ble (dd + 1) n.n = true) (hv : Pev P n l C ⟨some dd, op, ty, pos, af, none⟩ true v) (k : QL P n ops C K rest ((dd, true, v) :: l)) : QL P n ops C K (⟨some dd, op, ty, pos, af, none⟩ :: rest) l := QL.op Guard.none rfl hn hv k
theorem qy (hd : (ops[j]?).bind (·.dst) = some d) (h : look l d = some (true, .bool b)) (hn : Nat.ble (dd + 1) n.n = true) (hv : Pev P n l C ⟨some dd, op, ty, pos, af, some (j, true)⟩ b v) (k : QL P n ops C K rest ((dd, b, v) :: l)) : QL P n ops C K (⟨some dd, op, ty, pos, af, some (j, true)⟩ :: rest) l := QL.op (Guard.yes hd h) rfl hn hv k
theorem qno (hd : (ops[j]?).bind (·.dst) = some d) (h : look l d = some (true, .bool b)) (hn : Nat.ble (dd + 1) n.n = true) (hv : Pev P n l C ⟨some dd, op, ty, pos, af, some (j, false)⟩ (!b) v) (k : QL P n ops C K rest ((dd, !b, v) :: l)) : QL P n ops C K (⟨some dd, op, ty, pos, af, some (j, false)⟩ :: rest) l := QL.op (Guard.no hd h) rfl hn hv k
end
end
end Go.Eng

/- The rules for operations: moves, arithmetic, comparisons, addresses, loads, calls, new blocks, stores. General: any program P. No condition. -/
namespace Go.Eng
open Go.RowKit
/-! ### What is read off the program's types -/
def lit : Nat → Option Nat
 | 0 => some 0 | 1 => some 1 | 2 => some 2 | 3 => some 3 | 4 => some 4 | 5 => some 5 | 6 => some 6 | 7 => some 7 | 8 => some 8 | 9 => some 9 | 10 => some 10 | 11 => some 11 | 12 => some 12 | 13 => some 13 | 14 => some 14 | 15 => some 15 | 16 => some 16 | 17 => some 17 | 18 => some 18 | 19 => some 19 | 20 => some 20 | 21 => some 21 | 22 => some 22 | 23 => some 23 | 24 => some 24 | 25 => some 25 | 26 => some 26 | 27 => some 27 | 28 => some 28 | 29 => some 29 | 30 => some 30 | 31 => some 31 | 32 => some 32 | 33 => some 33 | 34 => some 34 | 35 => some 35 | 36 => some 36 | 37 => some 37 | 38 => some 38 | 39 => some 39 | 40 => some 40 | 41 => some 41 | 42 => some 42 | 43 => some 43 | 44 => some 44 | 45 => some 45 | 46 => some 46 | 47 => some 47 | 48 => some 48 | 49 => some 49 | 50 => some 50 | 51 => some 51 | 52 => some 52 | 53 => some 53 | 54 => some 54 | 55 => some 55 | 56 => some 56 | 57 => some 57 | 58 => some 58 | 59 => some 59 | 60 => some 60 | 61 => some 61 | 62 => some 62 | 63 => some 63 | 64 => some 64 | 65 => some 65 | 66 => some 66 | 67 => some 67 | 68 => some 68 | 69 => some 69 | 70 => some 70 | 71 => some 71 | 72 => some 72 | 73 => some 73 | 74 => some 74 | 75 => some 75 | 76 => some 76 | 77 => some 77 | 78 => some 78 | 79 => some 79 | 80 => some 80 | 81 => some 81 | 82 => some 82 | 83 => some 83 | 84 => some 84 | 85 => some 85 | 86 => some 86 | 87 => some 87 | 88 => some 88 | 89 => some 89 | 90 => some 90 | 91 => some 91 | 92 => some 92 | 93 => some 93 | 94 => some 94 | 95 => some 95 | 96 => some 96 | 97 => some 97 | 98 => some 98 | 99 => some 99 | 100 => some 100 | 101 => some 101 | 102 => some 102 | 103 => some 103 | 104 => some 104 | 105 => some 105 | 106 => some 106 | 107 => some 107 | 108 => some 108 | 109 => some 109 | 110 => some 110 | 111 => some 111 | 112 => some 112 | 113 => some 113 | 114 => some 114 | 115 => some 115 | 116 => some 116 | 117 => some 117 | 118 => some 118 | 119 => some 119 | 120 => some 120 | 121 => some 121 | 122 => some 122 | 123 => some 123 | 124 => some 124 | 125 => some 125 | 126 => some 126 | 127 => some 127 | 128 => some 128
 | _ => none
theorem lit_eq {a b : Nat} (h : lit a = some b) : a = b := by
 unfold lit at h
 split at h <;> simp_all
def scalB (P : Program) (t : TypeId) : Bool := match P.underlying t with | some (.struct _) => false | some (.array ..) => false | some _ => true | none => false
def sizeN (P : Program) (t : TypeId) : Option Nat := match P.info? t with | some i => lit i.size | none => none
def aggN (P : Program) (t : TypeId) : Option Nat := match P.underlying t with
 | some (.struct _) => sizeN P t
 | some (.array ..) => sizeN P t
 | _ => none
def fldAt (P : Program) (t : TypeId) (i : Nat) : Option Nat := match P.underlying t with
 | some (.struct fs) => match fs[i]? with
  | some f => match sizeN P f.type with
   | some 0 => none
   | some (_ + 1) => lit f.offset
   | none => none
  | none => none
 | _ => none
def slElem (P : Program) (t : TypeId) : Option (TypeId × Nat) := match P.underlying t with
 | some (.slice e) => match sizeN P e with
  | some k => some (e, k)
  | none => none
 | _ => none
def boolB (P : Program) (t : TypeId) : Bool := match P.underlying t with | some .bool => true | _ => false
def callable (P : Program) (f : FuncId) : Bool := match P.funcs[f]? with | some fn => !(fn.name == "runtime.NumGoroutine") && fn.body.isSome | none => false
section types
variable {P : Program} {t : TypeId}
theorem run_isAgg_scal (h : scalB P t = true) (w : World) : (isAgg t).run P w = .ok false w := by
 unfold scalB at h
 cases hu : P.underlying t with
 | none => simp [hu] at h
 | some d =>
  unfold isAgg
  rw [Sem.run_bind, run_underlying hu w]
  rw [hu] at h
  cases d <;> simp_all
theorem sizeN_info {k : Nat} (h : sizeN P t = some k) : ∃ i, P.info? t = some i ∧ i.size = k := by
 unfold sizeN at h
 cases hq : P.info? t with
 | none => simp [hq] at h
 | some i => rw [hq] at h; exact ⟨i, rfl, lit_eq h⟩
theorem aggN_info {k : Nat} (h : aggN P t = some k) : ∃ d, P.underlying t = some d ∧ (match d with | .struct _ | .array _ _ => true | _ => false) = true ∧ sizeN P t = some k := by
 unfold aggN at h
 cases hu : P.underlying t with
 | none => simp [hu] at h
 | some d =>
  refine ⟨d, rfl, ?_⟩
  rw [hu] at h
  cases d <;> simp_all
theorem run_isAgg_agg {k : Nat} (h : aggN P t = some k) (w : World) : (isAgg t).run P w = .ok true w := by
 obtain ⟨d, hu, hd, _⟩ := aggN_info h
 unfold isAgg
 rw [Sem.run_bind, run_underlying hu w]
 cases d <;> simp_all
theorem run_sizeN {k : Nat} (h : sizeN P t = some k) (w : World) : (sizeOf t).run P w = .ok k w := by
 obtain ⟨i, hq, hs⟩ := sizeN_info h
 simp [sizeOf, typeInfo, hq, hs]
theorem aggN_size {k : Nat} (h : aggN P t = some k) : sizeN P t = some k := (aggN_info h).choose_spec.2.2
theorem run_loadVar_scal (h : scalB P t = true) {w : World} {a : Addr} {v : Value} (hc : w.cell? a = some v) : (loadVar t a).run P w = .ok v w := by
 simp [loadVar, Sem.run_bind, run_isAgg_scal h, hc]
def CellsAt (w : World) (a : Addr) (vs : List Value) : Prop := ∀ j v, vs[j]? = some v → w.cell? (a.add j) = some v
theorem run_loadVar_agg {vs : List Value} (h : aggN P t = some vs.length) {w : World} {a : Addr} (hc : CellsAt w a vs) : (loadVar t a).run P w = .ok (.agg vs.toArray) w := by
 have hl := run_loadCells_list (P := P) w a vs hc
 simp [loadVar, Sem.run_bind, run_isAgg_agg h, run_sizeN (aggN_size h), hl]
end types
theorem add_zero_ (a : Addr) : a.add 0 = a := rfl
theorem add_mid {b o : Nat} (n : Nat) : (⟨b, o, none⟩ : Addr).add n = ⟨b, o + n, none⟩ := by
 unfold Addr.add; split
 ·subst_vars; rfl
 ·rfl
theorem add_block (a : Addr) (n : Nat) : (a.add n).block = a.block := by unfold Addr.add; split <;> rfl
theorem add_add (a : Addr) (i j : Nat) : (a.add i).add j = a.add (i + j) := by
 unfold Addr.add
 by_cases hi : i = 0 <;> by_cases hj : j = 0 <;> simp [hi, hj, Nat.add_assoc]
/-! ### Values without a look at memory -/
section
variable {P : Program} {n : Nm} {l : Env} {C : World → Prop} {c : Bool} {d : Option Nat} {ty : TypeId} {pos : String} {af : Array Edge} {g : Option (Nat × Bool)}
theorem Pev.of_run {o : Oper} {v : Value} (h : c = true → ∀ a w, Sees n l a → C w → (execOp a.eval o).run P w = .ok (.value v) w) : Pev P n l C o c v :=
 ⟨fun hc a w hs hw => by rw [h hc a w hs hw]; exact ⟨rfl, rfl⟩⟩
theorem Pev.no {o : Oper} : Pev P n l C o false (.bool false) := ⟨fun h => by cases h⟩
theorem Pev.move {x : Operand} {cx : Bool} {v : Value} (hx : evl l x = some (cx, v)) (hc : c = true → cx = true) : Pev P n l C ⟨d, .move x, ty, pos, af, g⟩ c v :=
 .of_run fun h a w hs hw => by show Result.ok (Next.value (a.eval x)) w = _; rw [hs.eval hx (hc h)]
theorem Pev.assign {x : Operand} {cx : Bool} {v : Value} (hx : evl l x = some (cx, v)) (hc : c = true → cx = true) : Pev P n l C ⟨d, .assign x, ty, pos, af, g⟩ c v :=
 .of_run fun h a w hs hw => by show Result.ok (Next.value (a.eval x)) w = _; rw [hs.eval hx (hc h)]
theorem run_pick {a : Act} {w : World} {x y z : Operand} {b : Bool} (hx : a.eval x = .bool b) : (execOp a.eval ⟨d, .pick x y z, ty, pos, af, g⟩).run P w = .ok (.value (bif b then a.eval y else a.eval z)) w := by
 simp only [execOp, hx, asBool]
 cases b <;> rfl
theorem Pev.pick_and {x y : Operand} {cx cy b p : Bool} (hx : evl l x = some (cx, .bool b)) (hc : c = true → cx = true) (hy : evl l y = some (cy, .bool p)) (hcy : (c && b) = true → cy = true) :
  Pev P n l C ⟨d, .pick x y (.const (.bool false)), ty, pos, af, g⟩ c (.bool (b && p)) :=
 .of_run fun h a w hs hw => by
  rw [run_pick (hs.eval hx (hc h))]
  cases b with
  | false => rfl
  | true => rw [cond_true, hs.eval hy (hcy (by simp [h]))]; rfl
theorem Pev.pick_or {x y : Operand} {cx cy b p : Bool} (hx : evl l x = some (cx, .bool b)) (hc : c = true → cx = true) (hy : evl l y = some (cy, .bool p)) (hcy : (c && !b) = true → cy = true) :
  Pev P n l C ⟨d, .pick x (.const (.bool true)) y, ty, pos, af, g⟩ c (.bool (b || p)) :=
 .of_run fun h a w hs hw => by
  rw [run_pick (hs.eval hx (hc h))]
  cases b with
  | true => rfl
  | false => rw [cond_false, hs.eval hy (hcy (by simp [h]))]; rfl
theorem Pev.nil_ptr {x : Operand} {cx : Bool} {q : Addr} (hx : evl l x = some (cx, .pointer (some q))) (hc : c = true → cx = true) : Pev P n l C ⟨d, .nilCheck x, ty, pos, af, g⟩ c (.pointer (some q)) :=
 .of_run fun h a w hs hw => by simp only [execOp, hs.eval hx (hc h)]; rfl
/-! binary operations -/
structure Bin (P : Program) (op : BinOp) (t : TypeId) (u v r : Value) : Prop where
 run : ∀ (x y : Operand) (w : World), (do eqGuard op t x y u v; binOp op t u v : Sem Value).run P w = .ok r w
theorem Pev.bin {op : BinOp} {t yt : TypeId} {x y : Operand} {cx cy : Bool} {u v r : Value} (hx : evl l x = some (cx, u)) (hcx : c = true → cx = true) (hy : evl l y = some (cy, v)) (hcy : c = true → cy = true)
  (hb : c = true → Bin P op t u v r) : Pev P n l C ⟨d, .binOp op t x y yt, ty, pos, af, g⟩ c r :=
 .of_run fun h a w hs hw => by
  have := (hb h).run x y w
  simp only [execOp, hs.eval hx (hcx h), hs.eval hy (hcy h), Sem.run_bind, this, Result.andThen_ok]
  rfl
theorem guard_int {op : BinOp} {t : TypeId} {x y : Operand} {k k' : IntKind} {a b : Int} {w : World} : (eqGuard op t x y (.int k a) (.int k' b)).run P w = .ok () w := by cases op <;> rfl
theorem guard_str {op : BinOp} {t : TypeId} {x y : Operand} {a b : ByteArray} {w : World} : (eqGuard op t x y (.string a) (.string b)).run P w = .ok () w := by cases op <;> rfl
theorem guard_bool {op : BinOp} {t : TypeId} {x y : Operand} {a b : Bool} {w : World} : (eqGuard op t x y (.bool a) (.bool b)).run P w = .ok () w := by cases op <;> rfl
variable {t : TypeId} {k : IntKind} {a b : Int}
theorem int_beq (a b : Int) : (a == b) = decide (a = b) := by by_cases h : a = b <;> simp [h]
theorem bin_int {op : BinOp} {r : Value} (h : (binOp op t (.int k a) (.int k b) : Sem Value) = pure r) : Bin P op t (.int k a) (.int k b) r := ⟨fun x y w => by
 rw [Sem.run_bind, guard_int, Result.andThen_ok, h]; rfl⟩
theorem Bin.lss : Bin P .lss t (.int k a) (.int k b) (.bool (decide (a < b))) := bin_int (by simp [binOp, Op.intCmp])
theorem Bin.leq : Bin P .leq t (.int k a) (.int k b) (.bool (decide (a ≤ b))) := bin_int (by simp [binOp, Op.intCmp])
theorem Bin.gtr : Bin P .gtr t (.int k a) (.int k b) (.bool (decide (b < a))) := bin_int (by simp [binOp, Op.intCmp])
theorem Bin.geq : Bin P .geq t (.int k a) (.int k b) (.bool (decide (b ≤ a))) := bin_int (by simp [binOp, Op.intCmp])
theorem Bin.eql : Bin P .eql t (.int k a) (.int k b) (.bool (decide (a = b))) := bin_int (by simp only [binOp, Op.intCmp, ne_eq, not_true, if_false, int_beq])
theorem Bin.neq : Bin P .neq t (.int k a) (.int k b) (.bool (!decide (a = b))) := bin_int (by simp only [binOp, Op.intCmp, ne_eq, not_true, if_false, bne, int_beq])
theorem Bin.add : Bin P .add t (.int k a) (.int k b) (.int k (k.wrap (a + b))) := bin_int (by simp [binOp, Op.intArith])
theorem Bin.sub : Bin P .sub t (.int k a) (.int k b) (.int k (k.wrap (a - b))) := bin_int (by simp [binOp, Op.intArith])
theorem Bin.add_in (h : -9223372036854775808 ≤ a + b ∧ a + b ≤ 9223372036854775807) : Bin P .add t (.int .i64 a) (.int .i64 b) (.int .i64 (a + b)) := bin_int (by simp [binOp, Op.intArith, IntWalk.i64_in _ h])
theorem Bin.sub_in (h : -9223372036854775808 ≤ a - b ∧ a - b ≤ 9223372036854775807) : Bin P .sub t (.int .i64 a) (.int .i64 b) (.int .i64 (a - b)) := bin_int (by simp [binOp, Op.intArith, IntWalk.i64_in _ h])
theorem Bin.or : Bin P .or t (.int k a) (.int k b) (.int k (bits .or k a b)) := bin_int (by simp only [binOp, ne_eq, not_true, if_false]; exact intBits_or k a b)
theorem bytes_beq (s u : ByteArray) : (s.toList == u.toList) = decide (s = u) := by
 rw [ByteArray.toList_eq, ByteArray.toList_eq]
 by_cases h : s = u
 ·subst h; simp
 ·have h2 : ¬ s.data.toList = u.data.toList := fun e => h (by cases s; cases u; simp_all)
  rw [decide_eq_false h]; exact beq_eq_false_iff_ne.2 h2
theorem bin_str {op : BinOp} {s u : ByteArray} {r : Value} (h : (binOp op t (.string s) (.string u) : Sem Value) = pure r) : Bin P op t (.string s) (.string u) r := ⟨fun x y w => by
 rw [Sem.run_bind, guard_str, Result.andThen_ok, h]; rfl⟩
theorem Bin.str_eql {s u : ByteArray} : Bin P .eql t (.string s) (.string u) (.bool (decide (s = u))) := bin_str (by simp only [binOp, Op.stringOp, bytes_beq])
theorem Bin.str_neq {s u : ByteArray} : Bin P .neq t (.string s) (.string u) (.bool (!decide (s = u))) := bin_str (by simp only [binOp, Op.stringOp, bytes_beq])
theorem run_equalIn_bool {w : World} {p q : Bool} (dd : Nat) (hu : boolB P t = true) : (Op.equalIn (dd + 1) t (.bool p) (.bool q)).run P w = .ok (p == q) w := by
 unfold boolB at hu
 cases h : P.underlying t with
 | none => simp [h] at hu
 | some dd =>
  rw [h] at hu
  cases dd <;> simp at hu
  simp only [Op.equalIn, Sem.run_bind, run_underlying h, Result.andThen_ok]; rfl
theorem run_equal_bool {w : World} {p q : Bool} (hu : boolB P t = true) : (Op.equal t (.bool p) (.bool q)).run P w = .ok (p == q) w := run_equalIn_bool 9999 hu
theorem Bin.bool_neq {p q : Bool} (hu : boolB P t = true) : Bin P .neq t (.bool p) (.bool q) (.bool (p != q)) := ⟨fun x y w => by
 rw [Sem.run_bind, guard_bool, Result.andThen_ok]
 simp only [binOp, Sem.run_bind, run_equal_bool hu, Result.andThen_ok]; rfl⟩
theorem Pev.not {t : TypeId} {x : Operand} {cx p : Bool} (hx : evl l x = some (cx, .bool p)) (hc : c = true → cx = true) : Pev P n l C ⟨d, .unOp .not t x, ty, pos, af, g⟩ c (.bool (!p)) :=
 .of_run fun h a w hs hw => by simp only [execOp, hs.eval hx (hc h), Op.unary, Sem.run_bind]; rfl
theorem Pev.extract {x : Operand} {cx : Bool} {vs : List Value} {i : Nat} {v : Value} (hx : evl l x = some (cx, .tuple vs.toArray)) (hc : c = true → cx = true) (hv : vs[i]? = some v) : Pev P n l C ⟨d, .extract x i, ty, pos, af, g⟩ c v :=
 .of_run fun h a w hs hw => by
  have hv' : vs.toArray[i]? = some v := by simpa using hv
  simp only [execOp, hs.eval hx (hc h), Instr.extract, hv', Sem.run_bind]; rfl
theorem run_len_slice {w : World} {t ty : TypeId} {q : Option Addr} {m cp : Nat} {e : TypeId × Nat} (hu : slElem P t = some e) : (Builtin.len_ #[t] ty #[.slice q m cp]).run P w = .ok (.int .i64 m) w := by
 unfold slElem at hu
 cases h : P.underlying t with
 | none => simp [h] at hu
 | some dd =>
  rw [h] at hu
  cases dd <;> simp at hu
  simp [Builtin.len_, run_underlying h, goInt]
theorem run_builtin_len {w : World} {a : Act} {x : Operand} {t : TypeId} {v : Value} (h : (Builtin.len_ #[t] ty #[a.eval x]).run P w = .ok v w) :
  (execOp a.eval ⟨d, .call { callee := .builtin .len, args := #[x], argTypes := #[t] }, ty, pos, af, g⟩).run P w = .ok (.value v) w := by
 simp [execOp, resolve, invoke, builtin, h]
theorem Pev.len_slice {t : TypeId} {x : Operand} {cx : Bool} {q : Option Addr} {m cp : Nat} {e : TypeId × Nat} (hx : evl l x = some (cx, .slice q m cp)) (hc : c = true → cx = true) (hu : slElem P t = some e) :
  Pev P n l C ⟨d, .call { callee := .builtin .len, args := #[x], argTypes := #[t] }, ty, pos, af, g⟩ c (.int .i64 m) :=
 .of_run fun h a w hs hw => run_builtin_len (by rw [hs.eval hx (hc h)]; exact run_len_slice hu)
def bt (s : ByteArray) (m : Nat) : Int := ((s.data.toList.getD m 0).toNat : Int)
end
end Go.Eng

/- The rules for memory: addresses, loads, calls, new blocks, stores. General: any program P. No condition. -/
namespace Go.Eng
open Go.RowKit
inductive NotOwned : List Item → Nat → Prop where
 | nil {k : Nat} : NotOwned [] k
 | blk {b : Nat} {t : TypeId} {c : List Value} {H : List Item} {k : Nat} (h : k ≠ b) (r : NotOwned H k) : NotOwned (blk b t c :: H) k
 | any {i : Item} {H : List Item} {k : Nat} (h : ¬ i.own k) (r : NotOwned H k) : NotOwned (i :: H) k
theorem NotOwned.not {H : List Item} {k : Nat} (h : NotOwned H k) : ¬ owned H k := by
 induction h with
 | nil => rintro ⟨i, hi, _⟩; cases hi
 | @blk b t c H k h r ih =>
  rintro ⟨i, hi, hk⟩
  cases hi with
  | head => exact h hk
  | tail _ hi => exact ih ⟨i, hi, hk⟩
 | @any i H k h r ih =>
  rintro ⟨j, hj, hk⟩
  cases hj with
  | head => exact h hk
  | tail _ hj => exact ih ⟨j, hj, hk⟩
inductive Take : Nat → List Value → List Value → Prop where
 | zero {l : List Value} : Take 0 l []
 | succ {k : Nat} {v : Value} {l r : List Value} (h : Take k l r) : Take (k + 1) (v :: l) (v :: r)
theorem Take.get {k : Nat} {l r : List Value} (h : Take k l r) : r.length = k ∧ ∀ (j : Nat) (v : Value), r[j]? = some v → l[j]? = some v := by
 induction h with
 | zero => exact ⟨rfl, fun j v hv => by simp at hv⟩
 | @succ k v l r _ ih =>
  refine ⟨by simp [ih.1], fun j u hu => ?_⟩
  cases j with
  | zero => simpa using hu
  | succ j => exact ih.2 j u (by simpa using hu)
inductive CellsL : Value → List Value → Prop where
 | one {v : Value} (h : v.cells = #[v]) : CellsL v [v]
 | agg {c : List Value} : CellsL (.agg c.toArray) c
theorem CellsL.eq {v : Value} {cs : List Value} (h : CellsL v cs) : v.cells = cs.toArray := by
 cases h with
 | one h => exact h
 | agg => rfl
inductive Over : List Value → List Value → List Value → Prop where
 | nil {l : List Value} : Over l [] l
 | cons {x v : Value} {l vs r : List Value} (h : Over l vs r) : Over (x :: l) (v :: vs) (v :: r)
inductive Put : List Value → Nat → List Value → List Value → Prop where
 | here {l vs r : List Value} (h : Over l vs r) : Put l 0 vs r
 | skip {x : Value} {l vs r : List Value} {o : Nat} (h : Put l o vs r) : Put (x :: l) (o + 1) vs (x :: r)
def putL : List Value → Nat → List Value → List Value
 | l, _, [] => l
 | l, o, v :: r => putL (l.set o v) (o + 1) r
theorem putL_cons : ∀ (vs : List Value) (x : Value) (l : List Value) (o : Nat), putL (x :: l) (o + 1) vs = x :: putL l o vs
 | [], _, _, _ => rfl
 | v :: vs, x, l, o => by rw [putL, List.set_cons_succ, putL_cons, putL]
theorem Over.eq {l vs r : List Value} (h : Over l vs r) : vs.length ≤ l.length ∧ putL l 0 vs = r := by
 induction h with
 | nil => exact ⟨by simp, rfl⟩
 | @cons x v l vs r h ih => exact ⟨by simp [ih.1], by rw [putL, List.set_cons_zero, putL_cons, ih.2]⟩
theorem Put.eq {l vs r : List Value} {o : Nat} (h : Put l o vs r) : o + vs.length ≤ l.length ∧ putL l o vs = r := by
 induction h with
 | here h => exact ⟨by have := h.eq.1; omega, h.eq.2⟩
 | @skip x l vs r o h ih => exact ⟨by have := ih.1; simp; omega, by rw [putL_cons, ih.2]⟩
inductive Swap : Nat → List Item → Item → Item → List Item → Prop where
 | z {i j : Item} {H : List Item} : Swap 0 (i :: H) i j (j :: H)
 | s {p : Nat} {k i j : Item} {H H' : List Item} (h : Swap p H i j H') : Swap (p + 1) (k :: H) i j (k :: H')
theorem Swap.eq {p : Nat} {H H' : List Item} {i j : Item} (h : Swap p H i j H') : H[p]? = some i ∧ H' = H.set p j := by
 induction h with
 | z => exact ⟨rfl, rfl⟩
 | @s p k i j H H' h ih => exact ⟨by simpa using ih.1, by rw [List.set_cons_succ, ← ih.2]⟩
def AllLe : List World → Nat → Prop
 | [], _ => True
 | s :: r, b => s.heap.size ≤ b ∧ AllLe r b
theorem AllLe.mk {H : List Item} {S : List World} {w : World} (h : Cls H S w) : AllLe S w.heap.size := by
 have := h.kp
 clear h
 induction S with
 | nil => trivial
 | cons s S ih => exact ⟨(this s (.head _)).size, ih fun x hx => this x (.tail _ hx)⟩
/-! what a tactic finds by itself, as an argument that is filled in -/
theorem NotOwned.au {H : List Item} {k : Nat} (h : NotOwned H k := by (focus ((try simp only [add_block]); (repeat (first | exact NotOwned.nil | exact hno _ (by omega) | refine NotOwned.nothing ?_ | refine NotOwned.nds (hlow _ (by omega)) ?_ | refine NotOwned.mapS (by omega) ?_ | apply NotOwned.bif | refine NotOwned.blk (by omega) ?_ | refine NotOwned.row (by omega) ?_ | refine NotOwned.grid (by assumption) (by omega) ?_ | refine NotOwned.pile (by omega) ?_ | refine NotOwned.pool (by omega) ?_ | refine NotOwned.mapI (by omega) ?_ | refine NotOwned.mapX (by omega) ?_ | refine NotOwned.itI (by omega) ?_)); first | done | fail))) : NotOwned H k := h
theorem mau {α : Type} {x : α} {l : List α} (h : x ∈ l := by (repeat (first | exact List.Mem.head _ | apply List.Mem.tail)); first | done | fail) : x ∈ l := h
theorem Take.au {k : Nat} {l r : List Value} (h : Take k l r := by (repeat (first | apply Take.zero | apply Take.succ)); first | done | fail) : Take k l r := h
theorem Put.au {l vs r : List Value} {o : Nat} (h : Put l o vs r := by (repeat (first | apply Over.nil | apply Over.cons | apply Put.here | apply Put.skip)); first | done | fail) : Put l o vs r := h
theorem Swap.au {p : Nat} {H H' : List Item} {i j : Item} (h : Swap p H i j H' := by (repeat (first | apply Swap.z | apply Swap.s)); first | done | fail) : Swap p H i j H' := h
section
variable {P : Program} {n : Nm} {l : Env} {H : List Item} {S : List World} {C : World → Prop} {c : Bool} {d : Option Nat} {ty : TypeId} {pos : String} {af : Array Edge} {g : Option (Nat × Bool)}
variable {t : TypeId} {x y : Operand} {cx cy : Bool}
/-! addresses -/
theorem run_fieldAt {i off : Nat} {a : Addr} {w : World} (hf : fldAt P t i = some off) : (Instr.fieldAt t (.pointer (some a)) i).run P w = .ok (.pointer (some (a.add off))) w := by
 unfold fldAt at hf
 cases hu : P.underlying t with
 | none => simp [hu] at hf
 | some dd =>
  rw [hu] at hf
  cases dd <;> simp only [reduceCtorEq] at hf
  rename_i fs
  cases hq : fs[i]? with
  | none => simp [hq] at hf
  | some f =>
   rw [hq] at hf
   simp only at hf
   cases hz : sizeN P f.type with
   | none => simp [hz] at hf
   | some k =>
    rw [hz] at hf
    cases k with
    | zero => simp at hf
    | succ k =>
     have hf := lit_eq hf
     subst hf
     simp [Instr.fieldAt, run_underlying hu, hq, Instr.sureAddr, fieldPlace, run_sizeN hz]
theorem Pev.fld {i off b o : Nat} (hx : evl l x = some (cx, .pointer (some ⟨b, o, none⟩))) (hc : c = true → cx = true) (hf : fldAt P t i = some off) : Pev P n l C ⟨d, .fieldAddr t x i, ty, pos, af, g⟩ c (.pointer (some ⟨b, o + off, none⟩)) :=
 .of_run fun h a w hs hw => by simp only [execOp, hs.eval hx (hc h), Sem.run_bind, run_fieldAt hf, Result.andThen_ok, add_mid]; rfl
theorem Pev.fldA {i off : Nat} {q : Addr} (hx : evl l x = some (cx, .pointer (some q))) (hc : c = true → cx = true) (hf : fldAt P t i = some off) : Pev P n l C ⟨d, .fieldAddr t x i, ty, pos, af, g⟩ c (.pointer (some (q.add off))) :=
 .of_run fun h a w hs hw => by simp only [execOp, hs.eval hx (hc h), Sem.run_bind, run_fieldAt hf, Result.andThen_ok]; rfl
theorem run_indexAt_slice {e : TypeId} {sz m len cp : Nat} {ki : IntKind} {a : Addr} {w : World} (hu : slElem P t = some (e, sz)) (hm : m < len) : (Instr.indexAt t (.slice (some a) len cp) (.int ki (m : Int))).run P w = .ok (.pointer (some (a.add (m * sz)))) w := by
 unfold slElem at hu
 cases h1 : P.underlying t with
 | none => simp [h1] at hu
 | some dd =>
  rw [h1] at hu
  cases dd <;> simp only [reduceCtorEq] at hu
  rename_i e'
  cases h2 : sizeN P e' with
  | none => simp [h2] at hu
  | some k =>
   rw [h2] at hu
   simp only [Option.some.injEq, Prod.mk.injEq] at hu
   obtain ⟨rfl, rfl⟩ := hu
   simp [Instr.indexAt, asIntOf, run_underlying h1, run_sizeN h2, hm]
theorem Pev.idx {e : TypeId} {sz m len cp : Nat} {ki : IntKind} {i : Int} {q : Addr} (hx : evl l x = some (cx, .slice (some q) len cp)) (hcx : c = true → cx = true) (hy : evl l y = some (cy, .int ki i)) (hcy : c = true → cy = true)
  (hu : slElem P t = some (e, sz)) (hi : i = (m : Int)) (hm : c = true → m < len) : Pev P n l C ⟨d, .indexAddr t x y, ty, pos, af, g⟩ c (.pointer (some (q.add (m * sz)))) :=
 .of_run fun h a w hs hw => by
  subst hi
  simp only [execOp, hs.eval hx (hcx h), hs.eval hy (hcy h), Sem.run_bind, run_indexAt_slice hu (hm h), Result.andThen_ok]; rfl
theorem Pev.idxB {e : TypeId} {sz m len cp b o : Nat} {ki : IntKind} {i : Int} (hx : evl l x = some (cx, .slice (some ⟨b, o, none⟩) len cp)) (hcx : c = true → cx = true) (hy : evl l y = some (cy, .int ki i)) (hcy : c = true → cy = true)
  (hu : slElem P t = some (e, sz)) (hi : c = true → 0 ≤ i ∧ i < len) (hm : i.toNat = m) : Pev P n l C ⟨d, .indexAddr t x y, ty, pos, af, g⟩ c (.pointer (some ⟨b, o + m * sz, none⟩)) :=
 .of_run fun h a w hs hw => by
  obtain ⟨h1, h2⟩ := hi h
  have e : i = (m : Int) := by omega
  subst e
  simp only [execOp, hs.eval hx (hcx h), hs.eval hy (hcy h), Sem.run_bind, run_indexAt_slice hu (show m < len by omega), Result.andThen_ok, add_mid]; rfl
/-! loads -/
theorem run_loadAt {w : World} {a : Addr} {v : Value} (h : (loadVar t a).run P w = .ok v w) : (Instr.loadAt t (.pointer (some a))).run P w = .ok v w := by simp [Instr.loadAt, Instr.sureAddr, h]
theorem Pev.load_of {q : Addr} {v : Value} (hx : evl l x = some (cx, .pointer (some q))) (hcx : c = true → cx = true) (h : c = true → ∀ w, C w → (loadVar t q).run P w = .ok v w) : Pev P n l C ⟨d, .load t x, ty, pos, af, g⟩ c v :=
 .of_run fun hc a w hs hw => by simp only [execOp, hs.eval hx (hcx hc), Sem.run_bind, run_loadAt (h hc w hw), Result.andThen_ok]; rfl
theorem Cls.item {w : World} (h : Cls H S w) {i : Item} (hp : i ∈ H) : i.holds w := h.holds i hp
theorem Pev.load_blk {b o : Nat} {t' : TypeId} {cs : List Value} {v : Value} (hx : evl l x = some (cx, .pointer (some ⟨b, o, none⟩))) (hcx : c = true → cx = true)
  (hp : blk b t' cs ∈ H) (hs : scalB P t = true) (hv : cs[o]? = some v) : Pev P n l (Cls H S) ⟨d, .load t x, ty, pos, af, g⟩ c v :=
 .load_of hx hcx fun _ w hw => run_loadVar_scal hs (by rw [blk_cell (hw.item hp)]; exact hv)
theorem Pev.load_blkA {b o k : Nat} {t' : TypeId} {cs vs : List Value} (hx : evl l x = some (cx, .pointer (some ⟨b, o, none⟩))) (hcx : c = true → cx = true)
  (hp : blk b t' cs ∈ H) (hs : aggN P t = some k) (hv : Take k (cs.drop o) vs) : Pev P n l (Cls H S) ⟨d, .load t x, ty, pos, af, g⟩ c (.agg vs.toArray) :=
 .load_of hx hcx fun _ w hw => run_loadVar_agg (by rw [hv.get.1]; exact hs) fun j v hj => by
  rw [add_mid, blk_cell (hw.item hp)]
  have := hv.get.2 j v hj
  rwa [List.getElem?_drop] at this
theorem Cls.cell {w s : World} (h : Cls H S w) (hq : s ∈ S) {a : Addr} (hlt : a.block < s.heap.size) (hno : NotOwned H a.block) : w.cell? a = s.cell? a :=
 World.cell?_of_block ((h.kp s hq).block a.block hlt hno.not)
theorem Pev.load_kept {s : World} {a : Addr} {v : Value} (hx : evl l x = some (cx, .pointer (some a))) (hcx : c = true → cx = true) (hq : s ∈ S) (hs : scalB P t = true)
  (hv : c = true → s.cell? a = some v) (hlt : c = true → a.block < s.heap.size) (hno : c = true → NotOwned H a.block) : Pev P n l (Cls H S) ⟨d, .load t x, ty, pos, af, g⟩ c v :=
 .load_of hx hcx fun h w hw => run_loadVar_scal hs (by rw [hw.cell hq (hlt h) (hno h)]; exact hv h)
theorem Pev.load_keptA {s : World} {a : Addr} {vs : List Value} {k : Nat} (hx : evl l x = some (cx, .pointer (some a))) (hcx : c = true → cx = true) (hq : s ∈ S) (hs : aggN P t = some k)
  (hv : c = true → CellsAt s a vs) (hk : vs.length = k) (hlt : c = true → a.block < s.heap.size) (hno : c = true → NotOwned H a.block) : Pev P n l (Cls H S) ⟨d, .load t x, ty, pos, af, g⟩ c (.agg vs.toArray) :=
 .load_of hx hcx fun h w hw => run_loadVar_agg (by rw [hk]; exact hs) fun j v hj => by
  rw [hw.cell hq (by rw [add_block]; exact hlt h) (by rw [add_block]; exact hno h)]; exact hv h j v hj
theorem CellsAt.at_ {s : World} {a : Addr} {vs : List Value} (h : CellsAt s a vs) {j : Nat} {v : Value} (hj : vs[j]? = some v) : s.cell? (a.add j) = some v := h j v hj
/-! calls -/
inductive Args (l : Env) (c : Bool) : List Operand → List Value → Prop where
 | nil : Args l c [] []
 | cons {x : Operand} {cx : Bool} {v : Value} {xs : List Operand} {vs : List Value} (hx : evl l x = some (cx, v)) (hc : c = true → cx = true) (r : Args l c xs vs) : Args l c (x :: xs) (v :: vs)
theorem Args.au {l : Env} {c : Bool} {xs : List Operand} {vs : List Value} (h : Args l c xs vs := by (repeat (first | exact Args.nil | (apply Args.cons rfl; (first | exact fun _ => rfl | exact fun h => h | (intro h; simp_all; done))))); first | done | fail) : Args l c xs vs := h
theorem Args.map {a : Act} (hs : Sees n l a) (hc : c = true) {xs : List Operand} {vs : List Value} (h : Args l c xs vs) : xs.map a.eval = vs := by
 induction h with
 | nil => rfl
 | cons hx hcx r ih => rw [List.map_cons, hs.eval hx (hcx hc), ih]
theorem run_callFunc_body {f : FuncId} (h : callable P f = true) (args : Array Value) (w : World) : (callFunc f args).run P w = .ok (.enter f args) w := by
 unfold callable at h
 cases hf : P.funcs[f]? with
 | none => simp [hf] at h
 | some fn =>
  rw [hf] at h
  simp only [Bool.and_eq_true, Bool.not_eq_true', Option.isSome_iff_ne_none] at h
  have hb : fn.body ≠ none := h.2
  have hnm : ¬ fn.name = "runtime.NumGoroutine" := by simpa using h.1
  simp [callFunc, hf, hnm, hb]
theorem run_call {f : FuncId} {args : Array Operand} {ats : Array TypeId} {a : Act} {w : World} (h : callable P f = true) :
  (execOp a.eval ⟨d, .call { callee := .value (.func f), args := args, argTypes := ats }, ty, pos, af, g⟩).run P w = .ok (.enter f (args.map a.eval)) w := by
 simp only [execOp, resolve, Act.eval, Deferred.ofValue, invoke, Sem.run_bind, Sem.run_pure, Result.andThen_ok]
 simpa using run_callFunc_body h (args.map a.eval) w
theorem run_callv {f : FuncId} {first cap : Array Value} {args : Array Operand} {ats : Array TypeId} {a : Act} {w : World} (h : callable P f = true) (hx : a.eval x = .func (.func f) first cap) :
  (execOp a.eval ⟨d, .call { callee := .value x, args := args, argTypes := ats }, ty, pos, af, g⟩).run P w = .ok (.enter f (first ++ args.map a.eval ++ cap)) w := by
 simp only [execOp, resolve, hx, Deferred.ofValue, invoke, Sem.run_bind, Sem.run_pure, Result.andThen_ok]
 exact run_callFunc_body h _ w
theorem Pev.call {f : FuncId} {args : List Operand} {vs : List Value} {ats : Array TypeId} {v : Value} (hf : callable P f = true) (ha : Args l c args vs)
  (h : c = true → ∀ w, C w → Calls P f vs.toArray w fun e w' => e = .returned v ∧ C w') :
  Pev P n l C ⟨d, .call { callee := .value (.func f), args := args.toArray, argTypes := ats }, ty, pos, af, g⟩ c v :=
 ⟨fun hc a w hs hw => by
  rw [run_call hf]
  refine ⟨rfl, ?_⟩
  rw [List.map_toArray, ha.map hs hc]
  exact h hc w hw⟩
theorem Pev.callv {f : FuncId} {first cap : List Value} {args : List Operand} {vs : List Value} {ats : Array TypeId} {v : Value} (hx : evl l x = some (cx, .func (.func f) first.toArray cap.toArray)) (hcx : c = true → cx = true)
  (hf : callable P f = true) (ha : Args l c args vs)
  (h : c = true → ∀ w, C w → Calls P f (first ++ vs ++ cap).toArray w fun e w' => e = .returned v ∧ C w') :
  Pev P n l C ⟨d, .call { callee := .value x, args := args.toArray, argTypes := ats }, ty, pos, af, g⟩ c v :=
 ⟨fun hc a w hs hw => by
  rw [run_callv hf (hs.eval hx (hcx hc))]
  refine ⟨rfl, ?_⟩
  rw [List.map_toArray, ha.map hs hc]
  simpa using h hc w hw⟩
variable {ops : Array Oper} {rest : List Oper} {Q : Exit → Act → World → Prop}
theorem OL.call {f : FuncId} {args : List Operand} {vs : List Value} {ats : Array TypeId} {dd : Nat} (hn : Nat.ble (dd + 1) n.n = true) (hf : callable P f = true) (ha : Args l true args vs)
  (R : Value → World → Prop) (h : ∀ w, C w → Calls P f vs.toArray w fun e w' => ∃ v, e = .returned v ∧ R v w')
  (k : ∀ v, OL P n ops Q rest ((dd, true, v) :: l) (R v)) : OL P n ops Q (⟨some dd, .call { callee := .value (.func f), args := args.toArray, argTypes := ats }, ty, pos, af, none⟩ :: rest) l C := by
 have hn' := Nat.le_of_ble_eq_true hn
 refine ⟨fun a w hs hc => ?_⟩
 refine wpList_plain rfl fun K hK => ?_
 show Oper.upon P _ a K Q ((execOp a.eval _).run P w)
 rw [run_call hf]
 show Calls P f _ w _
 rw [List.map_toArray, ha.map hs rfl]
 refine (h w hc).mono fun e w' ⟨v, he, hr⟩ => ?_
 subst he
 exact hK _ _ ((k v).run _ w' (hs.put hn' true v) hr)
theorem OL.callE {α : Type} (V : α → Value) (Φ : α → Prop) (C' : α → World → Prop) {f : FuncId} {args : List Operand} {vs : List Value} {ats : Array TypeId} {dd : Nat} (hn : Nat.ble (dd + 1) n.n = true) (hf : callable P f = true) (ha : Args l true args vs)
  (h : ∀ w, C w → Calls P f vs.toArray w fun e w' => ∃ x, e = .returned (V x) ∧ Φ x ∧ C' x w')
  (k : ∀ x, Φ x → OL P n ops Q rest ((dd, true, V x) :: l) (C' x)) : OL P n ops Q (⟨some dd, .call { callee := .value (.func f), args := args.toArray, argTypes := ats }, ty, pos, af, none⟩ :: rest) l C :=
 OL.call hn hf ha (fun u w => ∃ x, u = V x ∧ Φ x ∧ C' x w) (fun w hw => (h w hw).mono fun e w' ⟨x, he, hx, hc⟩ => ⟨V x, he, x, rfl, hx, hc⟩)
  (fun u => ⟨fun a w hs hc => by obtain ⟨x, rfl, hx, hc⟩ := hc; exact (k x hx).run a w hs hc⟩)
/-! new blocks -/
theorem OL.new {o : Oper} {dd : Nat} {C' : Nat → World → Prop} (hg : o.guard = none) (hd : o.dst = some dd) (hn : Nat.ble (dd + 1) n.n = true) (V : Nat → Value)
  (hv : ∀ a w, Sees n l a → C w → ∃ b w', (execOp a.eval o).run P w = .ok (.value (V b)) w' ∧ C' b w')
  (k : ∀ b, OL P n ops Q rest ((dd, true, V b) :: l) (C' b)) : OL P n ops Q (o :: rest) l C := by
 have hn' := Nat.le_of_ble_eq_true hn
 refine ⟨fun a w hs hc => ?_⟩
 refine wpList_plain hg fun K hK => ?_
 obtain ⟨b, w', hr, hc'⟩ := hv a w hs hc
 show Oper.upon P o a K Q ((execOp a.eval o).run P w)
 rw [hr]
 show K (a.put o.dst (V b)) w'
 rw [hd]
 exact hK _ _ ((k b).run _ w' (hs.put hn' true _) hc')
theorem OL.box {e : TypeId} {dd : Nat} {v : Value} {cs : List Value} (hn : Nat.ble (dd + 1) n.n = true) (hx : evl l x = some (true, v)) (hv : CellsL v cs)
  (k : ∀ b, AllLe S b → OL P n ops Q rest ((dd, true, .pointer (some ⟨b, 0, none⟩)) :: l) (Cls (blk b e cs :: H) S)) :
  OL P n ops Q (⟨some dd, .box e x, ty, pos, af, none⟩ :: rest) l (Cls H S) :=
 OL.new (C' := fun b w => AllLe S b ∧ Cls (blk b e cs :: H) S w) rfl rfl hn (fun b => .pointer (some ⟨b, 0, none⟩))
  (fun a w hs hc => ⟨w.heap.size, w.alloc (.cells v.cells e), by simp only [execOp, hs.eval hx rfl]; rfl, AllLe.mk hc, by rw [hv.eq]; exact hc.alloc e cs⟩)
  (fun b => ⟨fun a w hs hc => (k b hc.1).run a w hs hc.2⟩)
def zeroV (P : Program) (t : TypeId) : Option Value := match P.info? t with | some i => i.zero | none => none
theorem run_zeroV {v : Value} {w : World} (h : zeroV P t = some v) : (zeroValue t).run P w = .ok v w := by
 unfold zeroV at h
 cases hi : P.info? t with
 | none => simp [hi] at h
 | some i =>
  rw [hi] at h
  simp only at h
  simp [zeroValue, typeInfo, hi, h]
theorem OL.alloc {e : TypeId} {dd : Nat} {v : Value} {cs : List Value} (hn : Nat.ble (dd + 1) n.n = true) (hz : zeroV P e = some v) (hv : CellsL v cs)
  (k : ∀ b, AllLe S b → OL P n ops Q rest ((dd, true, .pointer (some ⟨b, 0, none⟩)) :: l) (Cls (blk b e cs :: H) S)) :
  OL P n ops Q (⟨some dd, .alloc e, ty, pos, af, none⟩ :: rest) l (Cls H S) :=
 OL.new (C' := fun b w => AllLe S b ∧ Cls (blk b e cs :: H) S w) rfl rfl hn (fun b => .pointer (some ⟨b, 0, none⟩))
  (fun a w hs hc => ⟨w.heap.size, w.alloc (.cells v.cells e), by
   simp only [execOp, Instr.alloc, Sem.run_bind, run_zeroV hz, Result.andThen_ok]; rfl, AllLe.mk hc, by rw [hv.eq]; exact hc.alloc e cs⟩)
  (fun b => ⟨fun a w hs hc => (k b hc.1).run a w hs hc.2⟩)
theorem Cls.start_blk {w : World} {b : Nat} {t : TypeId} {cs : List Value} (h : (blk b t cs).holds w) : Cls [blk b t cs] [w] w where
 holds := fun i hi => by simp only [List.mem_singleton] at hi; subst hi; exact h
 lt := fun i hi k hk => by
  simp only [List.mem_singleton] at hi; subst hi
  have hk' : k = b := hk
  subst hk'
  have h' : w.heap[k]? = some (.cells cs.toArray t (0, 0)) := h
  rcases Nat.lt_or_ge k w.heap.size with hl | hl
  ·exact hl
  ·rw [Array.getElem?_eq_none hl] at h'; cases h'
 dj := List.pairwise_singleton _ _
 kp := fun s hs => by simp only [List.mem_singleton] at hs; subst hs; exact .refl _ _
theorem Cls.turn_blk {w w' : World} (h : Cls H S w) {p b : Nat} {t : TypeId} {cs cs' : List Value} {H' : List Item} (hs : Swap p H (blk b t cs) (blk b t cs') H') (hk : Keep (fun k => k = b) w w') (hh : (blk b t cs').holds w') : Cls H' S w' := by
 obtain ⟨hp, rfl⟩ := hs.eq
 refine h.turn p hp hk hh (fun q hq => ?_) (fun q hq => hq)
 have hq' : q = b := hq
 subst hq'
 exact ⟨.inl rfl, Nat.lt_of_lt_of_le (h.lt _ (List.mem_of_getElem? hp) q rfl) hk.size⟩
/-! stores into a block that is known whole -/
def oneL : List Value → Bool
 | [] => true
 | v :: r => v.oneCell' && oneL r
theorem putL_length' : ∀ (vs l : List Value) (o : Nat), (putL l o vs).length = l.length
 | [], l, o => rfl
 | v :: r, l, o => by rw [putL, putL_length']; simp
theorem run_storeCells_blk {b o : Nat} {t : TypeId} : ∀ (vs : List Value) (i : Nat) (cs : List Value) (w : World), w.heap[b]? = some (.cells cs.toArray t (0, 0)) → o + i + vs.length ≤ cs.length → oneL vs = true →
  ∃ w', (storeCells ⟨b, o, none⟩ vs i).run P w = .ok () w' ∧ w'.heap[b]? = some (.cells (putL cs (o + i) vs).toArray t (0, 0)) ∧ Keep (fun k => k = b) w w'
 | [], i, cs, w, hg, _, _ => ⟨w, rfl, hg, .refl _ _⟩
 | v :: r, i, cs, w, hg, hl, h1 => by
  simp only [oneL, Bool.and_eq_true] at h1
  simp only [List.length_cons] at hl
  have hcell : w.cell? ⟨b, o + i, none⟩ = some (cs[o + i]'(by omega)) := by simp [World.cell?, hg]
  have hfro : w.frozen? ⟨b, o + i, none⟩ = false := by simp [World.frozen?, hg]
  have hst : (store ((⟨b, o, none⟩ : Addr).add i) v).run P w = .ok () (w.setCell ⟨b, o + i, none⟩ v) := by
   rw [add_mid, run_store P w _ v _ h1.1, hcell]
   simp [hfro]
  have hg' : (w.setCell ⟨b, o + i, none⟩ v).heap[b]? = some (.cells (cs.set (o + i) v).toArray t (0, 0)) := by
   simp [World.setCell, Array.getElem?_modify, hg]
  obtain ⟨w', hr, hh, hk⟩ := run_storeCells_blk (o := o) r (i + 1) (cs.set (o + i) v) (w.setCell ⟨b, o + i, none⟩ v) hg' (by simp; omega) h1.2
  refine ⟨w', ?_, hh, ?_⟩
  ·simp only [storeCells, Sem.run_bind, hst, Result.andThen_ok, hr]
  ·exact Keep.trans (b := w.setCell ⟨b, o + i, none⟩ v) ⟨rfl, rfl, rfl, by simp [World.setCell], fun k _ hne => Below.heap_setCell _ _ _ _ (fun e => hne e)⟩ hk
theorem run_storeAt_blk {b o : Nat} {t' : TypeId} {v : Value} {k : Nat} {cs vs : List Value} {w : World} (hw : w.heap[b]? = some (.cells cs.toArray t' (0, 0))) (hs : sizeN P t = some k) (hv : v.cells = vs.toArray) (hk : vs.length = k)
  (hl : o + vs.length ≤ cs.length) (h1 : oneL vs = true) :
  ∃ w', (Instr.storeAt t (.pointer (some ⟨b, o, none⟩)) v).run P w = .ok () w' ∧ w'.heap[b]? = some (.cells (putL cs o vs).toArray t' (0, 0)) ∧ Keep (fun k => k = b) w w' := by
 obtain ⟨w', hr, hh, hkp⟩ := run_storeCells_blk (P := P) (o := o) vs 0 cs w hw (by omega) h1
 refine ⟨w', ?_, hh, hkp⟩
 have hsz : v.cells.size = k := by rw [hv]; simpa using hk
 simp only [Instr.storeAt, Instr.sureAddr, storeVar, Sem.run_bind, Sem.run_pure, Result.andThen_ok, run_sizeN hs, hsz, ne_eq, not_true, if_false]
 rw [hv]
 exact hr
theorem OL.storeL {p : Nat} {b o k : Nat} {t' : TypeId} {cs cs' vs : List Value} {v : Value} {H' : List Item} (hx : evl l x = some (true, .pointer (some ⟨b, o, none⟩))) (hy : evl l y = some (true, v)) (hv : v.cells = vs.toArray)
  (hs : sizeN P t = some k) (hk : vs.length = k) (h1 : oneL vs = true) (hcs : o + vs.length ≤ cs.length ∧ putL cs o vs = cs')
  (hH : Swap p H (blk b t' cs) (blk b t' cs') H') (kk : OL P n ops Q rest l (Cls H' S)) : OL P n ops Q (⟨none, .store t x y, ty, pos, af, none⟩ :: rest) l (Cls H S) := by
 obtain ⟨hl, rfl⟩ := hcs
 obtain ⟨hp, rfl⟩ := hH.eq
 refine OL.store_ (C' := Cls (H.set p (blk b t' (putL cs o vs))) S) rfl rfl (fun a w hs' hc => ?_) kk
 obtain ⟨w', hr, hh, hkp⟩ := run_storeAt_blk (P := P) (hc.item (List.mem_of_getElem? hp)) hs hv hk hl h1
 refine ⟨w', ?_, hc.turn p hp (j := blk b t' (putL cs o vs)) hkp hh (fun q hq => ?_) (fun q hq => hq)⟩
 ·simp only [execOp, hs'.eval hx rfl, hs'.eval hy rfl, Sem.run_bind, hr, Result.andThen_ok]; rfl
 ·have hq' : q = b := hq
  subst hq'
  exact ⟨.inl rfl, Nat.lt_of_lt_of_le (hc.lt _ (List.mem_of_getElem? hp) q rfl) hkp.size⟩
theorem OL.storeB {p : Nat} {b o k : Nat} {t' : TypeId} {cs cs' vs : List Value} {v : Value} {H' : List Item} (hx : evl l x = some (true, .pointer (some ⟨b, o, none⟩))) (hy : evl l y = some (true, v)) (hv : CellsL v vs)
  (hs : sizeN P t = some k) (hk : vs.length = k) (h1 : oneL vs = true) (hH : Swap p H (blk b t' cs) (blk b t' cs') H') (hcs : Put cs o vs cs')
  (kk : OL P n ops Q rest l (Cls H' S)) : OL P n ops Q (⟨none, .store t x y, ty, pos, af, none⟩ :: rest) l (Cls H S) :=
 OL.storeL hx hy hv.eq hs hk h1 hcs.eq hH kk
/-! literals -/
theorem fold_put (off : Nat) : ∀ (c : List Value) (j : Nat) (cells : Array Value),
  ((c.zipIdx j).foldl (fun (cs : Array Value) (x : Value × Nat) => cs.setIfInBounds (off + x.2) x.1) cells) = (putL cells.toList (off + j) c).toArray
 | [], _, _ => rfl
 | v :: c, j, cells => by
  rw [List.zipIdx_cons, List.foldl_cons, fold_put off c (j + 1), putL]
  congr 1
  simp [Nat.add_assoc]
theorem fold_put_array (off : Nat) (c : List Value) (cells : Array Value) :
  (c.toArray.zipIdx.foldl (fun (cs : Array Value) (x : Value × Nat) => cs.setIfInBounds (off + x.2) x.1) cells) = (putL cells.toList off c).toArray := by
 rw [← Array.foldl_toList]
 have := fold_put off c 0 cells
 simpa using this
inductive Fill (l : Env) (place : Nat → Option (Nat × Nat)) : List Value → List (Nat × Operand) → List Value → Prop where
 | nil {cs : List Value} : Fill l place cs [] cs
 | cons {cs cs' cs'' vs : List Value} {i off sz : Nat} {x : Operand} {v : Value} {ps : List (Nat × Operand)} (hx : evl l x = some (true, v)) (hv : CellsL v vs) (hp : place i = some (off, sz)) (hs : vs.length = sz)
   (hput : Put cs off vs cs') (r : Fill l place cs' ps cs'') : Fill l place cs ((i, x) :: ps) cs''
theorem Fill.au {l : Env} {place : Nat → Option (Nat × Nat)} {cs cs' : List Value} {ps : List (Nat × Operand)} (h : Fill l place cs ps cs' := by (repeat (first | exact Fill.nil | (apply Fill.cons rfl; (first | exact CellsL.one rfl | exact CellsL.agg); rfl; rfl; exact Put.au))); first | done | fail) : Fill l place cs ps cs' := h
theorem Fill.run {a : Act} (hs : Sees n l a) {place : Nat → Option (Nat × Nat)} {cs cs' : List Value} {ps : List (Nat × Operand)} (h : Fill l place cs ps cs') :
  Instr.fill place cs.toArray (ps.map fun p => (p.1, a.eval p.2)) = some cs'.toArray := by
 induction h with
 | nil => rfl
 | @cons cs cs' cs'' vs i off sz x v ps hx hv hp hsz hput r ih =>
  simp only [List.map_cons, Instr.fill, hp, hs.eval hx rfl, hv.eq]
  rw [if_neg (by
   have := hput.eq.1
   simp [hsz]; omega)]
  rw [fold_put_array]
  simp only [hput.eq.2]
  exact ih
def structPlaces (P : Program) (t : TypeId) (i : Nat) : Option (Nat × Nat) := match P.underlying t with
 | some (.struct fs) => match fs[i]? with
  | some f => match sizeN P f.type with
   | some k => match lit f.offset with
    | some o => some (o, k)
    | none => none
   | none => none
  | none => none
 | _ => none
theorem mapM_places {w : World} : ∀ (fs : List Field), (∀ f ∈ fs, (sizeN P f.type).isSome = true) →
  ((fs.mapM fun f => do pure (f.offset, ← sizeOf f.type) : Sem (List (Nat × Nat))).run P w) = .ok (fs.map fun f => (f.offset, (sizeN P f.type).getD 0)) w
 | [], _ => rfl
 | f :: fs, h => by
  have h0 := h f (.head _)
  cases hz : sizeN P f.type with
  | none => simp [hz] at h0
  | some k =>
   have ih := mapM_places (w := w) fs (fun g hg => h g (.tail _ hg))
   simp only [List.mapM_cons, Sem.run_bind, run_sizeN hz, Result.andThen_ok, Sem.run_pure, ih, List.map_cons, hz, Option.getD_some]
def sizedB (P : Program) (t : TypeId) : Bool := match P.underlying t with | some (.struct fs) => fs.toList.all fun f => (sizeN P f.type).isSome && (lit f.offset).isSome | _ => false
theorem Pev.build {parts : List (Nat × Operand)} {z : Value} {cs cs' : List Value} (hz : zeroV P t = some z) (hcs : CellsL z cs) (hb : sizedB P t = true) (hf : Fill l (structPlaces P t) cs parts cs') (hc : c = true) :
  Pev P n l C ⟨d, .build t parts.toArray, ty, pos, af, g⟩ c (.agg cs'.toArray) :=
 .of_run fun h a w hs hw => by
  unfold sizedB at hb
  cases hu : P.underlying t with
  | none => simp [hu] at hb
  | some dd =>
   rw [hu] at hb
   cases dd <;> simp only [Bool.false_eq_true] at hb
   rename_i fs
   have hb2 : ∀ f ∈ fs.toList, (sizeN P f.type).isSome = true ∧ (lit f.offset).isSome = true := fun f hf => by simpa using List.all_eq_true.1 hb f hf
   have hb' : ∀ f ∈ fs.toList, (sizeN P f.type).isSome = true := fun f hf => (hb2 f hf).1
   have hm := mapM_places (P := P) (w := w) fs.toList hb'
   have hrun := hf.run hs
   have hpl : (fun i => (fs.map fun f => (f.offset, (sizeN P f.type).getD 0))[i]?) = structPlaces P t := by
    funext i
    unfold structPlaces
    rw [hu]
    simp only [Array.getElem?_map]
    cases hi : fs[i]? with
    | none => rfl
    | some f =>
     have h1 := hb' f (by simpa using Array.mem_of_getElem? hi)
     have h2 := (hb2 f (by simpa using Array.mem_of_getElem? hi)).2
     cases hz : sizeN P f.type with
     | none => simp [hz] at h1
     | some k =>
      cases ho : lit f.offset with
      | none => simp [ho] at h2
      | some o =>
       simp only [Option.map_some, hz, ho, Option.getD_some]
       rw [lit_eq ho]
   have hm2 : (fs.mapM fun f => do pure (f.offset, ← sizeOf f.type) : Sem (Array (Nat × Nat))).run P w = .ok (fs.map fun f => (f.offset, (sizeN P f.type).getD 0)) w := by
    rw [Array.mapM_eq_mapM_toList, Sem.run_map, hm]
    simp only [Result.andThen_ok]
    congr 1
    rw [← Array.toList_map]
   simp only [execOp, Instr.build, Sem.run_bind, run_zeroV hz, Result.andThen_ok, run_underlying hu, hm2, hcs.eq]
   have hparts : (parts.toArray.map fun p => (p.1, a.eval p.2)).toList = parts.map fun p => (p.1, a.eval p.2) := by simp
   rw [hparts, hpl, hrun]
   rfl
inductive App : List Value → List Value → List Value → Prop where
 | nil {l : List Value} : App [] l l
 | cons {x : Value} {c l r : List Value} (h : App c l r) : App (x :: c) l (x :: r)
theorem App.au {c l r : List Value} (h : App c l r := by (repeat (first | apply App.nil | apply App.cons)); first | done | fail) : App c l r := h
theorem App.eq {c l r : List Value} (h : App c l r) : c ++ l = r := by
 induction h with
 | nil => rfl
 | cons _ ih => rw [List.cons_append, ih]
inductive Elems (l : Env) (sz : Nat) : Nat → List (Nat × Operand) → List Value → Prop where
 | nil {i : Nat} : Elems l sz i [] []
 | cons {i : Nat} {x : Operand} {v : Value} {vs cs cs' : List Value} {ps : List (Nat × Operand)} (hx : evl l x = some (true, v)) (hv : CellsL v vs) (hs : vs.length = sz) (r : Elems l sz (i + 1) ps cs) (ha : App vs cs cs') :
   Elems l sz i ((i, x) :: ps) cs'
theorem Elems.au {l : Env} {sz i : Nat} {ps : List (Nat × Operand)} {cs : List Value} (h : Elems l sz i ps cs := by (repeat (first | exact Elems.nil | (apply Elems.cons rfl; (first | exact CellsL.one rfl | exact CellsL.agg); rfl) | exact App.au)); first | done | fail) : Elems l sz i ps cs := h
theorem putL_eq : ∀ (vs l : List Value) (o : Nat), o + vs.length ≤ l.length → putL l o vs = l.take o ++ vs ++ l.drop (o + vs.length)
 | [], l, o, _ => by simp [putL]
 | v :: vs, l, o, h => by
  simp only [List.length_cons] at h
  rw [putL, putL_eq vs _ _ (by simp; omega)]
  have ho : o < l.length := by omega
  rw [List.take_set, List.drop_set]
  simp only [List.length_cons]
  rw [show (if o < o + 1 + vs.length then List.drop (o + 1 + vs.length) l else (List.drop (o + 1 + vs.length) l).set (o - (o + 1 + vs.length)) v) = List.drop (o + (vs.length + 1)) l from by rw [if_pos (by omega)]; congr 1; omega]
  have : (List.take (o + 1) l).set o v = List.take o l ++ [v] := by
   rw [List.take_succ_eq_append_getElem ho, List.set_append_right _ _ (by simp; omega)]
   simp [Nat.min_eq_left (Nat.le_of_lt ho)]
  rw [this]
  simp
theorem Elems.run {a : Act} (hs : Sees n l a) {sz : Nat} {i : Nat} {ps : List (Nat × Operand)} {cs : List Value} (h : Elems l sz i ps cs) :
  ∀ (cells : Array Value), cells.size = (i + ps.length) * sz →
  Instr.fill (fun j => some (j * sz, sz)) cells (ps.map fun p => (p.1, a.eval p.2)) = some (cells.toList.take (i * sz) ++ cs).toArray := by
 induction h with
 | @nil i =>
  intro cells hc
  simp only [List.length_nil, Nat.add_zero] at hc
  rw [← hc, List.take_of_length_le (by simp)]
  simp [Instr.fill]
 | @cons i x v vs cs cs' ps hx hv hsz r ha ih =>
  intro cells hc
  obtain rfl := ha.eq
  simp only [List.length_cons] at hc
  have hle : i * sz + sz ≤ cells.size := by
   rw [hc, ← Nat.succ_mul]
   exact Nat.mul_le_mul_right _ (by omega)
  simp only [List.map_cons, Instr.fill, hs.eval hx rfl, hv.eq]
  rw [if_neg (by simp [hsz]; omega), fold_put_array]
  rw [ih _ (by rw [List.size_toArray, putL_length', Array.length_toList, hc]; congr 1; omega)]
  congr 2
  rw [putL_eq _ _ _ (by simp [hsz]; omega)]
  simp only [hsz]
  have e1 : (cells.toList.take (i * sz)).length = i * sz := by simp; omega
  rw [show (i + 1) * sz = i * sz + sz from by rw [Nat.succ_mul]]
  rw [List.take_append_of_le_length (by simp [hsz]; omega), List.take_append]
  simp [hsz, Nat.min_eq_left (show i * sz ≤ cells.size by omega), List.take_of_length_le]
theorem range_map_size {m : Nat} {f : Nat → Value} : ((Array.range m).map f).size = m := by simp
theorem OL.buildSlice {e : TypeId} {sz len dd : Nat} {parts : List (Nat × Operand)} {cs : List Value} (hn : Nat.ble (dd + 1) n.n = true) (hu : slElem P t = some (e, sz)) (hz : (zeroV P e).isSome = true)
  (hp : Elems l sz 0 parts cs) (hlen : parts.length = len) (hl : Nat.ble (len * sz) 16777216 = true)
  (k : ∀ b, AllLe S b → OL P n ops Q rest ((dd, true, .slice (some ⟨b, 0, none⟩) len len) :: l) (Cls (blk b e cs :: H) S)) :
  OL P n ops Q (⟨some dd, .buildSlice t len parts.toArray, ty, pos, af, none⟩ :: rest) l (Cls H S) :=
 OL.new (C' := fun b w => AllLe S b ∧ Cls (blk b e cs :: H) S w) rfl rfl hn (fun b => .slice (some ⟨b, 0, none⟩) len len)
  (fun a w hs hc => ⟨w.heap.size, w.alloc (.cells cs.toArray e), by
   unfold slElem at hu
   cases h1 : P.underlying t with
   | none => simp [h1] at hu
   | some d1 =>
    rw [h1] at hu
    cases d1 <;> simp only [reduceCtorEq] at hu
    rename_i e'
    cases h2 : sizeN P e' with
    | none => simp [h2] at hu
    | some k' =>
     rw [h2] at hu
     simp only [Option.some.injEq, Prod.mk.injEq] at hu
     obtain ⟨rfl, rfl⟩ := hu
     cases hzz : zeroV P e' with
     | none => simp [hzz] at hz
     | some z =>
      have hle := Nat.le_of_ble_eq_true hl
      have hparts : (parts.toArray.map fun p => (p.1, a.eval p.2)).toList = parts.map fun p => (p.1, a.eval p.2) := by simp
      have hfill := fun (cells : Array Value) (hc : cells.size = len * k') => hp.run hs cells (by rw [hlen, Nat.zero_add]; exact hc)
      simp only [execOp, Instr.buildSlice, Sem.run_bind, run_underlying h1, run_sizeN h2, Result.andThen_ok]
      rw [if_neg (by omega)]
      by_cases h0 : len * k' = 0
      ·simp only [h0, if_true, Sem.run_pure, Sem.run_bind, Result.andThen_ok, hparts]
       rw [hfill _ (by rw [range_map_size, h0])]
       simp [newRow]
      ·simp only [h0, if_false, Sem.run_bind, run_zeroV hzz, Sem.run_pure, Result.andThen_ok, hparts]
       rw [hfill _ range_map_size]
       simp [newRow], AllLe.mk hc, hc.alloc e cs⟩)
  (fun b => ⟨fun a w hs hc => (k b hc.1).run a w hs hc.2⟩)
/-! short forms -/
theorem yes {p : Prop} : p → true = true := fun _ => rfl
section
variable {dd : Nat} {v u r : Value} {K : Act → Prop}
theorem omv (hn : Nat.ble (dd + 1) n.n = true) (hx : evl l x = some (true, v)) (k : OL P n ops Q rest ((dd, true, v) :: l) C) : OL P n ops Q (⟨some dd, .move x, ty, pos, af, none⟩ :: rest) l C := OL.op Guard.none rfl hn (Pev.move hx yes) k
theorem oas (hn : Nat.ble (dd + 1) n.n = true) (hx : evl l x = some (true, v)) (k : OL P n ops Q rest ((dd, true, v) :: l) C) : OL P n ops Q (⟨some dd, .assign x, ty, pos, af, none⟩ :: rest) l C := OL.op Guard.none rfl hn (Pev.assign hx yes) k
theorem obn {op : BinOp} {yt : TypeId} (hn : Nat.ble (dd + 1) n.n = true) (hx : evl l x = some (true, u)) (hy : evl l y = some (true, v)) (hb : Bin P op t u v r) (k : OL P n ops Q rest ((dd, true, r) :: l) C) : OL P n ops Q (⟨some dd, .binOp op t x y yt, ty, pos, af, none⟩ :: rest) l C := OL.op Guard.none rfl hn (Pev.bin hx (fun _ => rfl) hy (fun _ => rfl) (fun _ => hb)) k
theorem ofa {i off b o : Nat} (hn : Nat.ble (dd + 1) n.n = true) (hx : evl l x = some (true, .pointer (some ⟨b, o, none⟩))) (hf : fldAt P t i = some off) (k : OL P n ops Q rest ((dd, true, .pointer (some ⟨b, o + off, none⟩)) :: l) C) : OL P n ops Q (⟨some dd, .fieldAddr t x i, ty, pos, af, none⟩ :: rest) l C := OL.op Guard.none rfl hn (Pev.fld hx (fun _ => rfl) hf) k
theorem old {b o : Nat} {t' : TypeId} {cs : List Value} (hn : Nat.ble (dd + 1) n.n = true) (hx : evl l x = some (true, .pointer (some ⟨b, o, none⟩))) (hp : blk b t' cs ∈ H) (hs : scalB P t = true) (hv : cs[o]? = some v) (k : OL P n ops Q rest ((dd, true, v) :: l) (Cls H S)) : OL P n ops Q (⟨some dd, .load t x, ty, pos, af, none⟩ :: rest) l (Cls H S) := OL.op Guard.none rfl hn (Pev.load_blk hx (fun _ => rfl) hp hs hv) k
theorem oex {vs : List Value} {i : Nat} (hn : Nat.ble (dd + 1) n.n = true) (hx : evl l x = some (true, .tuple vs.toArray)) (hv : vs[i]? = some v) (k : OL P n ops Q rest ((dd, true, v) :: l) C) : OL P n ops Q (⟨some dd, .extract x i, ty, pos, af, none⟩ :: rest) l C := OL.op Guard.none rfl hn (Pev.extract hx (fun _ => rfl) hv) k
theorem qmv (hn : Nat.ble (dd + 1) n.n = true) (hx : evl l x = some (true, v)) (k : QL P n ops C K rest ((dd, true, v) :: l)) : QL P n ops C K (⟨some dd, .move x, ty, pos, af, none⟩ :: rest) l := QL.op Guard.none rfl hn (Pev.move hx yes) k
theorem qas (hn : Nat.ble (dd + 1) n.n = true) (hx : evl l x = some (true, v)) (k : QL P n ops C K rest ((dd, true, v) :: l)) : QL P n ops C K (⟨some dd, .assign x, ty, pos, af, none⟩ :: rest) l := QL.op Guard.none rfl hn (Pev.assign hx yes) k
theorem qbn {op : BinOp} {yt : TypeId} (hn : Nat.ble (dd + 1) n.n = true) (hx : evl l x = some (true, u)) (hy : evl l y = some (true, v)) (hb : Bin P op t u v r) (k : QL P n ops C K rest ((dd, true, r) :: l)) : QL P n ops C K (⟨some dd, .binOp op t x y yt, ty, pos, af, none⟩ :: rest) l := QL.op Guard.none rfl hn (Pev.bin hx (fun _ => rfl) hy (fun _ => rfl) (fun _ => hb)) k
theorem qfa {i off b o : Nat} (hn : Nat.ble (dd + 1) n.n = true) (hx : evl l x = some (true, .pointer (some ⟨b, o, none⟩))) (hf : fldAt P t i = some off) (k : QL P n ops C K rest ((dd, true, .pointer (some ⟨b, o + off, none⟩)) :: l)) : QL P n ops C K (⟨some dd, .fieldAddr t x i, ty, pos, af, none⟩ :: rest) l := QL.op Guard.none rfl hn (Pev.fld hx (fun _ => rfl) hf) k
theorem qld {b o : Nat} {t' : TypeId} {cs : List Value} (hn : Nat.ble (dd + 1) n.n = true) (hx : evl l x = some (true, .pointer (some ⟨b, o, none⟩))) (hp : blk b t' cs ∈ H) (hs : scalB P t = true) (hv : cs[o]? = some v) (k : QL P n ops (Cls H S) K rest ((dd, true, v) :: l)) : QL P n ops (Cls H S) K (⟨some dd, .load t x, ty, pos, af, none⟩ :: rest) l := QL.op Guard.none rfl hn (Pev.load_blk hx (fun _ => rfl) hp hs hv) k
end
end
end Go.Eng

/- Types as trees: how a value of type api.Type lies in memory. General. No condition. -/
namespace Go.Eng
open Go.RowKit
def I64 (x : Int) : Prop := -9223372036854775808 ≤ x ∧ x ≤ 9223372036854775807
inductive Ty where
 | mk (kind : Int) (name : ByteArray) (var : Int) (args : List Ty)
def Ty.kind : Ty → Int | .mk k _ _ _ => k
def Ty.name : Ty → ByteArray | .mk _ n _ _ => n
def Ty.var : Ty → Int | .mk _ _ v _ => v
def Ty.args : Ty → List Ty | .mk _ _ _ a => a
mutual
def Ty.sz : Ty → Nat
 | .mk _ _ _ «as» => Ty.szs «as» + 1
def Ty.szs : List Ty → Nat
 | [] => 0
 | t :: r => Ty.sz t + Ty.szs r
end
theorem Ty.sz_get : ∀ {«as» : List Ty} {i : Nat} {t : Ty}, «as»[i]? = some t → t.sz ≤ Ty.szs «as»
 | [], _, _, h => by simp at h
 | u :: r, 0, t, h => by simp at h; subst h; simp only [Ty.szs]; omega
 | u :: r, i + 1, t, h => by have := Ty.sz_get («as» := r) (i := i) (t := t) (by simpa using h); simp only [Ty.szs]; omega
mutual
/-- the four cells of a type; what they lead to lies below block B -/
def TyC (s : World) (B : Nat) : Ty → List Value → Prop
 | .mk k nm v «as», cs => ∃ (q : Option Addr) (cap : Nat), cs = [.int .i64 k, .string nm, .int .i64 v, .slice q «as».length cap] ∧ I64 k ∧ I64 v ∧ ((«as».length : Int) ≤ 9223372036854775807 ∧ «as».length ≤ cap) ∧
   (0 < «as».length → ∃ a, q = some a ∧ a.block < B ∧ TyAll s B «as» a)
def TyAll (s : World) (B : Nat) : List Ty → Addr → Prop
 | [], _ => True
 | t :: r, a => (∃ cs, CellsAt s a cs ∧ TyC s B t cs) ∧ TyAll s B r (a.add 4)
end
theorem TyAll.get {s : World} {B : Nat} : ∀ {«as» : List Ty} {a : Addr} {i : Nat} {t : Ty}, TyAll s B «as» a → «as»[i]? = some t → ∃ cs, CellsAt s (a.add (i * 4)) cs ∧ TyC s B t cs
 | [], _, _, _, _, h => by simp at h
 | u :: r, a, 0, t, h, hi => by
  simp only [TyAll] at h
  simp at hi; subst hi
  obtain ⟨cs, h1, h2⟩ := h.1
  exact ⟨cs, h1, h2⟩
 | u :: r, a, i + 1, t, h, hi => by
  simp only [TyAll] at h
  obtain ⟨cs, h1, h2⟩ := TyAll.get (i := i) h.2 (by simpa using hi)
  rw [add_add] at h1
  exact ⟨cs, by rwa [show 4 + i * 4 = (i + 1) * 4 from by omega] at h1, h2⟩
theorem CellsAt.keep {s s' : World} {a : Addr} {cs : List Value} {B : Nat} (hk : ∀ p : Addr, p.block < B → s'.cell? p = s.cell? p) (hb : a.block < B) (h : CellsAt s a cs) : CellsAt s' a cs :=
 fun j v hj => by rw [hk _ (by rw [add_block]; exact hb)]; exact h j v hj
mutual
theorem TyC.keep {s s' : World} {B B' : Nat} (hk : ∀ p : Addr, p.block < B → s'.cell? p = s.cell? p) (hB : B ≤ B') : ∀ {t : Ty} {cs : List Value}, TyC s B t cs → TyC s' B' t cs
 | .mk k nm v «as», cs, h => by
  simp only [TyC] at h ⊢
  obtain ⟨q, cap, h1, h2, h3, h5, h4⟩ := h
  refine ⟨q, cap, h1, h2, h3, h5, fun hl => ?_⟩
  obtain ⟨a, ha, hb, hall⟩ := h4 hl
  exact ⟨a, ha, by omega, TyAll.keep hk hB hb hall⟩
theorem TyAll.keep {s s' : World} {B B' : Nat} (hk : ∀ p : Addr, p.block < B → s'.cell? p = s.cell? p) (hB : B ≤ B') : ∀ {«as» : List Ty} {a : Addr}, a.block < B → TyAll s B «as» a → TyAll s' B' «as» a
 | [], _, _, _ => by simp only [TyAll]
 | t :: r, a, hb, h => by
  simp only [TyAll] at h ⊢
  obtain ⟨⟨cs, h1, h2⟩, h3⟩ := h
  exact ⟨⟨cs, h1.keep hk hb, TyC.keep hk hB h2⟩, TyAll.keep hk hB (by rw [add_block]; exact hb) h3⟩
end
theorem TyC.len {s : World} {B : Nat} {t : Ty} {cs : List Value} (h : TyC s B t cs) : cs.length = 4 := by
 cases t
 simp only [TyC] at h
 obtain ⟨q, cap, rfl, _⟩ := h
 rfl
theorem Cls.below {H : List Item} {S : List World} {w s : World} (h : Cls H S w) (hs : s ∈ S) {B : Nat} (hB : B ≤ s.heap.size) (hno : ∀ k, k < B → NotOwned H k) : ∀ p : Addr, p.block < B → w.cell? p = s.cell? p :=
 fun p hp => h.cell hs (by omega) (hno _ hp)
inductive Thin (S : List World) : List Item → List Item → Prop where
 | nil : Thin S [] []
 | keep {i : Item} {H H' : List Item} (h : Thin S H H') : Thin S (i :: H) (i :: H')
 | blk {b : Nat} {t : TypeId} {c : List Value} {H H' : List Item} (hb : AllLe S b) (h : Thin S H H') : Thin S (blk b t c :: H) H'
 | any {i : Item} {H H' : List Item} (hb : ∀ k, i.own k → AllLe S k) (h : Thin S H H') : Thin S (i :: H) H'
theorem Thin.au {S : List World} {H H' : List Item} (h : Thin S H H' := by (repeat (first | exact Thin.nil | exact Thin.same | apply Thin.keep | (refine Thin.blk (by assumption) ?_) | (refine Thin.blk (by simp only [AllLe, and_true]; omega) ?_))); first | done | fail) : Thin S H H' := h
theorem AllLe.mem {S : List World} {k : Nat} (h : AllLe S k) : ∀ s ∈ S, s.heap.size ≤ k := by
 induction S with
 | nil => intro s hs; cases hs
 | cons x S ih =>
  intro s hs
  cases hs with
  | head => exact h.1
  | tail _ hs => exact ih h.2 s hs
theorem Thin.spec {S : List World} {H H' : List Item} (h : Thin S H H') : H'.Sublist H ∧ ∀ i ∈ H, i ∈ H' ∨ ∀ k, i.own k → AllLe S k := by
 induction h with
 | nil => exact ⟨.slnil, fun i hi => by cases hi⟩
 | @keep i H H' h ih =>
  refine ⟨ih.1.cons_cons _, fun j hj => ?_⟩
  cases hj with
  | head => exact .inl (.head _)
  | tail _ hj => exact (ih.2 j hj).imp (.tail _) id
 | @blk b t c H H' hb h ih =>
  refine ⟨ih.1.cons _, fun j hj => ?_⟩
  cases hj with
  | head => exact .inr fun k hk => by have hk' : k = b := hk; subst hk'; exact hb
  | tail _ hj => exact ih.2 j hj
 | @any i H H' hb h ih =>
  refine ⟨ih.1.cons _, fun j hj => ?_⟩
  cases hj with
  | head => exact .inr hb
  | tail _ hj => exact ih.2 j hj
theorem Cls.thin {H H' : List Item} {S : List World} {w : World} (h : Cls H S w) (ht : Thin S H H') : Cls H' S w := by
 obtain ⟨hs, hd⟩ := ht.spec
 refine ⟨fun i hi => h.holds i (hs.subset hi), fun i hi => h.lt i (hs.subset hi), h.dj.sublist hs, fun s hms => ?_⟩
 have hk := h.kp s hms
 refine ⟨hk.os, hk.tape, hk.output, hk.size, fun k hks hno => hk.block k hks ?_⟩
 rintro ⟨i, hi, hik⟩
 rcases hd i hi with h1 | h1
 ·exact hno ⟨i, h1, hik⟩
 ·have := (h1 k hik).mem s hms; omega
theorem Cls.toExt {H : List Item} {S : List World} {w s : World} (h : Cls H S w) (hs : s ∈ S) (hno : ∀ k, k < s.heap.size → NotOwned H k) : Ext s w :=
 (h.kp s hs).mono fun k hk ho => (hno k hk).not ho
theorem Cls.toKeep {O : Nat → Prop} {H : List Item} {S : List World} {w s : World} (h : Cls H S w) (hs : s ∈ S) (hno : ∀ k, k < s.heap.size → ¬ O k → NotOwned H k) : Keep O s w :=
 ⟨(h.kp s hs).os, (h.kp s hs).tape, (h.kp s hs).output, (h.kp s hs).size, fun k hk ho => (h.kp s hs).block k hk (hno k hk ho).not⟩
theorem Cls.fr {H : List Item} {S : List World} {w s : World} (h : Cls H S w) (hs : s ∈ S := by exact mau) (hno : ∀ k, k < s.heap.size → NotOwned H k := by exact fun k hk => NotOwned.au) : Ext s w := h.toExt hs hno
end Go.Eng

/- Rows that a function grows by append: an item for the slice with its cells and the blocks that it has owned. General. No condition. -/
namespace Go.Eng
open Go.RowKit
theorem ownsRow_stab {w w' : World} {base n size : Nat} {e : TypeId} {v : Value} {xs : List Value} (hk : ∀ k, v.ownBlock = some k → w'.heap[k]? = w.heap[k]?) (h : w.ownsRow base e size v n xs) : w'.ownsRow base e size v n xs := by
 refine ⟨h.1, ?_⟩
 rcases h.2 with h2 | ⟨g, cap, cur, rfl, hb, hg, hr⟩
 ·exact .inl h2
 ·exact .inr ⟨g, cap, cur, rfl, hb, by rw [hk g rfl]; exact hg, hr⟩
def row (base : Nat) (O : Nat → Prop) (q : Option Addr) (n cap : Nat) (e : TypeId) (size : Nat) (xs : List Value) : Item :=
 ⟨fun k => base ≤ k ∧ O k, fun w => (∀ a, q = some a → O a.block) ∧ w.ownsRow base e size (.slice q n cap) n xs, fun w w' hk h => ⟨h.1, by
  refine ownsRow_stab (fun k hk' => ?_) h.2
  cases q with
  | none => simp [Value.ownBlock] at hk'
  | some a =>
   simp only [Value.ownBlock, Option.some.injEq] at hk'
   subst hk'
   rcases h.2.2 with ⟨h3, _⟩ | ⟨g, cap', cur, h3, hb, _⟩
   ·cases h3
   ·simp only [Value.slice.injEq, Option.some.injEq] at h3
    obtain ⟨rfl, _⟩ := h3
    exact hk _ ⟨hb, h.1 _ rfl⟩⟩⟩
section
variable {P : Program} {n : Nm} {l : Env} {H : List Item} {S : List World} {C : World → Prop} {c : Bool} {d : Option Nat} {ty : TypeId} {pos : String} {af : Array Edge} {g : Option (Nat × Bool)}
variable {ops : Array Oper} {rest : List Oper} {Q : Exit → Act → World → Prop}
variable {t : TypeId} {x y z : Operand} {cx cy cz : Bool}
theorem NotOwned.row {base m cap size k : Nat} {O : Nat → Prop} {q : Option Addr} {e : TypeId} {xs : List Value} (h : k < base) (r : NotOwned H k) : NotOwned (Eng.row base O q m cap e size xs :: H) k :=
 NotOwned.any (fun ho => Nat.not_le_of_lt h ho.1) r
theorem Cls.row_nil {w : World} (h : Cls H S w) (base : Nat) (e : TypeId) (size : Nat) : Cls (row base (fun _ => False) none 0 0 e size [] :: H) S w :=
 h.add (Keep.refl _ w) _ ⟨fun a ha => (by cases ha), World.ownsRow_nil w base e size⟩ (fun k hk => hk.2.elim)
theorem row_cell {w : World} {base m cap size o g0 : Nat} {O : Nat → Prop} {e : TypeId} {xs : List Value} {v : Value} (h : (row base O (some ⟨g0, 0, none⟩) m cap e size xs).holds w) (hv : xs[o]? = some v) : w.cell? ⟨g0, o, none⟩ = some v := by
 rcases h.2.2 with ⟨h3, _⟩ | ⟨g, cap', cur, h3, hb, hg, h4, h5, h6, h7⟩
 ·cases h3
 ·simp only [Value.slice.injEq, Option.some.injEq, Addr.mk.injEq] at h3
  obtain ⟨⟨rfl, _⟩, _⟩ := h3
  have : cur[o]? = some v := by
   rw [← h7] at hv
   have hl := (List.getElem?_eq_some_iff.1 hv).1
   rw [List.length_take] at hl
   rw [List.getElem?_take_of_lt (by omega)] at hv
   simpa using hv
  simp [World.cell?, hg, this]
theorem OL.newT {α : Type} {o : Oper} {dd : Nat} {C' : α → World → Prop} (hg : o.guard = none) (hd : o.dst = some dd) (hn : Nat.ble (dd + 1) n.n = true) (V : α → Value)
  (hv : ∀ a w, Sees n l a → C w → ∃ b w', (execOp a.eval o).run P w = .ok (.value (V b)) w' ∧ C' b w')
  (k : ∀ b, OL P n ops Q rest ((dd, true, V b) :: l) (C' b)) : OL P n ops Q (o :: rest) l C := by
 have hn' := Nat.le_of_ble_eq_true hn
 refine ⟨fun a w hs hc => ?_⟩
 refine wpList_plain hg fun K hK => ?_
 obtain ⟨b, w', hr, hc'⟩ := hv a w hs hc
 show Oper.upon P o a K Q ((execOp a.eval o).run P w)
 rw [hr]
 show K (a.put o.dst (V b)) w'
 rw [hd]
 exact hK _ _ ((k b).run _ w' (hs.put hn' true _) hc')
def rowElem (P : Program) (t : TypeId) : Option (TypeId × Nat × Nat) := match P.underlying t with
 | some (.slice e) => match P.info? e with
  | some i => match i.zero with
   | some z => match Nat.beq z.cells.size i.size && !Nat.beq i.size 0 with
    | true => match lit i.size, lit i.bytes with
     | some a, some b => some (e, a, b)
     | _, _ => none
    | false => none
   | none => none
  | none => none
 | _ => none
theorem oneL_mem : ∀ {vs : List Value}, oneL vs = true → ∀ u ∈ vs, u.oneCell' = true
 | [], _, u, hu => by cases hu
 | v :: r, h, u, hu => by
  simp only [oneL, Bool.and_eq_true] at h
  rcases List.mem_cons.1 hu with rfl | hu
  ·exact h.1
  ·exact oneL_mem h.2 u hu
theorem rowElem_spec {t e : TypeId} {sz by' : Nat} (h : rowElem P t = some (e, sz, by')) : ∃ i z, P.underlying t = some (.slice e) ∧ P.info? e = some i ∧ i.zero = some z ∧ i.size = sz ∧ i.bytes = by' ∧ z.cells.size = sz ∧ 0 < sz := by
 unfold rowElem at h
 split at h
 ·rename_i e' he
  split at h
  ·rename_i i hi
   split at h
   ·rename_i z hz
    split at h
    ·rename_i hb
     split at h
     ·rename_i a b ha hb'
      simp only [Option.some.injEq, Prod.mk.injEq] at h
      obtain ⟨rfl, rfl, rfl⟩ := h
      simp only [Bool.and_eq_true, Nat.beq_eq, Bool.not_eq_true'] at hb
      have h1 := lit_eq ha
      have h2 := lit_eq hb'
      refine ⟨i, z, he, hi, hz, h1, h2, by rw [hb.1, h1], ?_⟩
      rw [← h1]
      rcases Nat.eq_zero_or_pos i.size with h0 | h0
      ·rw [h0] at hb; simp at hb
      ·exact h0
     ·cases h
    ·cases h
   ·cases h
  ·cases h
 ·cases h
inductive Hole : Nat → List Item → Item → (Item → List Item) → Prop where
 | z {i : Item} {H : List Item} : Hole 0 (i :: H) i (fun j => j :: H)
 | s {p : Nat} {k i : Item} {H : List Item} {F : Item → List Item} (h : Hole p H i F) : Hole (p + 1) (k :: H) i (fun j => k :: F j)
theorem Hole.au {p : Nat} {H : List Item} {i : Item} {F : Item → List Item} (h : Hole p H i F := by (repeat (first | apply Hole.z | apply Hole.s)); first | done | fail) : Hole p H i F := h
theorem Hole.eq {p : Nat} {H : List Item} {i : Item} {F : Item → List Item} (h : Hole p H i F) : H[p]? = some i ∧ ∀ j, F j = H.set p j := by
 induction h with
 | z => exact ⟨rfl, fun j => rfl⟩
 | s h ih => exact ⟨ih.1, fun j => by show _ :: _ = _ :: _; rw [ih.2 j]⟩
theorem OL.append {F : Item → List Item} {e : TypeId} {dd sz bb p m cap cap2 o b m2 : Nat} {base : Nat} {O : Nat → Prop} {q : Option Addr} {xs cs news : List Value} {t' : TypeId}
  (hx : evl l x = some (true, .slice q m cap)) (hy : evl l y = some (true, .slice (some ⟨b, o, none⟩) m2 cap2)) (hn : Nat.ble (dd + 1) n.n = true)
  (hu : rowElem P t = some (e, sz, bb)) (hp' : Hole p H (row base O q m cap e sz xs) F) (hb : blk b t' cs ∈ H) (ht : Take (m2 * sz) (cs.drop o) news) (h1 : oneL news = true) (hm2 : Nat.ble 1 m2 = true)
  (hs : ∃ s ∈ S, base ≤ s.heap.size) (hlim : (m + m2) ≤ 9223372036854775807 ∧ (m + m2) * bb ≤ 140737488355328)
  (k : ∀ (O' : Nat → Prop) (g' cap' : Nat), OL P n ops Q rest ((dd, true, .slice (some ⟨g', 0, none⟩) (m + m2) cap') :: l) (Cls (F (row base O' (some ⟨g', 0, none⟩) (m + m2) cap' e sz (xs ++ news))) S)) :
  OL P n ops Q (⟨some dd, .call { callee := .builtin .append, args := #[x, y], argTypes := #[t, t] }, ty, pos, af, none⟩ :: rest) l (Cls H S) := by
 have hp := hp'.eq.1
 have hF := hp'.eq.2
 refine OL.newT (α := (Nat → Prop) × Nat × Nat) (C' := fun r w => Cls (H.set p (row base r.1 (some ⟨r.2.1, 0, none⟩) (m + m2) r.2.2 e sz (xs ++ news))) S w) rfl rfl hn (fun r => .slice (some ⟨r.2.1, 0, none⟩) (m + m2) r.2.2) (fun a w hs' hc => ?_) (fun r => by rw [← hF]; exact k r.1 r.2.1 r.2.2)
 obtain ⟨i, z, g1, g2, g3, g4, g5, g6, g7⟩ := rowElem_spec hu
 obtain ⟨s, hsm, hsb⟩ := hs
 have hbw : base ≤ w.heap.size := Nat.le_trans hsb (hc.kp s hsm).size
 have hi := hc.item (List.mem_of_getElem? hp)
 have hnews : ∀ j u, news[j]? = some u → w.cell? ((⟨b, o, none⟩ : Addr).add j) = some u := fun j u hj => by
  rw [add_mid, blk_cell (hc.item hb)]
  have := ht.get.2 j u hj
  rwa [List.getElem?_drop] at this
 obtain ⟨v', w', hr, h2, h3, h4, h5⟩ := run_append_own_at (P := P) (w := w) base t ty e i z sz bb g1 g2 g3 g4 g5 g6 g7 _ m xs hi.2 ⟨b, o, none⟩ m2 cap2 news ht.get.1 hnews (fun u hu => oneL_mem h1 u hu) hlim.1 hlim.2 hbw
 have hpos : 1 ≤ m2 := Nat.le_of_ble_eq_true hm2
 rcases h2.2 with ⟨rfl, h0⟩ | ⟨g', cap', cur, rfl, hb', hg', hrest⟩
 ·omega
 ·refine ⟨(fun k => O k ∨ k = g', g', cap'), w', ?_, ?_⟩
  ·simp only [execOp, resolve, invoke, builtin, Sem.run_bind, Sem.run_pure, Result.andThen_ok, List.map_toArray, List.map_cons, List.map_nil, hs'.eval hx rfl, hs'.eval hy rfl, hr]
  ·have hown : ∀ k, some k = (Value.slice q m cap).ownBlock → base ≤ k ∧ O k := fun k hk => by
    cases q with
    | none => simp [Value.ownBlock] at hk
    | some a =>
     simp only [Value.ownBlock, Option.some.injEq] at hk
     subst hk
     exact ⟨(World.ownsRow.lt hi.2 _ rfl).1, hi.1 _ rfl⟩
   refine hc.turn p hp (j := row base (fun k => O k ∨ k = g') (some ⟨g', 0, none⟩) (m + m2) cap' e sz (xs ++ news)) ⟨h3.os, h3.tape, h3.output, h3.size, fun k hk hO => h3.block k hk (fun e => hO (hown k e))⟩ ?_ ?_ ?_
   ·exact ⟨fun a ha => by cases ha; exact .inr rfl, h2⟩
   ·intro k hk
    have hlt : g' < w'.heap.size := (Array.getElem?_eq_some_iff.1 hg').1
    rcases hk.2 with h | h
    ·exact ⟨.inl ⟨hk.1, h⟩, Nat.lt_of_lt_of_le (hc.lt _ (List.mem_of_getElem? hp) k ⟨hk.1, h⟩) h3.size⟩
    ·subst h
     refine ⟨?_, hlt⟩
     rcases h5 with h5 | h5
     ·exact .inl (hown k (by rw [← h5]; rfl))
     ·simp only [Value.ownBlock, Option.some.injEq] at h5
      exact .inr (by omega)
   ·exact fun k hk => ⟨hk.1, .inl hk.2⟩
end
end Go.Eng

/- Slices that are read: their cells in a world; slices of strings. General. No condition. -/
namespace Go.Eng
open Go.RowKit
def SlAt (w : World) (B : Nat) (q : Option Addr) (vs : List Value) : Prop := 0 < vs.length → ∃ a, q = some a ∧ a.block < B ∧ CellsAt w a vs
theorem SlAt.nil {w : World} {B : Nat} {q : Option Addr} : SlAt w B q [] := fun h => by simp at h
theorem SlAt.keep {w w' : World} {B B' : Nat} {q : Option Addr} {vs : List Value} (h : SlAt w B q vs) (hb : ∀ p : Addr, p.block < B → w'.cell? p = w.cell? p) (hB : B ≤ B') : SlAt w' B' q vs := fun hv => by
 obtain ⟨a, rfl, hab, hc⟩ := h hv
 exact ⟨a, rfl, by omega, fun j v hj => (hb (a.add j) (by simpa [add_block] using hab)).trans (hc j v hj)⟩
theorem SlAt.ext {w w' : World} {B : Nat} {q : Option Addr} {vs : List Value} (h : SlAt w B q vs) (hx : Ext w w') (hB : B ≤ w.heap.size) : SlAt w' w'.heap.size q vs :=
 h.keep (fun p hp => World.cell?_of_block (hx.below.block p.block (by omega))) (Nat.le_trans hB hx.size)
theorem SlAt.up {w : World} {B B' : Nat} {q : Option Addr} {vs : List Value} (h : SlAt w B q vs) (hB : B ≤ B') : SlAt w B' q vs := fun hv => by
 obtain ⟨a, rfl, hab, hc⟩ := h hv
 exact ⟨a, rfl, by omega, hc⟩
theorem blk_lt {w : World} {b : Nat} {t : TypeId} {cs : List Value} (h : (blk b t cs).holds w) : b < w.heap.size := by
 have h' : w.heap[b]? = some (.cells cs.toArray t (0, 0)) := h
 exact (Array.getElem?_eq_some_iff.1 h').1
theorem SlAt.of_blk {w : World} {b o : Nat} {t : TypeId} {cs vs : List Value} (h : (blk b t cs).holds w) (hv : ∀ j v, vs[j]? = some v → cs[o + j]? = some v) : SlAt w w.heap.size (some ⟨b, o, none⟩) vs := fun _ =>
 ⟨_, rfl, blk_lt h, fun j v hj => by rw [add_mid, blk_cell h]; exact hv j v hj⟩
theorem SlAt.of_row {w : World} {base n cap size : Nat} {O : Nat → Prop} {q : Option Addr} {e : TypeId} {xs : List Value} (h : (row base O q n cap e size xs).holds w) : SlAt w w.heap.size q xs := fun hx => by
 have h2 := h.2
 rcases h2.2 with ⟨h3, h4⟩ | ⟨g, cap', cur, h3, hb, hg, h4, h5, h6, h7⟩
 ·have := h2.1
  rw [h4] at this
  omega
 ·simp only [Value.slice.injEq] at h3
  obtain ⟨rfl, _⟩ := h3
  have hlt : g < w.heap.size := (Array.getElem?_eq_some_iff.1 hg).1
  refine ⟨_, rfl, hlt, fun j v hj => ?_⟩
  rw [add_mid, Nat.zero_add]
  have h' : (row base O (some ⟨g, 0, none⟩) n cap e size xs).holds w := h
  exact row_cell h' hj
def strs (l : List ByteArray) : List Value := l.map .string
theorem strs_length (l : List ByteArray) : (strs l).length = l.length := by simp [strs]
theorem strs_get {l : List ByteArray} {i : Nat} {s : ByteArray} (h : l[i]? = some s) : (strs l)[i]? = some (.string s) := by simp [strs, h]
theorem SlAt.str {w : World} {B : Nat} {q : Option Addr} {l : List ByteArray} (h : SlAt w B q (strs l)) {i : Nat} (hi : i < l.length) :
  ∃ a s, q = some a ∧ a.block < B ∧ l[i]? = some s ∧ w.cell? (a.add (i * 1)) = some (.string s) := by
 obtain ⟨a, rfl, hab, hc⟩ := h (by rw [strs_length]; omega)
 have hs : l[i]? = some l[i] := List.getElem?_eq_getElem hi
 exact ⟨a, l[i], rfl, hab, hs, by rw [Nat.mul_one]; exact hc i _ (strs_get hs)⟩
end Go.Eng

/- Parts of slices, function values, stores into rows, made rows. General. No condition. -/
namespace Go.Eng
open Go.RowKit
section
variable {P : Program} {n : Nm} {l : Env} {H : List Item} {S : List World} {C : World → Prop} {c : Bool} {d : Option Nat} {ty : TypeId} {pos : String} {af : Array Edge} {g : Option (Nat × Bool)}
variable {ops : Array Oper} {rest : List Oper} {Q : Exit → Act → World → Prop}
variable {t : TypeId} {x y z : Operand} {cx cy cz : Bool}
def cutq (q : Option Addr) (cap i sz : Nat) : Option Addr := if cap = i then q else q.map (·.add (i * sz))
theorem SlAt.cut {w : World} {B : Nat} {q : Option Addr} {vs : List Value} {cap i sz : Nat} (h : SlAt w B q vs) (hl : vs.length ≤ cap * sz) : SlAt w B (cutq q cap i sz) (vs.drop (i * sz)) := by
 intro hv
 have hlt : i * sz < vs.length := by
  rw [List.length_drop] at hv; omega
 obtain ⟨a, rfl, hab, hc⟩ := h (by omega)
 have hne : ¬ cap = i := by
  intro e; subst e; omega
 refine ⟨a.add (i * sz), by simp [cutq, hne], by simpa [add_block] using hab, fun j v hj => ?_⟩
 rw [add_add]
 exact hc _ v (by rwa [List.getElem?_drop] at hj)
theorem Pev.slice_hi {e : TypeId} {sz len cp i : Nat} {k : IntKind} {j : Int} {q : Option Addr} (hx : evl l x = some (cx, .slice q len cp)) (hcx : c = true → cx = true) (hz : evl l z = some (cz, .int k j)) (hcz : c = true → cz = true)
  (hu : slElem P t = some (e, sz)) (hj : j = (i : Int)) (hb : c = true → i ≤ cp) : Pev P n l C ⟨d, .slice t x none (some z) none, ty, pos, af, g⟩ c (.slice q i cp) :=
 .of_run fun h a w hs hw => by
  subst hj
  have hb' := hb h
  unfold slElem at hu
  cases h1 : P.underlying t with
  | none => simp [h1] at hu
  | some d1 =>
   rw [h1] at hu
   cases d1 <;> simp only [reduceCtorEq] at hu
   rename_i e'
   cases h2 : sizeN P e' with
   | none => simp [h2] at hu
   | some k' =>
    simp only [execOp, hs.eval hx (hcx h), Option.map_some, Option.map_none, hs.eval hz (hcz h), Instr.sliceAt, Instr.slice, Sem.run_bind, run_underlying h1, Result.andThen_ok, Instr.sliceBounds, Instr.sliceBound, asIntOf, Sem.run_pure, run_sizeN h2]
    simp [hb', add_zero_]
theorem Pev.slice_lo {e : TypeId} {sz len cp i : Nat} {k : IntKind} {j : Int} {q : Option Addr} (hx : evl l x = some (cx, .slice q len cp)) (hcx : c = true → cx = true) (hy : evl l y = some (cy, .int k j)) (hcy : c = true → cy = true)
  (hu : slElem P t = some (e, sz)) (hj : j = (i : Int)) (hb : c = true → i ≤ len) : Pev P n l C ⟨d, .slice t x (some y) none none, ty, pos, af, g⟩ c (.slice (cutq q cp i sz) (len - i) (cp - i)) :=
 .of_run fun h a w hs hw => by
  subst hj
  have hb' := hb h
  unfold slElem at hu
  cases h1 : P.underlying t with
  | none => simp [h1] at hu
  | some d1 =>
   rw [h1] at hu
   cases d1 <;> simp only [reduceCtorEq] at hu
   rename_i e'
   cases h2 : sizeN P e' with
   | none => simp [h2] at hu
   | some k' =>
    rw [h2] at hu
    simp only [Option.some.injEq, Prod.mk.injEq] at hu
    obtain ⟨rfl, rfl⟩ := hu
    simp only [execOp, hs.eval hx (hcx h), Option.map_some, Option.map_none, hs.eval hy (hcy h), Instr.sliceAt, Instr.slice, Sem.run_bind, run_underlying h1, Result.andThen_ok, Instr.sliceBounds, Instr.sliceBound, asIntOf, Sem.run_pure, run_sizeN h2]
    simp [hb', cutq]
theorem Pev.idxI {e : TypeId} {sz len cp : Nat} {ki : IntKind} {i : Int} {q : Addr} (hx : evl l x = some (cx, .slice (some q) len cp)) (hcx : c = true → cx = true) (hy : evl l y = some (cy, .int ki i)) (hcy : c = true → cy = true)
  (hu : slElem P t = some (e, sz)) (hi : c = true → 0 ≤ i ∧ i < len) : Pev P n l C ⟨d, .indexAddr t x y, ty, pos, af, g⟩ c (.pointer (some (q.add (i.toNat * sz)))) :=
 .of_run fun h a w hs hw => by
  obtain ⟨h1, h2⟩ := hi h
  obtain ⟨m, rfl⟩ := Int.eq_ofNat_of_zero_le h1
  simp only [execOp, hs.eval hx (hcx h), hs.eval hy (hcy h), Sem.run_bind, run_indexAt_slice hu (show m < len by omega), Result.andThen_ok]; rfl
theorem Pev.makeFunc {f : FuncId} {first caps : List Operand} {us vs : List Value} (h1 : Args l c first us) (h2 : Args l c caps vs) : Pev P n l C ⟨d, .makeFunc (.func f) first.toArray caps.toArray, ty, pos, af, g⟩ c (.func (.func f) us.toArray vs.toArray) :=
 .of_run fun h a w hs hw => by
  simp only [execOp, Instr.makeFunc]
  rw [List.map_toArray, List.map_toArray, h1.map hs h, h2.map hs h]
  rfl
end
end Go.Eng

/- From a law's walk to its row: the arguments read behind the call as before, where nothing that was there has turned; types as trees out of a reading. General. No condition. -/
namespace Go.Eng
open Go.RowKit Go.ChangeShapes Go.WideShapes Go.ChangeAt
section
variable {H : Type} {enc : TypeId × Value → H} {P : Program}
def readableB (P : Program) (ts : List TypeId) : Bool := ts.all fun t => P.readableRec t && Nat.blt t P.types.size
theorem trodAll_stays (hl : laidOutB P = true) {W W' : World} (hb : Below W.heap.size W W') {sp : Nat → Bool} :
  ∀ {ts : List TypeId} {vs : List Value} {ds : List (DataW H)} {ps : List MemPlace}, readableB P ts = true → DataW.TrodAll enc P W 0 (fun _ => true) true ts vs ds ps →
   (∀ x ∈ ps, x.block < W.heap.size) → (∀ x ∈ ps, sp x.block = true) → DataW.TrodAll enc P W' 0 sp true ts vs ds ps
 | [], vs, ds, ps, _, h, _, _ => by
  obtain ⟨rfl, rfl, rfl⟩ := trodAll_nil h
  exact trodAll_mk0
 | t :: ts, vs, ds, ps, hr, h, hlt, hsp => by
  obtain ⟨v, vs', d, ds', p, q, rfl, rfl, rfl, h0, h1⟩ := trodAll_cons h
  simp only [readableB, List.all_cons, Bool.and_eq_true] at hr
  have hrow : t < P.types.size := Nat.le_of_ble_eq_true hr.1.2
  exact trodAll_cons_mk (Go.WideElems.Trod_stays hl hr.1.1 hrow h0 (fun x hx => hb.same (hlt x (List.mem_append_left _ hx))) (fun x hx => hsp x (List.mem_append_left _ hx)))
   (trodAll_stays hl hb (by simpa [readableB] using hr.2) h1 (fun x hx => hlt x (List.mem_append_right _ hx)) (fun x hx => hsp x (List.mem_append_right _ hx)))
theorem law_post {f : Func} {s : ChangeSpec} {W W' : World} {args : Array Value} {ds : List (DataW H)} {p : List MemPlace} {tb : TypeId} (hl : laidOutB P = true) (hrd : readableB P f.params.toList = true)
  (hv : s.vars = []) (hrt : f.resultTypes = #[tb]) (hu : P.underlying tb = some .bool) (hfn : s.fn H ds = { results := [.lit (.bool true)], args := ds })
  (hW : DataW.Whole enc P f.params.toList s.vars false W args.toList ds [] p) (hA : DataW.TrodAll enc P W 0 (fun _ => true) true f.params.toList args.toList ds p) (hb : Below W.heap.size W W') :
  s.post enc P f false true false false W args (.bool true) W' := by
 have hlt : ∀ x ∈ p, x.block < W.heap.size := fun x hx => hW.lt x hx
 have hargs : ∀ sp : Nat → Bool, (∀ x ∈ p, sp x.block = true) → DataW.TrodAll enc P W' 0 sp true f.params.toList args.toList ds p := fun sp hsp => trodAll_stays hl hb hrd hA hlt hsp
 have hres : ∀ (b : Nat) (sp : Nat → Bool) (hd : Bool), DataW.TrodAll enc P W' b sp hd f.resultTypes.toList ((Value.bool true).resultList f.resultTypes.size) [.lit (.bool true)] [] := by
  intro b sp hd
  rw [hrt]
  exact trodAll_cons_mk (shut_bool hu _) trodAll_mk0
 have hold : ∀ x ∈ p, (fun b => decide (b < W.heap.size)) x.block = true := fun x hx => by simpa using hlt x hx
 have hok : ∀ (j : Nat) (t : TypeId) (r : Value), f.resultTypes[j]? = some t → ((Value.bool true).resultList f.resultTypes.size)[j]? = some r → Value.okWide P W' .any 0 t r :=
  ok_one hrt rfl (okWide_bool_mk hu _)
 have hfn' : s.fn H (ds ++ []) = { results := [.lit (.bool true)], args := ds } := by rw [List.append_nil]; exact hfn
 have hvars : ∀ sp : Nat → Bool, DataW.TrodVars enc P W' sp s.vars (s.fn H (ds ++ [])).vars [] := fun sp => by rw [hv, hfn']; rfl
 refine ⟨ds, [], p, [], p, [], hW, ?_, ?_, ?_, World.keptBut_mono (fun x hx => ⟨hx, ?_⟩) (hb.frame (· ∈ p)), fun _ => ?_⟩
 ·rw [hfn']; exact hres _ _ _
 ·rw [hfn']; exact hargs _ hold
 ·exact hvars _
 ·exact .inr (by simpa using hx)
 ·obtain ⟨_, _, _, _, _, hz, hn⟩ := hW
  refine ⟨hok, _, _, ([] ++ p) ++ [], ⟨[] ++ p, [], trodAll_append (hargs _ (fun _ _ => rfl)) (hres _ _ _), hvars _, rfl, ?_, ?_⟩, ?_⟩
  ·intro b off hp
   have hin : MemPlace.cell b off ∈ p := by simpa using hp
   rw [hb.frozen (hlt _ hin)]
   exact hz b off hin
  ·intro ha; cases ha
  ·intro x hx _
   simpa using hx
/-! ### readings -/
variable {w : World} {spare : Nat → Bool} {held : Bool}
theorem cell_lt {a : Addr} {v : Value} (h : w.cell? a = some v) : a.block < w.heap.size := by
 unfold World.cell? at h
 rcases Nat.lt_or_ge a.block w.heap.size with hl | hl
 ·exact hl
 ·rw [Array.getElem?_eq_none hl] at h; cases h
theorem cellsAt_of {a : Addr} {n : Nat} {cs : List Value} (h : w.cells? 0 a n = some cs) : CellsAt w a cs ∧ cs.length = n := by
 obtain ⟨_, hl, hc⟩ := World.cells?_some h
 refine ⟨fun j v hj => ?_, hl⟩
 have hjl : j < n := by
  rw [← hl]
  exact (List.getElem?_eq_some_iff.1 hj).1
 rw [hc j hjl]; exact hj
theorem slice_reads {t e : TypeId} {sz fuel : Nat} {cs : List Value} {x : DataW H × List MemPlace} (ht : P.underlying t = some (.slice e)) (hs : P.cellsOf e = sz) (h : DataW.trod enc P w 0 spare held fuel t cs = some x) :
  ∃ (q : Option Addr) (len cap : Nat), cs = [.slice q len cap] ∧ len ≤ cap ∧ cap ≤ maxLen ∧ (q = none → len = 0) ∧
   ∃ n, n < fuel ∧ ∀ a, q = some a → ∀ i, i < len → ∃ cs' y, CellsAt w (a.add (i * sz)) cs' ∧ cs'.length = sz ∧ DataW.trod enc P w 0 spare held n e cs' = some y := by
 rcases DataW.trod_slice ht h with ⟨rfl, _⟩ | ⟨a, len, cap, elems, rest, n, hf, rfl, _, _, hl, hm, hlen, hel, _, _⟩
 ·refine ⟨none, 0, 0, rfl, Nat.le_refl _, by simp [maxLen], fun _ => rfl, 0, ?_, fun a ha => by cases ha⟩
  cases fuel with
  | zero => simp [DataW.trod] at h
  | succ n => omega
 ·refine ⟨some a, len, cap, rfl, hl, hm, (fun hn => by cases hn), n, by omega, fun a' ha i hi => ?_⟩
  obtain rfl := Option.some.inj ha
  have h1 := hel i hi
  rw [List.getElem?_eq_getElem (by omega)] at h1
  rw [hs] at h1
  obtain ⟨cs', hc, ht'⟩ := Option.bind_eq_some_iff.1 h1
  obtain ⟨h2, h3⟩ := cellsAt_of hc
  exact ⟨cs', _, h2, h3, ht'⟩
theorem wf_i64 {m : Int} (h : (Lit.int .i64 m).wf = true) : I64 m := by
 simp only [Lit.wf, IntKind.min, IntKind.max, IntKind.signed, IntKind.bits, Bool.and_eq_true, decide_eq_true_eq] at h
 unfold I64
 have h1 := h.1; have h2 := h.2
 simp at h1 h2
 omega
theorem tyAll_of {B : Nat} : ∀ (len : Nat) (a : Addr), (∀ i, i < len → ∃ cs t, CellsAt w (a.add (i * 4)) cs ∧ TyC w B t cs) → ∃ ts : List Ty, ts.length = len ∧ TyAll w B ts a
 | 0, a, _ => ⟨[], rfl, by simp only [TyAll]⟩
 | len + 1, a, h => by
  obtain ⟨cs, t, h1, h2⟩ := h 0 (by omega)
  obtain ⟨ts, h3, h4⟩ := tyAll_of len (a.add 4) (fun i hi => by
   obtain ⟨cs, t, h5, h6⟩ := h (i + 1) (by omega)
   refine ⟨cs, t, ?_, h6⟩
   rw [add_add]
   rwa [show 4 + i * 4 = (i + 1) * 4 from by omega])
  exact ⟨t :: ts, by simp [h3], by simp only [TyAll]; exact ⟨⟨cs, h1, h2⟩, h4⟩⟩
theorem ty_of {tT tS tI tN : TypeId} {f0 f1 f2 f3 : Field} (hT : P.underlying tT = some (.struct #[f0, f1, f2, f3])) (hI : P.underlying tI = some (.int .i64)) (hN : P.underlying tN = some .string) (hS : P.underlying tS = some (.slice tT))
  (h0 : f0.type = tI ∧ f0.offset = 0) (h1 : f1.type = tN ∧ f1.offset = 1) (h2 : f2.type = tI ∧ f2.offset = 2) (h3 : f3.type = tS ∧ f3.offset = 3)
  (c0 : P.cellsOf tI = 1) (c1 : P.cellsOf tN = 1) (c3 : P.cellsOf tS = 1) (cT : P.cellsOf tT = 4) :
  ∀ (fuel : Nat) {cs : List Value} {x : DataW H × List MemPlace}, DataW.trod enc P w 0 spare held fuel tT cs = some x → ∃ t, TyC w w.heap.size t cs := by
 intro fuel
 induction fuel using Nat.strongRecOn with
 | _ fuel ih =>
  intro cs x h
  obtain ⟨xs, n, hfu, hx, hlen, hxl, hf⟩ := DataW.trod_struct hT h
  rw [cT] at hlen
  match cs, hlen with
  | [a0, a1, a2, a3], _ =>
   have g0 := hf 0 f0 rfl
   have g1 := hf 1 f1 rfl
   have g2 := hf 2 f2 rfl
   have g3 := hf 3 f3 rfl
   simp only [List.size_toArray, List.length_cons, List.length_nil] at hxl
   rw [h0.1, h0.2, c0, List.getElem?_eq_getElem (by omega)] at g0
   rw [h1.1, h1.2, c1, List.getElem?_eq_getElem (by omega)] at g1
   rw [h2.1, h2.2, c0, List.getElem?_eq_getElem (by omega)] at g2
   rw [h3.1, h3.2, c3, List.getElem?_eq_getElem (by omega)] at g3
   obtain ⟨k, e0, _, w0⟩ := DataW.trod_int hI g0
   obtain ⟨s, e1, _, _⟩ := DataW.trod_string hN g1
   obtain ⟨v, e2, _, w2⟩ := DataW.trod_int hI g2
   obtain ⟨q, len, cap, e3, hle, hcap, hq0, m, hm, hel⟩ := slice_reads hS cT g3
   simp at e0 e1 e2 e3
   subst e0 e1 e2 e3
   have hnl : ∃ ts : List Ty, ts.length = len ∧ (0 < len → ∃ a, q = some a ∧ a.block < w.heap.size ∧ TyAll w w.heap.size ts a) := by
    cases q with
    | none => exact ⟨[], by simp [hq0 rfl], fun hl => by have := hq0 rfl; omega⟩
    | some a =>
     have hall : ∀ i, i < len → ∃ cs t, CellsAt w (a.add (i * 4)) cs ∧ TyC w w.heap.size t cs := fun i hi => by
      obtain ⟨cs', y, hc, hl4, ht⟩ := hel a rfl i hi
      obtain ⟨t, ht'⟩ := ih m (by omega) ht
      exact ⟨cs', t, hc, ht'⟩
     obtain ⟨ts, h5, h6⟩ := tyAll_of len a hall
     refine ⟨ts, h5, fun hl => ⟨a, rfl, ?_, h6⟩⟩
     obtain ⟨cs', y, hc, hl4, _⟩ := hel a rfl 0 hl
     cases cs' with
     | nil => simp at hl4
     | cons u r => exact cell_lt (a := a) (v := u) (hc 0 u rfl)
   obtain ⟨ts, rfl, hall⟩ := hnl
   refine ⟨.mk k s v ts, ?_⟩
   simp only [TyC]
   refine ⟨q, cap, rfl, wf_i64 w0, wf_i64 w2, ⟨?_, hle⟩, hall⟩
   unfold maxLen at hcap
   omega
end
end Go.Eng

/- Slices whose elements take several cells: the cells of a list of things, element by element; in-place append and clear; slices in three numbers. General. No condition. -/
namespace Go.Eng
open Go.RowKit
theorem list_of {α : Type} (R : Nat → α → Prop) : ∀ (n : Nat), (∀ i, i < n → ∃ x, R i x) → ∃ l : List α, l.length = n ∧ ∀ i x, l[i]? = some x → R i x
 | 0, _ => ⟨[], rfl, fun i x h => by simp at h⟩
 | n + 1, h => by
  obtain ⟨l, hl, hr⟩ := list_of R n (fun i hi => h i (by omega))
  obtain ⟨x, hx⟩ := h n (by omega)
  refine ⟨l ++ [x], by simp [hl], fun i y hy => ?_⟩
  rcases Nat.lt_or_ge i l.length with hi | hi
  ·rw [List.getElem?_append_left hi] at hy
   exact hr i y hy
  ·rw [List.getElem?_append_right hi] at hy
   have h0 : i - l.length = 0 := by
    have := (List.getElem?_eq_some_iff.1 hy).1
    simpa using this
   rw [h0] at hy
   simp only [List.getElem?_cons_zero, Option.some.injEq] at hy
   subst hy
   obtain rfl : i = n := by omega
   exact hx
def cat {α : Type} (f : α → List Value) : List α → List Value
 | [] => []
 | x :: l => f x ++ cat f l
section
variable {α : Type} {f : α → List Value} {sz : Nat}
theorem cat_append (f : α → List Value) : ∀ (a b : List α), cat f (a ++ b) = cat f a ++ cat f b
 | [], b => rfl
 | x :: a, b => by rw [List.cons_append, cat, cat_append f a b, cat, List.append_assoc]
theorem cat_one (f : α → List Value) (x : α) : cat f [x] = f x := by simp [cat]
theorem cat_length (hf : ∀ x, (f x).length = sz) : ∀ (l : List α), (cat f l).length = l.length * sz
 | [] => by simp [cat]
 | x :: l => by rw [cat, List.length_append, cat_length hf l, hf, List.length_cons, Nat.succ_mul, Nat.add_comm]
theorem cat_take (hf : ∀ x, (f x).length = sz) : ∀ (l : List α) (i : Nat), (cat f l).take (i * sz) = cat f (l.take i)
 | l, 0 => by simp [cat]
 | [], i + 1 => by simp [cat]
 | x :: l, i + 1 => by
  rw [cat, List.take_succ_cons, cat, ← cat_take hf l i, Nat.succ_mul, Nat.add_comm, List.take_append, hf, List.take_of_length_le (by rw [hf]; omega)]
  congr 2
  omega
theorem cat_drop (hf : ∀ x, (f x).length = sz) : ∀ (l : List α) (i : Nat), (cat f l).drop (i * sz) = cat f (l.drop i)
 | l, 0 => by simp [cat]
 | [], i + 1 => by simp [cat]
 | x :: l, i + 1 => by
  rw [cat, List.drop_succ_cons, ← cat_drop hf l i, Nat.succ_mul, Nat.add_comm, List.drop_append, hf, List.drop_of_length_le (by rw [hf]; omega), List.nil_append]
  congr 1
  omega
theorem cat_get (hf : ∀ x, (f x).length = sz) {l : List α} {i : Nat} {x : α} (h : l[i]? = some x) : ∀ (j : Nat) (v : Value), (f x)[j]? = some v → (cat f l)[i * sz + j]? = some v := by
 intro j v hj
 have hi := (List.getElem?_eq_some_iff.1 h).1
 have hd := cat_drop hf l i
 rw [List.drop_eq_getElem_cons hi, cat] at hd
 have hx : l[i] = x := by
  rw [List.getElem?_eq_getElem hi] at h
  exact Option.some.inj h
 rw [hx] at hd
 have : ((cat f l).drop (i * sz))[j]? = some v := by
  rw [hd, List.getElem?_append_left (List.getElem?_eq_some_iff.1 hj).1]; exact hj
 rwa [List.getElem?_drop] at this
theorem oneL_append : ∀ (a b : List Value), oneL a = true → oneL b = true → oneL (a ++ b) = true
 | [], b, _, hb => hb
 | v :: a, b, ha, hb => by
  simp only [oneL, Bool.and_eq_true] at ha
  rw [List.cons_append, oneL, ha.1, oneL_append a b ha.2 hb]; rfl
theorem cat_oneL (h : ∀ x, oneL (f x) = true) : ∀ (l : List α), oneL (cat f l) = true
 | [] => rfl
 | x :: l => oneL_append _ _ (h x) (cat_oneL h l)
theorem SlAt.elem {w : World} {B : Nat} {q : Option Addr} {l : List α} (h : SlAt w B q (cat f l)) (hf : ∀ x, (f x).length = sz) (hsz : 0 < sz) {i : Nat} (hi : i < l.length) :
  ∃ a x, q = some a ∧ a.block < B ∧ l[i]? = some x ∧ CellsAt w (a.add (i * sz)) (f x) := by
 have hpos : 0 < (cat f l).length := by
  rw [cat_length hf]
  exact Nat.mul_pos (by omega) hsz
 obtain ⟨a, rfl, hab, hc⟩ := h hpos
 have hs : l[i]? = some l[i] := List.getElem?_eq_getElem hi
 exact ⟨a, l[i], rfl, hab, hs, fun j v hj => by rw [add_add]; exact hc _ v (cat_get hf hs j v hj)⟩
theorem SlAt.takeC {w : World} {B : Nat} {q : Option Addr} {l : List α} (h : SlAt w B q (cat f l)) (i : Nat) : SlAt w B q (cat f (l.take i)) := fun hv => by
 have e : cat f l = cat f (l.take i) ++ cat f (l.drop i) := by rw [← cat_append, List.take_append_drop]
 obtain ⟨a, rfl, hab, hc⟩ := h (by rw [e, List.length_append]; omega)
 refine ⟨a, rfl, hab, fun j v hj => hc j v ?_⟩
 rw [e, List.getElem?_append_left (List.getElem?_eq_some_iff.1 hj).1]; exact hj
theorem SlAt.dropC {w : World} {B : Nat} {q : Option Addr} {l : List α} {cap : Nat} (h : SlAt w B q (cat f l)) (hf : ∀ x, (f x).length = sz) (hcap : l.length ≤ cap) (i : Nat) : SlAt w B (cutq q cap i sz) (cat f (l.drop i)) := by
 rw [← cat_drop hf]
 exact h.cut (by rw [cat_length hf]; exact Nat.mul_le_mul_right _ hcap)
end
/-! the first place -/
def idxP {α : Type} (p : α → Bool) : List α → Nat → Int
 | [], _ => -1
 | s :: l, i => if p s then i else idxP p l (i + 1)
section
variable {α : Type} {f : α → List Value} {sz : Nat}
theorem idxP_get {p : α → Bool} {l : List α} {i k : Nat} {s : α} (h : l[i]? = some s) : idxP p (l.drop i) k = if p s then (k : Int) else idxP p (l.drop (i + 1)) (k + 1) := by
 have hi := (List.getElem?_eq_some_iff.1 h).1
 rw [List.drop_eq_getElem_cons hi, idxP]
 rw [List.getElem?_eq_getElem hi] at h
 rw [Option.some.inj h]
theorem idxP_end {p : α → Bool} {l : List α} {i k : Nat} (h : l.length ≤ i) : idxP p (l.drop i) k = -1 := by
 rw [List.drop_eq_nil_of_le h]; rfl
theorem idxP_nonneg (p : α → Bool) : ∀ (l : List α) (k : Nat), decide (0 ≤ idxP p l k) = l.any p
 | [], k => rfl
 | s :: l, k => by
  rw [idxP, List.any_cons]
  cases h : p s
  ·simp only [Bool.false_eq_true, if_false, Bool.false_or]
   exact idxP_nonneg p l (k + 1)
  ·simp only [if_true, Bool.true_or, decide_eq_true_eq]
   omega
theorem idxP_cases (p : α → Bool) : ∀ (l : List α) (k : Nat), (idxP p l k = -1 ∧ ∀ x ∈ l, p x = false) ∨ ∃ i x, l[i]? = some x ∧ p x = true ∧ idxP p l k = ((k + i : Nat) : Int) ∧ ∀ y ∈ l.take i, p y = false
 | [], k => .inl ⟨rfl, fun x hx => by cases hx⟩
 | s :: l, k => by
  cases h : p s with
  | true => exact .inr ⟨0, s, rfl, h, by simp [idxP, h], fun y hy => by simp at hy⟩
  | false =>
   rcases idxP_cases p l (k + 1) with ⟨h1, h2⟩ | ⟨i, x, h1, h2, h3, h4⟩
   ·refine .inl ⟨by simp [idxP, h, h1], fun x hx => ?_⟩
    rcases List.mem_cons.1 hx with rfl | hx
    ·exact h
    ·exact h2 x hx
   ·refine .inr ⟨i + 1, x, by simpa using h1, h2, by simp only [idxP, h, Bool.false_eq_true, if_false, h3]; omega, fun y hy => ?_⟩
    rw [List.take_succ_cons] at hy
    rcases List.mem_cons.1 hy with rfl | hy
    ·exact h
    ·exact h4 y hy
end
end Go.Eng

/- Made slices of one-cell elements, and a square of rows. General. No condition. -/
namespace Go.Eng
open Go.RowKit
section
variable {P : Program} {n : Nm} {l : Env} {H : List Item} {S : List World} {C : World → Prop} {ty : TypeId} {pos : String} {af : Array Edge}
variable {ops : Array Oper} {rest : List Oper} {Q : Exit → Act → World → Prop} {t : TypeId} {x y : Operand}
theorem madeCells_one (z0 : Value) (m : Nat) : madeCells #[z0] m = (List.replicate m z0).toArray := by
 apply Array.ext
 ·simp [madeCells]
 ·intro i h1 h2
  simp [madeCells, Nat.mod_one]
def zeroCell (P : Program) (e : TypeId) : Option Value := match P.info? e with
 | some i => match i.zero with
  | some z => match z.cells.toList with
   | [z0] => some z0
   | _ => none
  | none => none
 | none => none
theorem OL.makeSlice {e : TypeId} {dd m bb : Nat} {z0 : Value} {k1 k2 : IntKind} {a1 a2 : Int} (hx : evl l x = some (true, .int k1 a1)) (hy : evl l y = some (true, .int k2 a2)) (hn : Nat.ble (dd + 1) n.n = true)
  (hu : rowElem P t = some (e, 1, bb)) (hz : zeroCell P e = some z0) (h1 : a1 = (m : Int)) (h2 : a2 = (m : Int)) (hlim : m ≤ 9223372036854775807 ∧ m * bb ≤ 140737488355328)
  (k : ∀ b, AllLe S b → OL P n ops Q rest ((dd, true, .slice (some ⟨b, 0, none⟩) m m) :: l) (Cls (blk b e (List.replicate m z0) :: H) S)) :
  OL P n ops Q (⟨some dd, .makeSlice t x y, ty, pos, af, none⟩ :: rest) l (Cls H S) := by
 obtain ⟨i, z, g1, g2, g3, g4, g5, g6, g7⟩ := rowElem_spec hu
 subst h1
 subst h2
 have hcell : z.cells = #[z0] := by
  unfold zeroCell at hz
  rw [g2] at hz
  simp only [g3] at hz
  split at hz
  ·rename_i z1 he
   obtain rfl := Option.some.inj hz
   apply Array.ext'
   exact he
  ·cases hz
 refine OL.new (C' := fun b w => AllLe S b ∧ Cls (blk b e (List.replicate m z0) :: H) S w) rfl rfl hn (fun b => .slice (some ⟨b, 0, none⟩) m m) (fun a w hs hc => ⟨w.heap.size, w.alloc (.cells (List.replicate m z0).toArray e), ?_, AllLe.mk hc, hc.alloc e (List.replicate m z0)⟩) (fun b => ⟨fun a w hs hc => (k b hc.1).run a w hs hc.2⟩)
 have hb : (i.bytes : Int) * (m : Int) ≤ 281474976710656 := by
  have h3 := hlim.2
  rw [← g5, Nat.mul_comm] at h3
  have h5 : ((i.bytes * m : Nat) : Int) ≤ ((140737488355328 : Nat) : Int) := Int.ofNat_le.2 h3
  rw [Int.natCast_mul] at h5
  exact Int.le_trans h5 (by decide)
 have hr := run_make (P := P) w t e i z g1 g2 g3 k1 k2 (m : Int) (m : Int) (by omega) (by omega) hb (by omega)
 rw [hcell, g4, Nat.mul_one, Int.toNat_natCast, madeCells_one] at hr
 simp only [execOp, hs.eval hx rfl, hs.eval hy rfl, Sem.run_bind, hr, Result.andThen_ok]
 rfl
end
end Go.Eng

/- A square of rows: blocks of one element type, told as a list of rows. General. No condition. -/
namespace Go.Eng
open Go.RowKit
def grid (bs : List Nat) (t : TypeId) (rows : List (List Value)) : Item :=
 ⟨fun k => k ∈ bs, fun w => bs.length = rows.length ∧ bs.Nodup ∧ ∀ (i b : Nat) (r : List Value), bs[i]? = some b → rows[i]? = some r → w.heap[b]? = some (.cells r.toArray t (0, 0)),
  fun w w' hk h => ⟨h.1, h.2.1, fun i b r hb hr => (hk b (List.mem_of_getElem? hb)).trans (h.2.2 i b r hb hr)⟩⟩
theorem NotOwned.grid {H : List Item} {bs : List Nat} {t : TypeId} {rows : List (List Value)} {k B : Nat} (h : ∀ b, b ∈ bs → B ≤ b) (hk : k < B) (r : NotOwned H k) : NotOwned (Eng.grid bs t rows :: H) k :=
 NotOwned.any (fun hm => Nat.not_le_of_lt hk (h k hm)) r
section
variable {P : Program} {n : Nm} {l : Env} {H : List Item} {S : List World} {C : World → Prop} {c : Bool} {d : Option Nat} {ty : TypeId} {pos : String} {af : Array Edge} {g : Option (Nat × Bool)}
variable {ops : Array Oper} {rest : List Oper} {Q : Exit → Act → World → Prop} {t : TypeId} {x y : Operand} {cx cy : Bool}
theorem Pev.load_cls {a : Addr} {v : Value} (hx : evl l x = some (cx, .pointer (some a))) (hcx : c = true → cx = true) (hs : scalB P t = true) (hv : c = true → ∀ w, C w → w.cell? a = some v) : Pev P n l C ⟨d, .load t x, ty, pos, af, g⟩ c v :=
 .load_of hx hcx fun h w hw => run_loadVar_scal hs (hv h w hw)
end
end Go.Eng

/- A guard that is known to hold is put away; slices held against nil; readings of slices of strings. General. No condition. -/
namespace Go.Eng
open Go.RowKit
section
variable {P : Program} {n : Nm} {l : Env} {H : List Item} {S : List World} {C : World → Prop} {c : Bool} {d : Option Nat} {op : Op} {ty : TypeId} {pos : String} {af : Array Edge} {g : Option (Nat × Bool)}
variable {ops : Array Oper} {rest : List Oper} {Q : Exit → Act → World → Prop} {x y : Operand} {cx cy : Bool} {t : TypeId}
theorem OL.ungate (hg : Guard l ops g c) (hc : c = true) (h : OL P n ops Q (⟨d, op, ty, pos, af, none⟩ :: rest) l C) : OL P n ops Q (⟨d, op, ty, pos, af, g⟩ :: rest) l C := by
 refine ⟨fun a w hs hw => ?_⟩
 have h1 := h.run a w hs hw
 have hwant := Guard.wanted (o := ⟨d, op, ty, pos, af, g⟩) hs hg
 rw [hc] at hwant
 unfold wpList at h1 ⊢
 rw [if_pos hwant]
 rw [if_pos (by simp [Region.wanted])] at h1
 exact h1
theorem OL.gateOff {dd : Nat} (hg : Guard l ops g c) (hc : c = false) (hn : Nat.ble (dd + 1) n.n = true) (h : OL P n ops Q rest ((dd, false, undef) :: l) C) : OL P n ops Q (⟨some dd, op, ty, pos, af, g⟩ :: rest) l C := by
 refine ⟨fun a w hs hw => ?_⟩
 have hwant := Guard.wanted (o := ⟨some dd, op, ty, pos, af, g⟩) hs hg
 rw [hc] at hwant
 unfold wpList
 rw [if_neg (by simp [hwant])]
 exact h.run _ w (hs.put (Nat.le_of_ble_eq_true hn) false undef) hw
theorem slElem_und {e : TypeId × Nat} (hu : slElem P t = some e) : P.underlying t = some (.slice e.1) := by
 unfold slElem at hu
 cases h1 : P.underlying t with
 | none => simp [h1] at hu
 | some d1 =>
  rw [h1] at hu
  cases d1 <;> simp only [reduceCtorEq] at hu
  rename_i e'
  cases h2 : sizeN P e' with
  | none => simp [h2] at hu
  | some k' =>
   rw [h2] at hu
   obtain rfl := Option.some.inj hu
   rfl
theorem guard_slice {op : BinOp} {x y : Operand} {q q' : Option Addr} {m cp m' c' : Nat} {w : World} : (eqGuard op t x y (.slice q m cp) (.slice q' m' c')).run P w = .ok () w := by cases op <;> rfl
theorem Bin.slice_nil {q : Option Addr} {m cp m' c' : Nat} {e : TypeId × Nat} (hu : slElem P t = some e) : Bin P .eql t (.slice q m cp) (.slice none m' c') (.bool q.isNone) := ⟨fun x y w => by
 rw [Sem.run_bind, guard_slice, Result.andThen_ok]
 simp only [binOp]
 simp [Op.equal, Op.maxDepth, Lib.run_equalIn_slice_nil w 9999 t e.1 q m cp m' c' (slElem_und hu)]⟩
end
/-! readings -/
section
variable {H : Type} {enc : TypeId × Value → H} {P : Program} {w : World} {spare : Nat → Bool} {held : Bool}
end
end Go.Eng

/- A region that draws its order, whose first operations are quiet and whose last ones write memory, one behind another. General. No condition. -/
namespace Go.Eng
open Go.RowKit
section
variable {P : Program} {ops : Array Oper} {C : World → Prop} {Q : Exit → Act → World → Prop} {m : Nat}
def allB (m : Nat) (listed : Array Bool) : Bool := (List.range m).all fun j => listed.getD j false
theorem allB_no {m i : Nat} {listed : Array Bool} (hi : i < m) (h : listed.getD i true = false) : allB m listed = false := by
 rw [Bool.eq_false_iff]
 intro ht
 have := List.all_eq_true.1 ht i (List.mem_range.2 hi)
 rcases Nat.lt_or_ge i listed.size with h' | h'
 ·simp [h'] at h this; rw [h] at this; cases this
 ·simp [Array.getElem?_eq_none h'] at h
def wpH (P : Program) (ops : Array Oper) (C : World → Prop) (Q : Exit → Act → World → Prop) (m : Nat) : Nat → Array Bool → Act → Prop
 | 0, listed, a => allB m listed = true ∧ ∀ w, C w → wpAny P .any ops Q 0 listed a w
 | f + 1, listed, a => (allB m listed = true → ∀ w, C w → wpAny P .any ops Q (f + 1) listed a w) ∧
   (allB m listed = false → Region.ready .any ops listed ≠ [] ∧ ∀ i ∈ Region.ready .any ops listed, qOp P ops C i (wpH P ops C Q m f (listed.setIfInBounds i true)) a)
theorem wpH_all {f : Nat} {listed : Array Bool} {a : Act} (ht : allB m listed = true) (h : ∀ w, C w → wpAny P .any ops Q f listed a w) : wpH P ops C Q m f listed a := by
 cases f with
 | zero => exact ⟨ht, h⟩
 | succ f => exact ⟨fun _ => h, fun h0 => by rw [ht] at h0; cases h0⟩
theorem wpAny_of_H : ∀ (f : Nat) (listed : Array Bool) (a : Act) (w : World), C w → wpH P ops C Q m f listed a → wpAny P .any ops Q f listed a w
 | 0, _, _, w, hw, h => h.2 w hw
 | f + 1, listed, a, w, hw, h => by
  cases ht : allB m listed with
  | true => exact h.1 ht w hw
  | false => exact ⟨fun h0 => absurd h0 (h.2 ht).1, fun i hi => wpOp_of_qOp hw (fun a' w' hw' => wpAny_of_H f _ a' w' hw') ((h.2 ht).2 i hi)⟩
def waitsB (ops : Array Oper) : Nat → Nat → Nat → Bool
 | 0, _, _ => false
 | f + 1, j, i => match ops[j]? with
  | some o => o.after.any fun e => Region.binds .any e && (Nat.beq e.on i || waitsB ops f e.on i)
  | none => false
def waitB (ops : Array Oper) (m : Nat) : Bool := (List.range ops.size).all fun j => Nat.blt j m || (List.range m).all fun i => waitsB ops ops.size j i
theorem waitB_spec (h : waitB ops m = true) {j : Nat} {o : Oper} (hj : ops[j]? = some o) (hm : m ≤ j) {i : Nat} (hi : i < m) : waitsB ops ops.size j i = true := by
 have hlt := (Array.getElem?_eq_some_iff.1 hj).1
 have h1 := List.all_eq_true.1 h j (List.mem_range.2 hlt)
 simp only [Bool.or_eq_true] at h1
 rcases h1 with h1 | h1
 ·have : j < m := Nat.le_of_ble_eq_true h1
  omega
 ·exact List.all_eq_true.1 h1 i (List.mem_range.2 hi)
def Dn (ops : Array Oper) (listed : Array Bool) : Prop := ∀ j o, ops[j]? = some o → listed.getD j false = true → ∀ e ∈ o.after, Region.binds .any e = true → listed.getD e.on false = true
theorem getD_ft {listed : Array Bool} {i : Nat} (h : listed.getD i true = false) : listed.getD i false = false := by
 rcases Nat.lt_or_ge i listed.size with h' | h'
 ·simp [h'] at h ⊢; exact h
 ·simp [Array.getElem?_eq_none h'] at h
theorem waits_done {listed : Array Bool} (hD : Dn ops listed) {i : Nat} : ∀ (f j : Nat) (o : Oper), ops[j]? = some o → (∀ e ∈ o.after, Region.binds .any e = true → listed.getD e.on false = true) → waitsB ops f j i = true → listed.getD i false = true
 | 0, _, _, _, _, h => by cases h
 | f + 1, j, o, hj, hall, h => by
  rw [waitsB, hj] at h
  simp only at h
  rw [Array.any_eq_true] at h
  obtain ⟨k, hk, h3⟩ := h
  simp only [Bool.and_eq_true, Bool.or_eq_true, Nat.beq_eq] at h3
  have h4 := hall _ (Array.getElem_mem hk) h3.1
  rcases h3.2 with h5 | h5
  ·rw [← h5]; exact h4
  ·cases ho : ops[(o.after[k]).on]? with
   | none =>
    cases f with
    | zero => cases h5
    | succ f => rw [waitsB, ho] at h5; cases h5
   | some o2 => exact waits_done hD f _ o2 ho (fun e he hb => hD _ o2 ho h4 e he hb) h5
theorem Dn.set {listed : Array Bool} (hD : Dn ops listed) {j : Nat} (hj : j ∈ Region.ready .any ops listed) : Dn ops (listed.setIfInBounds j true) := by
 obtain ⟨hjun, oj, hoj, hall⟩ := mem_ready.1 hj
 have hjlt : j < listed.size := by
  rcases Nat.lt_or_ge j listed.size with h' | h'
  ·exact h'
  ·simp [Array.getElem?_eq_none h'] at hjun
 have up : ∀ k, listed.getD k false = true → (listed.setIfInBounds j true).getD k false = true := fun k hk => by
  by_cases e : j = k
  ·subst e
   simp [Array.getElem?_setIfInBounds, hjlt]
  ·rw [getD_set_ne false e]; exact hk
 intro k o ho hk e he hb
 by_cases ek : j = k
 ·subst ek
  rw [hoj] at ho
  obtain rfl := Option.some.inj ho
  exact up _ (hall e he hb)
 ·rw [getD_set_ne false ek] at hk
  exact up _ (hD k o ho hk e he hb)
theorem wpH_first {i : Nat} {oi : Oper} {v : Value} (hi : ops[i]? = some oi) (him : i < m) (hwait : waitB ops m = true) (hsel : ∀ (j : Nat) (o : Oper) cs b, ops[j]? = some o → o.op ≠ .select cs b) :
  ∀ (fuel : Nat) (listed : Array Bool) (a : Act),
   Dn ops listed → (∀ j oj, ops[j]? = some oj → j ≠ i → listed.getD j true = false → (∀ e ∈ oj.after, Region.binds .any e = true → e.on ≠ i) → oi.apart ops oj = true) →
   i ∈ Region.ready .any ops listed → YieldsIn P ops C oi v a →
   wpH P ops C Q m fuel (listed.setIfInBounds i true) (a.put oi.dst v) → wpH P ops C Q m (fuel + 1) listed a := by
 intro fuel
 induction fuel with
 | zero =>
  intro listed a hD _ hr hy H
  have hT := allB_no him (mem_ready.1 hr).1
  refine ⟨fun h => (by rw [hT] at h; cases h), fun _ => ⟨fun h => (by rw [h] at hr; cases hr), fun j hj => ?_⟩⟩
  by_cases hji : j = i
  ·subst hji; exact hy.qOp hi H
  ·exfalso
   obtain ⟨hjun, oj, hoj, hall⟩ := mem_ready.1 hj
   have hjm : j < m := by
    rcases Nat.lt_or_ge j m with h | h
    ·exact h
    ·have h1 := waits_done hD _ j oj hoj hall (waitB_spec hwait hoj h him)
     rw [getD_ft (mem_ready.1 hr).1] at h1
     cases h1
   have := allB_no hjm (by rw [getD_set_ne true (Ne.symm hji)]; exact hjun : (listed.setIfInBounds i true).getD j true = false)
   rw [H.1] at this
   cases this
 | succ fuel ih =>
  intro listed a hD hfree hr hy H
  have hT := allB_no him (mem_ready.1 hr).1
  refine ⟨fun h => (by rw [hT] at h; cases h), fun _ => ⟨fun h => (by rw [h] at hr; cases hr), fun j hj => ?_⟩⟩
  by_cases hji : j = i
  ·subst hji; exact hy.qOp hi H
  ·obtain ⟨hjun, oj, hoj, hall⟩ := mem_ready.1 hj
   have hnot : ∀ e ∈ oj.after, Region.binds .any e = true → e.on ≠ i := fun e he hb heq => by
    have h1 := hall e he hb
    have h0 := (mem_ready.1 hr).1
    rw [heq] at h1
    rcases Nat.lt_or_ge i listed.size with h' | h'
    ·simp [h'] at h0 h1; rw [h0] at h1; cases h1
    ·simp [Array.getElem?_eq_none h'] at h1
   have hjm : j < m := by
    rcases Nat.lt_or_ge j m with h | h
    ·exact h
    ·have h1 := waits_done hD _ j oj hoj hall (waitB_spec hwait hoj h him)
     rw [getD_ft (mem_ready.1 hr).1] at h1
     cases h1
   have hT' := allB_no hjm (by rw [getD_set_ne true (Ne.symm hji)]; exact hjun : (listed.setIfInBounds i true).getD j true = false)
   have h1 := (H.2 hT').2 j (ready_mono hj hji)
   have h2 := qOp_put hoj (hfree j oj hoj hji hjun hnot) (fun cs b => hsel i oi cs b hi) (fun cs b => hsel j oj cs b hoj) hy h1
   have hfree' : ∀ k ok, ops[k]? = some ok → k ≠ i → (listed.setIfInBounds j true).getD k true = false →
     (∀ e ∈ ok.after, Region.binds .any e = true → e.on ≠ i) → oi.apart ops ok = true := fun k ok hk hki hun hno => by
    refine hfree k ok hk hki ?_ hno
    by_cases hjk : j = k
    ·subst hjk; exact hjun
    ·rw [getD_set_ne true hjk] at hun; exact hun
   refine qOp_mono (fun a' h3 => ih (listed.setIfInBounds j true) a' (hD.set hj) hfree' (ready_mono hr (Ne.symm hji)) h3.1 ?_) h2
   rw [Array.setIfInBounds_comm _ _ hji]
   exact h3.2
theorem getD_rep (n j : Nat) : (Array.replicate n false).getD j false = false := by
 rw [Array.getD_eq_getD_getElem?, Array.getElem?_replicate]
 split <;> rfl
def runL : Nat → Nat → Array Bool → Array Bool
 | 0, _, li => li
 | n + 1, k, li => runL n (k + 1) (li.setIfInBounds k true)
def preB (ops : Array Oper) : Nat → Nat → Array Bool → Bool
 | 0, _, _ => true
 | n + 1, k, li => (Region.ready .any ops li).contains k && Region.free .any ops li k && preB ops n (k + 1) (li.setIfInBounds k true)
def seqB (ops : Array Oper) : Nat → Nat → Array Bool → Bool
 | 0, _, li => (Region.ready .any ops li).isEmpty
 | n + 1, k, li => (Region.ready .any ops li == [k]) && seqB ops n (k + 1) (li.setIfInBounds k true)
theorem wpAny_seq : ∀ (l : List Oper) (k : Nat) (li : Array Bool) (a : Act) (w : World), (∀ j, l[j]? = ops[k + j]?) → seqB ops l.length k li = true → wpList P ops Q l a w → wpAny P .any ops Q l.length li a w
 | [], k, li, a, w, _, hB, h => ⟨by simpa [seqB] using hB, h⟩
 | o :: l, k, li, a, w, hl, hB, h => by
  simp only [List.length_cons, seqB, Bool.and_eq_true, beq_iff_eq] at hB
  have h0 : ops[k]? = some o := by simpa using (hl 0).symm
  refine ⟨fun h' => (by rw [hB.1] at h'; cases h'), fun i hi => ?_⟩
  rw [hB.1, List.mem_singleton] at hi
  subst hi
  have h2 : wpOp P ops Q i (wpList P ops Q l) a w := by unfold wpOp; simp only [h0]; exact h
  exact wpOp_mono (fun a' w' h3 => wpAny_seq l (i + 1) _ a' w' (fun j => by have := hl (j + 1); simpa [Nat.add_assoc, Nat.add_comm 1 j] using this) hB.2 h3) h2
theorem wpH_lex (hs : Region.noSelect ops = true) (hwait : waitB ops m = true) {K : Act → Prop} {f : Nat} : ∀ (l : List Oper) (k : Nat) (li : Array Bool) (a : Act), Dn ops li → k + l.length = m → (∀ j, j < l.length → l[j]? = ops[k + j]?) →
  preB ops l.length k li = true → allB m (runL l.length k li) = true → wpQuiet P ops C K l a → (∀ a, K a → ∀ w, C w → wpAny P .any ops Q f (runL l.length k li) a w) → wpH P ops C Q m (l.length + f) li a
 | [], k, li, a, _, _, _, _, hA, h, hK => by
  rw [List.length_nil, Nat.zero_add]
  exact wpH_all hA (hK a h)
 | o :: l, k, li, a, hD, hk, hl, hB, hA, h, hK => by
  have h0 : ops[k]? = some o := by simpa using (hl 0 (by simp)).symm
  simp only [List.length_cons, preB, Bool.and_eq_true] at hB
  obtain ⟨⟨hr, hf⟩, hB'⟩ := hB
  have hst : qOp P ops C k (wpQuiet P ops C K l) a := by unfold qOp; simp only [h0]; exact h
  obtain ⟨v, hy, hK'⟩ := yieldsIn_of_qOp h0 hst
  rw [List.length_cons, show l.length + 1 + f = (l.length + f) + 1 by omega]
  exact wpH_first h0 (by simp only [List.length_cons] at hk; omega) hwait (Region.noSelect_spec hs) _ li a hD (Region.free_spec h0 hf) (by simpa using hr) hy
   (wpH_lex hs hwait l (k + 1) _ _ (hD.set (by simpa using hr)) (by simp only [List.length_cons] at hk; omega) (fun j hj => by have := hl (j + 1) (by simp only [List.length_cons]; omega); simpa [Nat.add_assoc, Nat.add_comm 1 j] using this) hB' hA hK' hK)
def tailB (ops : Array Oper) (m t : Nat) : Bool := Region.noSelect ops && (waitB ops m && (preB ops m 0 (Array.replicate ops.size false) && (allB m (runL m 0 (Array.replicate ops.size false)) && (seqB ops t m (runL m 0 (Array.replicate ops.size false)) && Nat.beq (m + t) ops.size))))
theorem wp_region_tail {r : Option Nat} {id : Nat} {l0 l1 : List Oper} {a : Act} {w : World} (hm : P.follows .mixedOrders = true) (hB : tailB (l0 ++ l1).toArray l0.length l1.length = true) (hC : C { w with drawn := w.drawn + 1 })
  (h : wpQuiet P (l0 ++ l1).toArray C (fun a' => ∀ w', C w' → wpList P (l0 ++ l1).toArray Q l1 a' w') l0 a) : wpp r P (.region id (l0 ++ l1).toArray true) Q a w := by
 simp only [tailB, Bool.and_eq_true] at hB
 obtain ⟨h1, h2, h3, h4, h5, h6⟩ := hB
 refine wpp_region_any hm (wpAny_of_H (m := l0.length) _ _ _ _ hC ?_)
 have key := wpH_lex (Q := Q) (f := l1.length) h1 h2 l0 0 (Array.replicate (l0 ++ l1).toArray.size false) a (fun j o _ hj => by rw [getD_rep] at hj; cases hj) (by omega) (fun j hj => by simp [List.getElem?_append_left hj]) h3 h4 h (fun a' hK w' hw' => wpAny_seq l1 l0.length _ a' w' (fun j => by simp [List.getElem?_append_right]) h5 (hK w' hw'))
 have e : l0.length + l1.length = (l0 ++ l1).toArray.size := by simp
 exact (congrArg (fun s => wpH P (l0 ++ l1).toArray C Q l0.length s (Array.replicate (l0 ++ l1).toArray.size false) a) e).mp key
end
def memB (o : Oper) : Bool := match o.op with
 | .store .. => true
 | .alloc .. => true
 | .box .. => true
 | .buildSlice .. => true
 | .makeSlice .. => true
 | .makeMap .. => true
 | .mapUpdate .. => true
 | .call c => match c.callee with
  | .builtin .append => true
  | .builtin .delete => true
  | _ => false
 | _ => false
inductive Split : List Oper → List Oper → List Oper → Prop where
 | z {o : Oper} {r : List Oper} (h : memB o = true) : Split (o :: r) [] (o :: r)
 | s {o : Oper} {r x y : List Oper} (h : memB o = false) (k : Split r x y) : Split (o :: r) (o :: x) y
theorem Split.eq {l x y : List Oper} (h : Split l x y) : l = x ++ y := by
 induction h with
 | z h => rfl
 | s h k ih => rw [List.cons_append, ih]
section
variable {P : Program} {n : Nm} {l : Env} {C : World → Prop} {Q : Exit → Act → World → Prop}
theorem W.regq {id : Nat} {l0 x y : List Oper} (hs : Split l0 x y) (hm : P.follows .mixedOrders = true) (hB : tailB (x ++ y).toArray x.length y.length = true) (hC : ∀ w, C w → C { w with drawn := w.drawn + 1 })
  (h : QL P n l0.toArray C (fun a' => ∀ w', C w' → wpList P l0.toArray Q y a' w') x l) : W P n (.region id l0.toArray true) Q l C := ⟨fun a w hs' hc => by
 have := hs.eq
 subst this
 exact wp_region_tail (C := C) hm hB (hC w hc) (h.run a hs')⟩
inductive SplitN : Nat → List Oper → List Oper → List Oper → Prop where
 | z {r : List Oper} : SplitN 0 r [] r
 | s {k : Nat} {o : Oper} {r x y : List Oper} (h : SplitN k r x y) : SplitN (k + 1) (o :: r) (o :: x) y
theorem SplitN.eq {k : Nat} {l x y : List Oper} (h : SplitN k l x y) : l = x ++ y := by
 induction h with
 | z => rfl
 | s h ih => rw [List.cons_append, ih]
theorem W.regd0 {id : Nat} {l0 : List Oper} (hq : (l0.all fun o => !memB o) = true) (hm : P.follows .mixedOrders = true) (hB : Region.lexB .any l0.toArray = true) (hC : ∀ w, C w → C { w with drawn := w.drawn + 1 })
  (h : QL P n l0.toArray C (fun a' => ∀ w', C w' → Q .normal a' w') l0 l) : W P n (.region id l0.toArray true) Q l C := W.regd hm hB hC h
theorem QL.tail {ops : Array Oper} {y : List Oper} (h : OL P n ops Q y l C) : QL P n ops C (fun a' => ∀ w', C w' → wpList P ops Q y a' w') [] l := ⟨fun a hs w hc => h.run a w hs hc⟩
end
end Go.Eng

/- Slices over a block of the call's own that is changed in place: append within its room, clear; slices in two and three numbers; min; loads of several cells that the class tells. General. No condition. -/
namespace Go.Eng
open Go.RowKit
section
variable {P : Program} {n : Nm} {l : Env} {H : List Item} {S : List World} {C : World → Prop} {c : Bool} {d : Option Nat} {ty : TypeId} {pos : String} {af : Array Edge} {g : Option (Nat × Bool)}
variable {ops : Array Oper} {rest : List Oper} {Q : Exit → Act → World → Prop} {t : TypeId} {x y z u : Operand} {cx cy cz cu : Bool}
theorem slElem_both {e : TypeId} {sz : Nat} (hu : slElem P t = some (e, sz)) : P.underlying t = some (.slice e) ∧ sizeN P e = some sz := by
 unfold slElem at hu
 cases h1 : P.underlying t with
 | none => simp [h1] at hu
 | some d1 =>
  rw [h1] at hu
  cases d1 <;> simp only [reduceCtorEq] at hu
  rename_i e'
  cases h2 : sizeN P e' with
  | none => simp [h2] at hu
  | some k' =>
   rw [h2] at hu
   simp only [Option.some.injEq, Prod.mk.injEq] at hu
   obtain ⟨rfl, rfl⟩ := hu
   exact ⟨rfl, h2⟩
theorem Pev.load_clsA {q : Addr} {vs : List Value} {k : Nat} (hx : evl l x = some (cx, .pointer (some q))) (hcx : c = true → cx = true) (hs : aggN P t = some k) (hk : vs.length = k) (hv : c = true → ∀ w, C w → CellsAt w q vs) :
  Pev P n l C ⟨d, .load t x, ty, pos, af, g⟩ c (.agg vs.toArray) :=
 .load_of hx hcx fun h w hw => run_loadVar_agg (by rw [hk]; exact hs) (hv h w hw)
theorem Pev.min2 {k k' : IntKind} {a b : Int} {ats : Array TypeId} (hx : evl l x = some (cx, .int k a)) (hcx : c = true → cx = true) (hy : evl l y = some (cy, .int k' b)) (hcy : c = true → cy = true) :
  Pev P n l C ⟨d, .call { callee := .builtin .min, args := #[x, y], argTypes := ats }, ty, pos, af, g⟩ c (.int k (if b < a then b else a)) :=
 .of_run fun h ac w hs hw => by
  have hr := run_min_int2 (P := P) w ats ty k k' a b
  simp [execOp, resolve, invoke, builtin, hs.eval hx (hcx h), hs.eval hy (hcy h), hr]
theorem oneL_zero {z : Value} {zs : List Value} (hz : CellsL z zs) (h1 : oneL zs = true) (m : Nat) : oneL (Builtin.zeroCells z.cells m).toList = true := by
 have key : ∀ (xs : List Value), (∀ v ∈ xs, v.oneCell' = true) → oneL xs = true := by
  intro xs
  induction xs with
  | nil => intro _; rfl
  | cons v r ih => intro h; rw [oneL, h v (.head _), ih (fun u hu => h u (.tail _ hu))]; rfl
 refine key _ fun v hv => ?_
 rw [hz.eq] at hv
 simp only [Builtin.zeroCells, Array.toList_map, List.mem_map] at hv
 obtain ⟨i, hi, rfl⟩ := hv
 simp only [Array.toList_range, List.mem_range, List.size_toArray] at hi
 have hpos : 0 < zs.length := by
  rcases Nat.eq_zero_or_pos zs.length with h0 | h0
  ·rw [h0] at hi; omega
  ·exact h0
 have hlt : i % zs.toArray.size < zs.length := by simpa using Nat.mod_lt i hpos
 rw [getElem!_pos zs.toArray _ (by simpa using hlt)]
 exact oneL_mem h1 _ (by simp)
theorem putL_take : ∀ (vs cs : List Value) (o : Nat), (putL cs o vs).take o = cs.take o
 | [], cs, o => rfl
 | v :: vs, cs, o => by
  rw [putL]
  have h := putL_take vs (cs.set o v) (o + 1)
  have h2 := congrArg (List.take o) h
  rw [List.take_take, List.take_take, Nat.min_eq_left (by omega)] at h2
  rw [h2, List.take_set_of_le (Nat.le_refl _)]
theorem set_same {α : Type} {H : List α} {p : Nat} {i : α} (h : H[p]? = some i) : H.set p i = H := by
 obtain ⟨hlt, rfl⟩ := List.getElem?_eq_some_iff.1 h
 exact List.set_getElem_self hlt
theorem putL_drop {vs cs : List Value} {o m : Nat} (hf : o + vs.length ≤ cs.length) (h : o + vs.length ≤ m) : (putL cs o vs).drop m = cs.drop m := by
 rw [putL_eq _ _ _ hf, List.drop_append, List.drop_append, List.drop_of_length_le (by simp; omega), List.drop_of_length_le (l := vs) (by simp; omega), List.drop_drop]
 simp only [List.nil_append, List.length_append, List.length_take]
 congr 1
 omega
theorem putL_take2 {vs cs : List Value} {o : Nat} (hf : o + vs.length ≤ cs.length) : (putL cs o vs).take (o + vs.length) = cs.take o ++ vs := by
 rw [putL_eq _ _ _ hf, List.take_append_of_le_length (by simp; omega), List.take_of_length_le (by simp; omega)]
theorem OL.clear {e : TypeId} {sz m cp b o p : Nat} {q : Option Addr} {zv : Value} {zs cs : List Value} {t' : TypeId} {F : Item → List Item} (hx : evl l x = some (true, .slice q m cp)) (hu : slElem P t = some (e, sz)) (hz : zeroV P e = some zv) (hzs : CellsL zv zs) (hz1 : oneL zs = true) (hzl : zs.length = sz)
  (hH : Hole p H (blk b t' cs) F) (hq : 0 < m → q = some ⟨b, o, none⟩ ∧ o + m * sz ≤ cs.length)
  (k : ∀ cs' : List Value, cs'.length = cs.length → cs'.take o = cs.take o → OL P n ops Q rest l (Cls (F (blk b t' cs')) S)) :
  OL P n ops Q (⟨none, .call { callee := .builtin .clear, args := #[x], argTypes := #[t] }, ty, pos, af, none⟩ :: rest) l (Cls H S) := by
 obtain ⟨hp, hF⟩ := hH.eq
 obtain ⟨hus, hsz⟩ := slElem_both hu
 rcases Nat.eq_zero_or_pos m with rfl | hm
 ·have k0 := k cs rfl rfl
  rw [hF, set_same hp] at k0
  refine ⟨fun a w hs hc => ?_⟩
  refine wpList_plain rfl fun K hK => ?_
  show Oper.upon P _ a K Q ((execOp a.eval _).run P w)
  have hr : (Builtin.clear_ #[t] ty #[.slice q 0 cp]).run P w = .ok (.tuple #[]) w := by
   cases q <;> simp [Builtin.clear_, run_underlying hus]
  simp only [execOp, resolve, invoke, builtin, Sem.run_bind, Sem.run_pure, Result.andThen_ok, List.map_toArray, List.map_cons, List.map_nil, hs.eval hx rfl, hr]
  exact hK _ _ (k0.run a w hs hc)
 ·obtain ⟨rfl, hfit⟩ := hq hm
  have hzc : (Builtin.zeroCells zv.cells m).size = m * sz := by rw [size_zeroCells, hzs.eq, List.size_toArray, hzl]
  have k0 := k (putL cs o (Builtin.zeroCells zv.cells m).toList) (putL_length' _ _ _) (putL_take _ _ _)
  rw [hF] at k0
  refine ⟨fun a w hs hc => ?_⟩
  refine wpList_plain rfl fun K hK => ?_
  show Oper.upon P _ a K Q ((execOp a.eval _).run P w)
  obtain ⟨w', hr, hh, hkp⟩ := run_storeCells_blk (P := P) (o := o) (Builtin.zeroCells zv.cells m).toList 0 cs w (hc.item (List.mem_of_getElem? hp)) (by simp [hzc]; omega) (oneL_zero hzs hz1 m)
  have hr2 : (Builtin.clear_ #[t] ty #[.slice (some ⟨b, o, none⟩) m cp]).run P w = .ok (.tuple #[]) w' := by
   cases m with
   | zero => omega
   | succ m =>
    simp only [Builtin.clear_, List.getElem?_toArray, List.getElem?_cons_zero, Sem.run_bind, run_underlying hus, Result.andThen_ok, run_zeroV hz, hr, Sem.run_pure]
  simp only [execOp, resolve, invoke, builtin, Sem.run_bind, Sem.run_pure, Result.andThen_ok, List.map_toArray, List.map_cons, List.map_nil, hs.eval hx rfl, hr2]
  refine hK _ _ (k0.run a w' hs (hc.turn p hp (j := blk b t' (putL cs o (Builtin.zeroCells zv.cells m).toList)) hkp hh (fun q hq => ?_) (fun q hq => hq)))
  have hq' : q = b := hq
  subst hq'
  exact ⟨.inl rfl, Nat.lt_of_lt_of_le (hc.lt _ (List.mem_of_getElem? hp) q rfl) hkp.size⟩
theorem Ext_keep {w w0 w' : World} {b : Nat} (h : Ext w w0) (hk : Keep (fun k => k = b) w0 w') (hb : w.heap.size ≤ b) : Ext w w' :=
 ⟨hk.os.trans h.os, hk.tape.trans h.tape, hk.output.trans h.output, Nat.le_trans h.size hk.size, fun k hk' _ => (hk.block k (Nat.lt_of_lt_of_le hk' h.size) (fun e => by subst e; omega)).trans (h.block k hk' id)⟩
theorem OL.appendNew {e : TypeId} {dd sz bb b m cp : Nat} {ad : Addr} {news : List Value} (hx : evl l x = some (true, .slice (some ⟨b, 0, none⟩) 0 0)) (hy : evl l y = some (true, .slice (some ad) m cp)) (hn : Nat.ble (dd + 1) n.n = true) (hu : rowElem P t = some (e, sz, bb))
  (hb : blk b e [] ∈ H) (hsrc : ∀ w, Cls H S w → CellsAt w ad news) (hl : news.length = m * sz) (h1 : oneL news = true) (hlim : m ≤ maxLen ∧ m * bb ≤ 140737488355328)
  (k : ∀ (q' : Option Addr) (cap' : Nat), OL P n ops Q rest ((dd, true, .slice q' m cap') :: l) (fun w' => ∃ w0, Cls H S w0 ∧ Keep (fun k => k = b) w0 w' ∧ w'.ownsRow b e sz (.slice q' m cap') m news)) :
  OL P n ops Q (⟨some dd, .call { callee := .builtin .append, args := #[x, y], argTypes := #[t, t] }, ty, pos, af, none⟩ :: rest) l (Cls H S) := by
 refine OL.newT (α := Option Addr × Nat) (C' := fun r w' => ∃ w0, Cls H S w0 ∧ Keep (fun k => k = b) w0 w' ∧ w'.ownsRow b e sz (.slice r.1 m r.2) m news) rfl rfl hn (fun r => .slice r.1 m r.2) (fun a w hs' hc => ?_) (fun r => k r.1 r.2)
 obtain ⟨i, z, g1, g2, g3, g4, g5, g6, g7⟩ := rowElem_spec hu
 have hblk := hc.item hb
 have hbl := blk_lt hblk
 have hown : w.ownsRow b e sz (.slice (some ⟨b, 0, none⟩) 0 0) 0 [] := ⟨by simp, .inr ⟨b, 0, #[], rfl, Nat.le_refl _, hblk, Nat.le_refl _, by simp [maxLen], by simp, by simp⟩⟩
 obtain ⟨v', w', hr, h2, h3, h4, h5⟩ := run_append_own_at (P := P) (w := w) b t ty e i z sz bb g1 g2 g3 g4 g5 g6 g7 _ 0 [] hown ad m cp news hl (hsrc w hc) (oneL_mem h1) (by rw [Nat.zero_add]; exact hlim.1) (by rw [Nat.zero_add]; exact hlim.2) (by omega)
 rw [Nat.zero_add, List.nil_append] at h2
 have hv : ∃ q' cap', v' = .slice q' m cap' := by
  rcases h2.2 with ⟨rfl, rfl⟩ | ⟨g', cap', cur, rfl, _⟩
  ·exact ⟨none, 0, rfl⟩
  ·exact ⟨_, _, rfl⟩
 obtain ⟨q', cap', rfl⟩ := hv
 refine ⟨(q', cap'), w', ?_, w, hc, ⟨h3.os, h3.tape, h3.output, h3.size, fun k hk hne => h3.block k hk (fun e => hne (by simpa [Value.ownBlock] using e))⟩, h2⟩
 simp only [execOp, resolve, invoke, builtin, Sem.run_bind, Sem.run_pure, Result.andThen_ok, List.map_toArray, List.map_cons, List.map_nil, hs'.eval hx rfl, hs'.eval hy rfl, hr]
end
end Go.Eng

/- A region that draws its order and whose operations write memory beside one another: an invariant over the set of operations that are done. General. No condition. -/
namespace Go.Eng
open Go.RowKit
inductive SubO (l : Env) (n : Nm) (old : Nat → Value) : Env → Prop where
 | nil : SubO l n old []
 | cons {t : Nat} {c : Bool} {v : Value} {l' : Env} (h : look l t = some (c, v)) (r : SubO l n old l') : SubO l n old ((t, c, v) :: l')
 | old {t : Nat} {l' : Env} (h : Nat.ble (t + 1) n.n = true) (r : SubO l n old l') : SubO l n old ((t, true, old t) :: l')
section
variable {P : Program} {ops : Array Oper} {Q : Exit → Act → World → Prop}
end
section
variable {P : Program} {n : Nm} {l : Env} {C : World → Prop} {Q : Exit → Act → World → Prop} {S : List World}
def Closed (l0 : List Oper) (e : Nat → Bool) : Prop := ∀ j o, l0[j]? = some o → e j = true → ∀ d ∈ o.after, Region.binds .any d = true → e d.on = true
theorem Closed.not {l0 : List Oper} {e : Nat → Bool} (h : Closed l0 e) {i j : Nat} {o : Oper} (ho : l0[j]? = some o) (hi : e i = false) (hd : (o.after.any fun d => Nat.beq d.on i && Region.binds .any d) = true) : e j = false := by
 cases hj : e j
 ·rfl
 ·rw [Array.any_eq_true] at hd
  obtain ⟨k, hk, h3⟩ := hd
  simp only [Bool.and_eq_true, Nat.beq_eq] at h3
  have := h j o ho hj _ (Array.getElem_mem hk) h3.2
  rw [h3.1, hi] at this
  exact this.symm
theorem upon_Q {o : Oper} {a : Act} {K : Act → World → Prop} {Q Q' : Exit → Act → World → Prop} (hp : ∀ e a w, e ≠ .normal → Q e a w → Q' e a w) {r : Result Next} (h : Oper.upon P o a K Q r) : Oper.upon P o a K Q' r := by
 have hlet : LetsOut Q → LetsOut Q' := fun ⟨a, w, hq⟩ => ⟨a, w, hp _ _ _ (by simp) hq⟩
 cases r with
 | ok n w' =>
  cases n <;> simp only [Oper.upon] at h ⊢ <;>
   first
    | exact h
    | exact Calls.mono h (fun e w'' he => by cases e <;> first | exact he | exact hp _ _ _ (by simp) he | exact hlet he)
 | halt x w' =>
  cases x <;> simp only [Oper.upon] at h ⊢ <;> first | exact h | exact hp _ _ _ (by simp) h
end
def nothing : Item := ⟨fun _ => False, fun _ => True, fun _ _ _ _ => trivial⟩
theorem NotOwned.nothing {H : List Item} {k : Nat} (r : NotOwned H k) : NotOwned (Eng.nothing :: H) k := NotOwned.any (fun h => h) r
theorem NotOwned.bif {c : Bool} {i j : Item} {H : List Item} {k : Nat} (hi : NotOwned [i] k) (hj : NotOwned [j] k) (r : NotOwned H k) : NotOwned ((bif c then i else j) :: H) k := by
 refine NotOwned.any (fun h => ?_) r
 cases c
 ·exact hj.not ⟨j, by simp, h⟩
 ·exact hi.not ⟨i, by simp, h⟩
theorem Hole.parts {p : Nat} {H : List Item} {i : Item} {F : Item → List Item} (h : Hole p H i F) : ∃ H1 H2, H = H1 ++ i :: H2 ∧ ∀ j, F j = H1 ++ j :: H2 := by
 induction h with
 | z => exact ⟨[], _, rfl, fun j => rfl⟩
 | s h ih =>
  obtain ⟨H1, H2, h1, h2⟩ := ih
  exact ⟨_ :: H1, H2, by rw [h1]; rfl, fun j => by show _ :: _ = _; rw [h2 j]; rfl⟩
theorem Cls.fill {p : Nat} {H : List Item} {S : List World} {j : Item} {F : Item → List Item} {w : World} (hh : Hole p H nothing F) (h : Cls (j :: H) S w) : Cls (F j) S w := by
 obtain ⟨H1, H2, rfl, hF⟩ := hh.parts
 rw [hF]
 have hsub : ∀ i, i ∈ H1 ++ j :: H2 → i ∈ j :: (H1 ++ nothing :: H2) := fun i hi => by
  simp only [List.mem_append, List.mem_cons] at hi ⊢
  rcases hi with h | h | h
  ·exact .inr (.inl h)
  ·exact .inl h
  ·exact .inr (.inr (.inr h))
 have hd := h.dj
 rw [List.pairwise_cons, List.pairwise_append, List.pairwise_cons] at hd
 obtain ⟨hj, h1, ⟨_, h2⟩, h12⟩ := hd
 refine ⟨fun i hi => h.holds i (hsub i hi), fun i hi => h.lt i (hsub i hi), ?_, fun s hs => (h.kp s hs).mono fun k _ ⟨i, hi, hk⟩ => ?_⟩
 ·rw [List.pairwise_append, List.pairwise_cons]
  refine ⟨h1, ⟨fun b hb => hj b (by simp [hb]), h2⟩, fun a ha b hb => ?_⟩
  rcases List.mem_cons.1 hb with rfl | hb
  ·exact fun k hk hk' => hj a (by simp [ha]) k hk' hk
  ·exact h12 a ha b (by simp [hb])
 ·simp only [List.mem_cons, List.mem_append] at hi
  rcases hi with rfl | h | rfl | h
  ·exact ⟨_, by simp, hk⟩
  ·exact ⟨i, by simp [h], hk⟩
  ·exact hk.elim
  ·exact ⟨i, by simp [h], hk⟩
end Go.Eng

/- More rules: what a class tells, calls of function values that change the class, a store into a grown row, forgetting ahead of an unknown rest. General. No condition. -/
namespace Go.Eng
open Go.RowKit
section
variable {P : Program} {n : Nm} {l : Env} {H : List Item} {S : List World} {C : World → Prop} {c : Bool} {d : Option Nat} {ty : TypeId} {pos : String} {af : Array Edge} {g : Option (Nat × Bool)}
variable {ops : Array Oper} {rest : List Oper} {Q : Exit → Act → World → Prop} {t : TypeId} {x y z : Operand} {cx cy cz : Bool}
theorem W.fact {code : Code} {φ : Prop} (h : ∀ w, C w → φ) (k : φ → W P n code Q l C) : W P n code Q l C := ⟨fun a w hs hc => (k (h w hc)).run a w hs hc⟩
theorem OL.fact {φ : Prop} (h : ∀ w, C w → φ) (k : φ → OL P n ops Q rest l C) : OL P n ops Q rest l C := ⟨fun a w hs hc => (k (h w hc)).run a w hs hc⟩
theorem At.fact {e : Exit} {φ : Prop} (h : ∀ w, C w → φ) (k : φ → At n Q e l C) : At n Q e l C := ⟨fun a w hs hc => (k (h w hc)).run a w hs hc⟩
theorem OL.sub {l' : Env} {C' : World → Prop} (hs : Sub l l') (hc : ∀ w, C w → C' w) (h : OL P n ops Q rest l' C') : OL P n ops Q rest l C := ⟨fun a w s c => h.run a w (s.sub hs) (hc w c)⟩
theorem Thin.same : ∀ {H : List Item}, Thin S H H
 | [] => .nil
 | _ :: _ => .keep Thin.same
theorem OL.cls {C' : World → Prop} (hc : ∀ w, C w → C' w) (h : OL P n ops Q rest l C') : OL P n ops Q rest l C := ⟨fun a w s c => h.run a w s (hc w c)⟩
theorem W.cls {code : Code} {C' : World → Prop} (hc : ∀ w, C w → C' w) (h : W P n code Q l C') : W P n code Q l C := ⟨fun a w s c => h.run a w s (hc w c)⟩
theorem Cls.perm {H' : List Item} {w : World} (h : Cls H S w) (hp : H.Perm H') : Cls H' S w :=
 ⟨fun i hi => h.holds i (hp.mem_iff.2 hi), fun i hi => h.lt i (hp.mem_iff.2 hi), (hp.pairwise_iff (fun {i j} hij k hj hi => hij k hi hj)).1 h.dj, fun s hs => (h.kp s hs).mono fun k _ ⟨i, hi, hk⟩ => ⟨i, hp.mem_iff.1 hi, hk⟩⟩
theorem Cls.flip {w : World} {i j : Item} (h : Cls (i :: j :: H) S w) : Cls (j :: i :: H) S w := h.perm (List.Perm.swap _ _ _)
end
end Go.Eng

/- Grown rows of structs: their elements read in place, the last ones taken away. General. No condition. -/
namespace Go.Eng
open Go.RowKit
section
variable {P : Program} {n : Nm} {l : Env} {C : World → Prop} {Q : Exit → Act → World → Prop}
theorem W.joinx {G : Type} {code r : Code} (Φ : G → Prop) (lg : G → Env) (Cg : G → World → Prop) (h1 : W P n code (Exit.then (fun a w => ∃ g, Φ g ∧ Sees n (lg g) a ∧ Cg g w) Q) l C) (h2 : ∀ g, Φ g → W P n r Q (lg g) (Cg g)) : W P n code (Exit.then (wpp n.r P r Q) Q) l C :=
 ⟨fun a w hs hc => wpp_mono (h1.run a w hs hc) fun e a' w' hq => by
  cases e with
  | normal =>
   obtain ⟨g, hg, hs', hc'⟩ := hq
   exact (h2 g hg).run a' w' hs' hc'
  | _ => exact hq⟩
theorem At.joinedx {G : Type} {Φ : G → Prop} {lg : G → Env} {Cg : G → World → Prop} (g : G) (hg : Φ g) (hs : Sub l (lg g)) (hc : ∀ w, C w → Cg g w) : At n (Exit.then (fun a w => ∃ g, Φ g ∧ Sees n (lg g) a ∧ Cg g w) Q) .normal l C := ⟨fun a w s c => ⟨g, hg, s.sub hs, hc w c⟩⟩
end
theorem row_cap {w : World} {base m cap size : Nat} {O : Nat → Prop} {q : Option Addr} {e : TypeId} {xs : List Value} (h : (row base O q m cap e size xs).holds w) : m ≤ cap := by
 rcases h.2.2 with ⟨h3, h4⟩ | ⟨g, cap', cur, h3, _, _, hn, _⟩
 ·omega
 ·simp only [Value.slice.injEq] at h3
  omega
def fieldT (P : Program) (t : TypeId) (i : Nat) : Option (TypeId × Nat) := match P.underlying t with
 | some (.struct fs) => match fs[i]? with
  | some f => match lit f.offset with
   | some o => match scalB P f.type with
    | true => some (f.type, o)
    | false => none
   | none => none
  | none => none
 | _ => none
section
variable {P : Program} {n : Nm} {l : Env} {H : List Item} {S : List World} {C : World → Prop} {c : Bool} {d : Option Nat} {ty : TypeId} {pos : String} {af : Array Edge} {g : Option (Nat × Bool)} {t : TypeId} {x : Operand} {cx : Bool}
variable {α : Type} {f : α → List Value} {sz : Nat}
theorem Pev.pick_off {x y z : Operand} {cx cz b : Bool} {v : Value} (hx : evl l x = some (cx, .bool b)) (hc : c = true → cx = true) (hb : c = true → b = false) (hz : evl l z = some (cz, v)) (hcz : c = true → cz = true) : Pev P n l C ⟨d, .pick x y z, ty, pos, af, g⟩ c v :=
 .of_run fun h a w hs hw => by
  rw [run_pick (hs.eval hx (hc h)), hb h, cond_false, hs.eval hz (hcz h)]
theorem Pev.pick_on {x y z : Operand} {cx cy b : Bool} {v : Value} (hx : evl l x = some (cx, .bool b)) (hc : c = true → cx = true) (hb : c = true → b = true) (hy : evl l y = some (cy, v)) (hcy : c = true → cy = true) : Pev P n l C ⟨d, .pick x y z, ty, pos, af, g⟩ c v :=
 .of_run fun h a w hs hw => by
  rw [run_pick (hs.eval hx (hc h)), hb h, cond_true, hs.eval hy (hcy h)]
theorem Pev.field {i o : Nat} {ft : TypeId} {cs : List Value} {v : Value} (hx : evl l x = some (cx, .agg cs.toArray)) (hcx : c = true → cx = true) (hf : fieldT P t i = some (ft, o)) (hv : cs[o]? = some v) : Pev P n l C ⟨d, .field t x i, ty, pos, af, g⟩ c v :=
 .of_run fun h a w hs hw => by
  unfold fieldT at hf
  cases hu : P.underlying t with
  | none => simp [hu] at hf
  | some dd =>
   rw [hu] at hf
   cases dd <;> simp only [reduceCtorEq] at hf
   rename_i fs
   cases hi : fs[i]? with
   | none => simp [hi] at hf
   | some f =>
    simp only [hi] at hf
    cases ho : lit f.offset with
    | none => simp [ho] at hf
    | some o' =>
     simp only [ho] at hf
     cases hb : scalB P f.type with
     | false => simp [hb] at hf
     | true =>
      simp only [hb] at hf
      simp only [Option.some.injEq, Prod.mk.injEq] at hf
      obtain ⟨_, rfl⟩ := hf
      have h2 := lit_eq ho
      simp [execOp, Instr.field, Sem.run_bind, run_underlying hu, hs.eval hx (hcx h), hi, asAgg, part, run_isAgg_scal hb, h2, hv]
theorem Pev.load_rowC {b o j i base m cap : Nat} {O : Nat → Prop} {e : TypeId} {L : List α} {u : α} {v : Value} (hx : evl l x = some (cx, .pointer (some ⟨b, o + j, none⟩))) (hcx : c = true → cx = true) (hp : row base O (some ⟨b, 0, none⟩) m cap e sz (cat f L) ∈ H)
  (hs : scalB P t = true) (hf : ∀ x, (f x).length = sz) (hL : c = true → L[i]? = some u) (hv : (f u)[j]? = some v) (ho : c = true → o = i * sz) : Pev P n l (Cls H S) ⟨d, .load t x, ty, pos, af, g⟩ c v :=
 .load_of hx hcx fun hc w hw => run_loadVar_scal hs (by
  rw [ho hc]
  exact row_cell (hw.item hp) (cat_get hf (hL hc) j v hv))
end
end Go.Eng

/- A pile of slices: rows that are finished, with the blocks that they own. General. No condition. -/
namespace Go.Eng
open Go.RowKit
structure Sl where
 q : Option Addr
 cap : Nat
 xs : List Value
theorem cell_heap {w w' : World} {a : Addr} (h : w'.heap[a.block]? = w.heap[a.block]?) : w'.cell? a = w.cell? a := by
 unfold World.cell?
 rw [h]
def pile (B : Nat) (O : Nat → Prop) (L : List Sl) : Item :=
 ⟨fun k => B ≤ k ∧ O k, fun w => ∀ s ∈ L, 0 < s.xs.length → ∃ a, s.q = some a ∧ (B ≤ a.block ∧ O a.block) ∧ CellsAt w a s.xs, fun w w' hk h s hs hl => by
  obtain ⟨a, h1, h2, h3⟩ := h s hs hl
  exact ⟨a, h1, h2, fun j v hj => by rw [cell_heap (w := w) (hk _ (by rw [add_block]; exact h2))]; exact h3 j v hj⟩⟩
theorem pile_at {w : World} {B : Nat} {O : Nat → Prop} {L : List Sl} {s : Sl} (h : (pile B O L).holds w) (hs : s ∈ L) : SlAt w w.heap.size s.q s.xs := fun hl => by
 obtain ⟨a, h1, h2, h3⟩ := h s hs hl
 refine ⟨a, h1, ?_, h3⟩
 have := h3 0 _ (List.getElem?_eq_getElem hl)
 have := cell_lt this
 rwa [add_block] at this
theorem pile_some {w : World} {B : Nat} {O : Nat → Prop} {L : List Sl} {s : Sl} (h : (pile B O L).holds w) (hs : s ∈ L) (hl : 0 < s.xs.length) : ∃ a, s.q = some a := by
 obtain ⟨a, h1, _⟩ := h s hs hl
 exact ⟨a, h1⟩
theorem NotOwned.pile {H : List Item} {B k : Nat} {O : Nat → Prop} {L : List Sl} (h : k < B) (r : NotOwned H k) : NotOwned (Eng.pile B O L :: H) k := NotOwned.any (fun ho => Nat.not_le_of_lt h ho.1) r
section
variable {P : Program} {n : Nm} {l : Env} {H : List Item} {S : List World} {C : World → Prop} {c : Bool} {d : Option Nat} {ty : TypeId} {pos : String} {af : Array Edge} {g : Option (Nat × Bool)}
variable {t : TypeId} {x : Operand} {cx : Bool}
theorem Pev.load_pile {a : Addr} {k B : Nat} {O : Nat → Prop} {L : List Sl} {s : Sl} {v : Value} (hx : evl l x = some (cx, .pointer (some (a.add k)))) (hcx : c = true → cx = true) (hp : pile B O L ∈ H) (hs : scalB P t = true)
  (hL : s ∈ L) (hq : s.q = some a) (hv : s.xs[k]? = some v) : Pev P n l (Cls H S) ⟨d, .load t x, ty, pos, af, g⟩ c v :=
 .load_of hx hcx fun _ w hw => run_loadVar_scal hs (by
  obtain ⟨a', h1, _, h3⟩ := hw.item hp s hL (by have := (List.getElem?_eq_some_iff.1 hv).1; omega)
  rw [hq] at h1
  obtain rfl := Option.some.inj h1
  exact h3 k v hv)
end
end Go.Eng

/- Readings as relations: nested structs and slices as plain data, wherever they lie; items for memory that is finished. General. No condition. -/
namespace Go.Eng
open Go.RowKit Go.ChangeShapes Go.WideShapes Go.ChangeAt
structure Rel (α μ : Type) where
 sz : Nat
 pos : 0 < sz
 cells : α → μ → List Value
 ok : World → (Nat → Prop) → α → μ → Prop
 len : ∀ x y, (cells x y).length = sz
 stab : ∀ {w w' : World} {O : Nat → Prop} {x y}, (∀ k, O k → w'.heap[k]? = w.heap[k]?) → ok w O x y → ok w' O x y
 mono : ∀ {w : World} {O O' : Nat → Prop} {x y}, (∀ k, O k → O' k) → ok w O x y → ok w O' x y
abbrev low (w : World) (k : Nat) : Prop := k < w.heap.size
def fresh (w w' : World) (k : Nat) : Prop := w.heap.size ≤ k ∧ k < w'.heap.size
section
variable {α μ : Type} {R : Rel α μ} {w w' : World} {O O' : Nat → Prop} {l : List (α × μ)} {q : Option Addr}
abbrev Rel.c (R : Rel α μ) (p : α × μ) : List Value := R.cells p.1 p.2
theorem Rel.clen (R : Rel α μ) (p : α × μ) : (R.c p).length = R.sz := R.len _ _
structure Arr (R : Rel α μ) (w : World) (O : Nat → Prop) (l : List (α × μ)) (q : Option Addr) : Prop where
 at_ : 0 < l.length → ∃ a, q = some a ∧ O a.block ∧ CellsAt w a (cat R.c l)
 el : ∀ p ∈ l, R.ok w O p.1 p.2
theorem cells_stab {a : Addr} {cs : List Value} (h : w'.heap[a.block]? = w.heap[a.block]?) (hc : CellsAt w a cs) : CellsAt w' a cs := fun j v hj => by
 rw [cell_heap (w := w) (by rw [add_block]; exact h)]
 exact hc j v hj
theorem Arr.stab (hk : ∀ k, O k → w'.heap[k]? = w.heap[k]?) (h : Arr R w O l q) : Arr R w' O l q :=
 ⟨fun hl => by
  obtain ⟨a, h1, h2, h3⟩ := h.at_ hl
  exact ⟨a, h1, h2, cells_stab (hk _ h2) h3⟩, fun p hp => R.stab hk (h.el p hp)⟩
theorem Arr.mono (hk : ∀ k, O k → O' k) (h : Arr R w O l q) : Arr R w O' l q :=
 ⟨fun hl => by
  obtain ⟨a, h1, h2, h3⟩ := h.at_ hl
  exact ⟨a, h1, hk _ h2, h3⟩, fun p hp => R.mono hk (h.el p hp)⟩
theorem Arr.nil : Arr R w O [] q := ⟨fun h => by simp at h, fun p h => by cases h⟩
theorem Arr.get (h : Arr R w O l q) {i : Nat} (hi : i < l.length) : ∃ a p, q = some a ∧ O a.block ∧ l[i]? = some p ∧ CellsAt w (a.add (i * R.sz)) (R.cells p.1 p.2) ∧ R.ok w O p.1 p.2 := by
 obtain ⟨a, h1, h2, h3⟩ := h.at_ (by omega)
 have hp : l[i]? = some l[i] := List.getElem?_eq_getElem hi
 exact ⟨a, l[i], h1, h2, hp, fun j v hj => by rw [add_add]; exact h3 _ _ (cat_get (f := R.c) R.clen hp j v hj), h.el _ (List.getElem_mem hi)⟩
theorem Arr.take (h : Arr R w O l q) (n : Nat) : Arr R w O (l.take n) q :=
 ⟨fun hl => by
  obtain ⟨a, h1, h2, h3⟩ := h.at_ (by simp at hl; omega)
  refine ⟨a, h1, h2, fun j v hj => h3 j v ?_⟩
  have hjl := (List.getElem?_eq_some_iff.1 hj).1
  rw [← cat_take (f := R.c) R.clen l n] at hj hjl
  rw [List.length_take] at hjl
  rwa [List.getElem?_take_of_lt (by omega)] at hj, fun p hp => h.el p (List.mem_of_mem_take hp)⟩
theorem Arr.slAt (h : Arr R w (low w) l q) : SlAt w w.heap.size q (cat R.c l) := fun hv => by
 rw [cat_length (f := R.c) R.clen] at hv
 obtain ⟨a, h1, h2, h3⟩ := h.at_ (Nat.pos_of_mul_pos_right hv)
 exact ⟨a, h1, h2, h3⟩
def ArrP (R : Rel α μ) (w : World) (O : Nat → Prop) (l : List α) (q : Option Addr) : Prop := ∃ ps : List (α × μ), ps.map Prod.fst = l ∧ Arr R w O ps q
theorem ArrP.stab {l : List α} (hk : ∀ k, O k → w'.heap[k]? = w.heap[k]?) (h : ArrP R w O l q) : ArrP R w' O l q := by
 obtain ⟨ps, h1, h2⟩ := h
 exact ⟨ps, h1, h2.stab hk⟩
theorem ArrP.mono {l : List α} (hk : ∀ k, O k → O' k) (h : ArrP R w O l q) : ArrP R w O' l q := by
 obtain ⟨ps, h1, h2⟩ := h
 exact ⟨ps, h1, h2.mono hk⟩
theorem ArrP.nil : ArrP R w O [] q := ⟨[], rfl, Arr.nil⟩
theorem Cls.same {H : List Item} {S : List World} (h : Cls H S w') (hs : w ∈ S) (hno : ∀ k, k < w.heap.size → NotOwned H k) : ∀ k, low w k → w'.heap[k]? = w.heap[k]? :=
 fun k hk => (h.kp w hs).block k hk (hno k hk).not
theorem Cls.up {H : List Item} {S : List World} (h : Cls H S w') (hs : w ∈ S) : ∀ k, low w k → low w' k :=
 fun k hk => Nat.lt_of_lt_of_le hk (h.kp w hs).size
theorem Rel.at {H : List Item} {S : List World} {x : α} {y : μ} (h : R.ok w (low w) x y) (hw : Cls H S w') (hs : w ∈ S) (hno : ∀ k, k < w.heap.size → NotOwned H k) : R.ok w' (low w') x y :=
 R.mono (hw.up hs) (R.stab (hw.same hs hno) h)
theorem Arr.at {H : List Item} {S : List World} (h : Arr R w (low w) l q) (hw : Cls H S w') (hs : w ∈ S) (hno : ∀ k, k < w.heap.size → NotOwned H k) : Arr R w' (low w') l q :=
 Arr.mono (hw.up hs) (Arr.stab (hw.same hs hno) h)
theorem ArrP.at {l : List α} {H : List Item} {S : List World} (h : ArrP R w (low w) l q) (hw : Cls H S w') (hs : w ∈ S) (hno : ∀ k, k < w.heap.size → NotOwned H k) : ArrP R w' (low w') l q :=
 ArrP.mono (hw.up hs) (ArrP.stab (hw.same hs hno) h)
theorem Rel.ext {x : α} {y : μ} (h : R.ok w (low w) x y) (hx : Ext w w') : R.ok w' (low w') x y :=
 R.mono (fun k hk => Nat.lt_of_lt_of_le hk hx.size) (R.stab (fun k hk => hx.block k hk id) h)
theorem Arr.ext (h : Arr R w (low w) l q) (hx : Ext w w') : Arr R w' (low w') l q :=
 Arr.mono (fun k hk => Nat.lt_of_lt_of_le hk hx.size) (Arr.stab (fun k hk => hx.block k hk id) h)
/-! ### Finished things that the call owns -/
def pool (R : Rel α μ) (B : Nat) (O : Nat → Prop) (l : List (α × μ)) : Item :=
 ⟨fun k => B ≤ k ∧ O k, fun w => ∀ p ∈ l, R.ok w (fun k => B ≤ k ∧ O k) p.1 p.2, fun w w' hk h p hp => R.stab hk (h p hp)⟩
theorem NotOwned.pool {H : List Item} {B k : Nat} {O : Nat → Prop} {l : List (α × μ)} (h : k < B) (r : NotOwned H k) : NotOwned (Eng.pool R B O l :: H) k := NotOwned.any (fun ho => Nat.not_le_of_lt h ho.1) r
theorem Cls.pool_nil {H : List Item} {S : List World} (h : Cls H S w) (R : Rel α μ) (B : Nat) : Cls (pool R B (fun _ => False) [] :: H) S w :=
 h.add (Keep.refl _ w) _ (fun s hs => by cases hs) (fun k hk => hk.2.elim)
theorem Cls.pool_push {p B : Nat} {H : List Item} {S : List World} {F : Item → List Item} {x : α} {y : μ} (hh : Hole p H (pool R B O l) F) (h : Cls H S w) (hB : B ≤ w.heap.size) (he : Ext w w') (hx : R.ok w' (fresh w w') x y) :
  Cls (F (pool R B (fun k => O k ∨ fresh w w' k) (l ++ [(x, y)]))) S w' := by
 obtain ⟨h1, h2⟩ := hh.eq
 rw [h2]
 have hm := List.mem_of_getElem? h1
 have hi := h.holds _ hm
 have hl := h.lt _ hm
 refine h.turn p h1 ⟨he.os, he.tape, he.output, he.size, fun k hk hn => he.block k hk id⟩ (fun z hz => ?_) (fun k hk => ?_) (fun k hk => ⟨hk.1, .inl hk.2⟩)
 ·rcases List.mem_append.1 hz with hz | hz
  ·refine R.mono (O := fun k => B ≤ k ∧ O k) (fun k hk => ⟨hk.1, .inl hk.2⟩) (R.stab (fun k hk => he.block k (hl k hk) id) (hi z hz))
  ·obtain rfl := List.mem_singleton.1 hz
   exact R.mono (fun k hk => ⟨Nat.le_trans hB hk.1, .inr hk⟩) hx
 ·obtain ⟨h3, h4 | h4⟩ := hk
  ·exact ⟨.inl ⟨h3, h4⟩, Nat.lt_of_lt_of_le (hl k ⟨h3, h4⟩) he.size⟩
  ·exact ⟨.inr h4.1, h4.2⟩
theorem Arr.of {B m cap : Nat} {O1 O2 : Nat → Prop} {e : TypeId} (h1 : (row B O1 q m cap e R.sz (cat R.c l)).holds w) (h2 : (pool R B O2 l).holds w) : Arr R w (fun k => B ≤ k ∧ (O1 k ∨ O2 k)) l q where
 at_ := fun hl => by
  have hc : 0 < (cat R.c l).length := by
   rw [cat_length (f := R.c) R.clen]
   exact Nat.mul_pos hl R.pos
  obtain ⟨a, h3, _, h5⟩ := SlAt.of_row h1 hc
  have h6 := h1.1 a h3
  refine ⟨a, h3, ⟨?_, .inl h6⟩, h5⟩
  rcases h1.2.2 with ⟨h7, _⟩ | ⟨g, cap', cur, h7, hb, _⟩
  ·simp only [Value.slice.injEq] at h7
   rw [h7.1] at h3; cases h3
  ·simp only [Value.slice.injEq] at h7
   rw [h7.1] at h3
   obtain rfl := Option.some.inj h3
   exact hb
 el := fun p hp => R.mono (fun k hk => ⟨hk.1, .inr hk.2⟩) (h2 p hp)
theorem Cls.arr {H : List Item} {S : List World} {B m cap : Nat} {O1 O2 : Nat → Prop} {e : TypeId} (h : Cls H S w) (h1 : row B O1 q m cap e R.sz (cat R.c l) ∈ H) (h2 : pool R B O2 l ∈ H) : Arr R w (low w) l q :=
 (Arr.of (h.item h1) (h.item h2)).mono (by
  rintro k ⟨hb, ho | ho⟩
  ·exact h.lt _ h1 k ⟨hb, ho⟩
  ·exact h.lt _ h2 k ⟨hb, ho⟩)
end
/-! ### Types -/
def tyc (t : Ty) (y : Option Addr × Nat) : List Value := [.int .i64 t.kind, .string t.name, .int .i64 t.var, .slice y.1 t.args.length y.2]
mutual
def TyO (s : World) (O : Nat → Prop) : Ty → Option Addr × Nat → Prop
 | .mk k nm v «as», y => I64 k ∧ I64 v ∧ ((«as».length : Int) ≤ 9223372036854775807 ∧ «as».length ≤ y.2) ∧ (0 < «as».length → ∃ a, y.1 = some a ∧ O a.block ∧ TyOs s O «as» a)
def TyOs (s : World) (O : Nat → Prop) : List Ty → Addr → Prop
 | [], _ => True
 | t :: r, a => (∃ y, CellsAt s a (tyc t y) ∧ TyO s O t y) ∧ TyOs s O r (a.add 4)
end
mutual
theorem TyO.stab {w w' : World} {O : Nat → Prop} (hk : ∀ k, O k → w'.heap[k]? = w.heap[k]?) : ∀ {t : Ty} {y : Option Addr × Nat}, TyO w O t y → TyO w' O t y
 | .mk k nm v «as», y, h => by
  simp only [TyO] at h ⊢
  obtain ⟨h1, h2, h3, h4⟩ := h
  refine ⟨h1, h2, h3, fun hl => ?_⟩
  obtain ⟨a, ha, hb, hall⟩ := h4 hl
  exact ⟨a, ha, hb, TyOs.stab hk hb hall⟩
theorem TyOs.stab {w w' : World} {O : Nat → Prop} (hk : ∀ k, O k → w'.heap[k]? = w.heap[k]?) : ∀ {«as» : List Ty} {a : Addr}, O a.block → TyOs w O «as» a → TyOs w' O «as» a
 | [], _, _, _ => by simp only [TyOs]
 | t :: r, a, hb, h => by
  simp only [TyOs] at h ⊢
  obtain ⟨⟨y, h1, h2⟩, h3⟩ := h
  exact ⟨⟨y, cells_stab (hk _ hb) h1, TyO.stab hk h2⟩, TyOs.stab hk (by rw [add_block]; exact hb) h3⟩
end
mutual
theorem TyO.mono {w : World} {O O' : Nat → Prop} (hk : ∀ k, O k → O' k) : ∀ {t : Ty} {y : Option Addr × Nat}, TyO w O t y → TyO w O' t y
 | .mk k nm v «as», y, h => by
  simp only [TyO] at h ⊢
  obtain ⟨h1, h2, h3, h4⟩ := h
  refine ⟨h1, h2, h3, fun hl => ?_⟩
  obtain ⟨a, ha, hb, hall⟩ := h4 hl
  exact ⟨a, ha, hk _ hb, TyOs.mono hk hall⟩
theorem TyOs.mono {w : World} {O O' : Nat → Prop} (hk : ∀ k, O k → O' k) : ∀ {«as» : List Ty} {a : Addr}, TyOs w O «as» a → TyOs w O' «as» a
 | [], _, _ => by simp only [TyOs]
 | t :: r, a, h => by
  simp only [TyOs] at h ⊢
  obtain ⟨⟨y, h1, h2⟩, h3⟩ := h
  exact ⟨⟨y, h1, TyO.mono hk h2⟩, TyOs.mono hk h3⟩
end
def tyR : Rel Ty (Option Addr × Nat) where
 sz := 4
 pos := by decide
 cells := tyc
 ok := TyO
 len := fun _ _ => rfl
 stab := fun hk h => TyO.stab hk h
 mono := fun hk h => TyO.mono hk h
theorem TyOs.list {w : World} {O : Nat → Prop} : ∀ {«as» : List Ty} {a : Addr}, TyOs w O «as» a → ∃ ps : List (Ty × (Option Addr × Nat)), ps.map Prod.fst = «as» ∧ CellsAt w a (cat tyR.c ps) ∧ ∀ p ∈ ps, TyO w O p.1 p.2
 | [], a, _ => ⟨[], rfl, fun j v hj => by simp [cat] at hj, fun p hp => by cases hp⟩
 | t :: r, a, h => by
  simp only [TyOs] at h
  obtain ⟨⟨y, h1, h2⟩, h3⟩ := h
  obtain ⟨ps, h4, h5, h6⟩ := TyOs.list h3
  refine ⟨(t, y) :: ps, by simp [h4], fun j v hj => ?_, fun p hp => ?_⟩
  ·rw [cat] at hj
   by_cases e : j < 4
   ·rw [List.getElem?_append_left (by exact e)] at hj
    exact h1 j v hj
   ·rw [List.getElem?_append_right (by show 4 ≤ j; omega)] at hj
    have := h5 _ v hj
    rw [add_add] at this
    rwa [show 4 + (j - (tyR.c (t, y)).length) = j from by show 4 + (j - 4) = j; omega] at this
  ·rcases List.mem_cons.1 hp with rfl | hp
   ·exact h2
   ·exact h6 p hp
theorem TyOs.of_list {w : World} {O : Nat → Prop} : ∀ {ps : List (Ty × (Option Addr × Nat))} {a : Addr}, CellsAt w a (cat tyR.c ps) → (∀ p ∈ ps, TyO w O p.1 p.2) → TyOs w O (ps.map Prod.fst) a
 | [], a, _, _ => by simp only [List.map_nil, TyOs]
 | p :: ps, a, h, hp => by
  simp only [List.map_cons, TyOs]
  refine ⟨⟨p.2, fun j v hj => h j v ?_, hp p (.head _)⟩, TyOs.of_list (fun j v hj => ?_) (fun x hx => hp x (.tail _ hx))⟩
  ·rw [cat, List.getElem?_append_left (by have := (List.getElem?_eq_some_iff.1 hj).1; exact this)]
   exact hj
  ·rw [add_add]
   refine h (4 + j) v ?_
   rw [cat, List.getElem?_append_right (by show 4 ≤ 4 + j; omega)]
   rw [show 4 + j - (tyR.c p).length = j from by show 4 + j - 4 = j; omega]
   exact hj
theorem TyO.parts {w : World} {O : Nat → Prop} {k v : Int} {nm : ByteArray} {«as» : List Ty} {y : Option Addr × Nat} (h : TyO w O (.mk k nm v «as») y) : I64 k ∧ I64 v ∧ «as».length ≤ 9223372036854775807 ∧ ∃ ps : List (Ty × (Option Addr × Nat)), ps.map Prod.fst = «as» ∧ Arr tyR w O ps y.1 := by
 simp only [TyO] at h
 obtain ⟨h1, h2, h3, h4⟩ := h
 refine ⟨h1, h2, by omega, ?_⟩
 cases «as» with
 | nil => exact ⟨[], rfl, Arr.nil⟩
 | cons t r =>
  obtain ⟨a, ha, hb, hall⟩ := h4 (by simp)
  obtain ⟨ps, h5, h6, h7⟩ := hall.list
  exact ⟨ps, h5, fun _ => ⟨a, ha, hb, h6⟩, h7⟩
theorem TyO.cap {w : World} {O : Nat → Prop} : ∀ {t : Ty} {y : Option Addr × Nat}, TyO w O t y → t.args.length ≤ y.2
 | .mk k nm v «as», y, h => by
  simp only [TyO] at h
  exact h.2.2.1.2
theorem TyO.of_parts {w : World} {O : Nat → Prop} {k v : Int} {nm : ByteArray} {ps : List (Ty × (Option Addr × Nat))} {q : Option Addr} {cap : Nat} (hk : I64 k) (hv : I64 v) (hl : ps.length ≤ 9223372036854775807) (hc : ps.length ≤ cap) (h : Arr tyR w O ps q) : TyO w O (.mk k nm v (ps.map Prod.fst)) (q, cap) := by
 simp only [TyO]
 refine ⟨hk, hv, ⟨by rw [List.length_map]; omega, by rw [List.length_map]; exact hc⟩, fun h0 => ?_⟩
 rw [List.length_map] at h0
 obtain ⟨a, h1, h2, h3⟩ := h.at_ h0
 exact ⟨a, h1, h2, TyOs.of_list h3 h.el⟩
mutual
theorem TyO.of_C {w : World} {B : Nat} : ∀ {t : Ty} {cs : List Value}, TyC w B t cs → ∃ y, cs = tyc t y ∧ TyO w (fun k => k < B) t y
 | .mk k nm v «as», cs, h => by
  simp only [TyC] at h
  obtain ⟨q, cap, rfl, h2, h3, h4, h5⟩ := h
  refine ⟨(q, cap), rfl, ?_⟩
  simp only [TyO]
  refine ⟨h2, h3, h4, fun hl => ?_⟩
  obtain ⟨a, ha, hb, hall⟩ := h5 hl
  exact ⟨a, ha, hb, TyOs.of_C hall⟩
theorem TyOs.of_C {w : World} {B : Nat} : ∀ {«as» : List Ty} {a : Addr}, TyAll w B «as» a → TyOs w (fun k => k < B) «as» a
 | [], _, _ => by simp only [TyOs]
 | t :: r, a, h => by
  simp only [TyAll] at h
  simp only [TyOs]
  obtain ⟨⟨cs, h1, h2⟩, h3⟩ := h
  obtain ⟨y, rfl, h4⟩ := TyO.of_C h2
  exact ⟨⟨y, h1, h4⟩, TyOs.of_C h3⟩
end
/-! ### Reading arguments -/
section
variable {H : Type} {enc : TypeId × Value → H} {P : Program} {w : World} {spare : Nat → Bool} {held : Bool} {α μ : Type} {R : Rel α μ}
theorem rd_arr {t e : TypeId} {fuel : Nat} {cs : List Value} {x : DataW H × List MemPlace} (ht : P.underlying t = some (.slice e)) (hs : P.cellsOf e = R.sz)
  (he : ∀ (n : Nat) (cs' : List Value) (y : DataW H × List MemPlace), n < fuel → DataW.trod enc P w 0 spare held n e cs' = some y → ∃ u : α × μ, cs' = R.c u ∧ R.ok w (low w) u.1 u.2)
  (h : DataW.trod enc P w 0 spare held fuel t cs = some x) :
  ∃ (q : Option Addr) (l : List (α × μ)) (cap : Nat), cs = [.slice q l.length cap] ∧ l.length ≤ cap ∧ cap ≤ maxLen ∧ Arr R w (low w) l q := by
 obtain ⟨q, len, cap, rfl, hle, hcap, hq0, m, hm, hel⟩ := slice_reads ht hs h
 cases q with
 | none =>
  obtain rfl := hq0 rfl
  exact ⟨none, [], cap, rfl, hle, hcap, Arr.nil⟩
 | some a =>
  obtain ⟨l, hl, hr⟩ := list_of (fun i (u : α × μ) => CellsAt w (a.add (i * R.sz)) (R.c u) ∧ R.ok w (low w) u.1 u.2) len (fun i hi => by
   obtain ⟨cs', y, hc, hl1, ht'⟩ := hel a rfl i hi
   obtain ⟨u, rfl, hR⟩ := he m cs' y hm ht'
   exact ⟨u, hc, hR⟩)
  subst hl
  refine ⟨some a, l, cap, rfl, hle, hcap, fun hl0 => ⟨a, rfl, ?_, fun j v hj => ?_⟩, fun u hu => ?_⟩
  ·have h0 := (hr 0 _ (List.getElem?_eq_getElem hl0)).1
   rw [Nat.zero_mul, add_zero_] at h0
   have hz : 0 < (R.c l[0]).length := by rw [R.clen]; exact R.pos
   have := h0 0 _ (List.getElem?_eq_getElem hz)
   rw [add_zero_] at this
   exact cell_lt this
  ·have hjl := (List.getElem?_eq_some_iff.1 hj).1
   rw [cat_length (f := R.c) R.clen] at hjl
   have hi : j / R.sz < l.length := Nat.div_lt_of_lt_mul (by rwa [Nat.mul_comm] at hjl)
   have h0 := (hr (j / R.sz) _ (List.getElem?_eq_getElem hi)).1
   have hm' : j % R.sz < (R.c l[j / R.sz]).length := by rw [R.clen]; exact Nat.mod_lt _ R.pos
   have h1 := cat_get (f := R.c) R.clen (List.getElem?_eq_getElem hi) (j % R.sz) _ (List.getElem?_eq_getElem hm')
   have ej : j / R.sz * R.sz + j % R.sz = j := by rw [Nat.mul_comm]; exact Nat.div_add_mod j R.sz
   rw [ej, hj] at h1
   have h2 := h0 (j % R.sz) _ (List.getElem?_eq_getElem hm')
   rw [add_add, ej] at h2
   rw [h2, h1]
  ·obtain ⟨i, hi, rfl⟩ := List.getElem_of_mem hu
   exact (hr i _ (List.getElem?_eq_getElem hi)).2
end
end Go.Eng

/- Blocks of elements of several cells: make, load, store at a place that is reckoned; a result beside one in a cell. General. No condition. -/
namespace Go.Eng
open Go.RowKit
section
variable {α : Type} {f : α → List Value} {sz : Nat}
theorem putL_get : ∀ (vs cs : List Value) (o j : Nat), o + vs.length ≤ cs.length → (putL cs o vs)[j]? = if o ≤ j ∧ j < o + vs.length then vs[j - o]? else cs[j]?
 | [], cs, o, j, _ => by
  rw [putL, if_neg]
  simp
 | v :: r, cs, o, j, h => by
  simp only [List.length_cons] at h
  rw [putL, putL_get r (cs.set o v) (o + 1) j (by rw [List.length_set]; omega)]
  by_cases h1 : o + 1 ≤ j ∧ j < o + 1 + r.length
  ·rw [if_pos h1, if_pos (by simp only [List.length_cons]; omega), show j - o = (j - (o + 1)) + 1 by omega, List.getElem?_cons_succ]
  ·rw [if_neg h1, List.getElem?_set]
   by_cases h2 : o = j
   ·subst h2
    rw [if_pos rfl, if_pos (by omega), if_pos (by simp only [List.length_cons]; omega)]
    simp
   ·rw [if_neg h2, if_neg (by simp only [List.length_cons]; omega)]
theorem cat_set (hf : ∀ x, (f x).length = sz) (hsz : 0 < sz) {l : List α} {i : Nat} {x : α} (hi : i < l.length) : putL (cat f l) (i * sz) (f x) = cat f (l.set i x) := by
 apply List.ext_getElem?
 intro j
 have hle : i * sz + sz ≤ l.length * sz := by rw [← Nat.succ_mul]; exact Nat.mul_le_mul_right _ hi
 rw [putL_get _ _ _ _ (by rw [hf, cat_length hf]; exact hle), hf]
 by_cases hj : j < l.length * sz
 ·have hq : j / sz < l.length := Nat.div_lt_of_lt_mul (by rwa [Nat.mul_comm] at hj)
  have hm : j % sz < sz := Nat.mod_lt _ hsz
  have ej : j / sz * sz + j % sz = j := by rw [Nat.mul_comm]; exact Nat.div_add_mod j sz
  have hget : ∀ (L : List α) (y : α), L[j / sz]? = some y → (cat f L)[j]? = (f y)[j % sz]? := fun L y hy => by
   have hm2 : j % sz < (f y).length := by rw [hf]; exact hm
   have h1 : (f y)[j % sz]? = some (f y)[j % sz] := List.getElem?_eq_getElem hm2
   have h2 := cat_get hf hy (j % sz) _ h1
   rw [ej] at h2
   rw [h2, h1]
  by_cases hc : i * sz ≤ j ∧ j < i * sz + sz
  ·have hji : j / sz = i := Nat.div_eq_of_lt_le hc.1 (by rw [Nat.succ_mul]; exact hc.2)
   rw [if_pos hc, hget (l.set i x) x (by rw [hji, List.getElem?_set, if_pos rfl, if_pos hi])]
   congr 1
   rw [hji] at ej
   omega
  ·have hji : i ≠ j / sz := fun e => hc (by
    rw [e]
    omega)
   have hy : l[j / sz]? = some l[j / sz] := List.getElem?_eq_getElem hq
   rw [if_neg hc, hget l _ hy, hget (l.set i x) _ (by rw [List.getElem?_set_ne hji]; exact hy)]
 ·rw [if_neg (by omega), List.getElem?_eq_none (by rw [cat_length hf]; omega), List.getElem?_eq_none (by rw [cat_length hf, List.length_set]; omega)]
end
section
variable {P : Program} {n : Nm} {l : Env} {H : List Item} {S : List World} {C : World → Prop} {c : Bool} {d : Option Nat} {ty : TypeId} {pos : String} {af : Array Edge} {g : Option (Nat × Bool)}
variable {ops : Array Oper} {rest : List Oper} {Q : Exit → Act → World → Prop} {t : TypeId} {x y : Operand} {cx cy : Bool}
def zeroCells (P : Program) (e : TypeId) : Option (List Value) := match P.info? e with
 | some i => match i.zero with
  | some z => some z.cells.toList
  | none => none
 | none => none
theorem madeCells_cat {α : Type} {f : α → List Value} {x0 : α} {zs : Array Value} {sz : Nat} (hz : f x0 = zs.toList) (hl : zs.size = sz) (hsz : 0 < sz) (m : Nat) : madeCells zs (m * sz) = (cat f (List.replicate m x0)).toArray := by
 have hlen : ∀ m, (cat f (List.replicate m x0)).length = m * sz := by
  intro m
  induction m with
  | zero => simp [cat]
  | succ m ih => rw [List.replicate_succ, cat, List.length_append, ih, hz, Array.length_toList, hl, Nat.succ_mul, Nat.add_comm]
 have hget : ∀ (m i : Nat), i < m * sz → (cat f (List.replicate m x0))[i]? = zs[i % sz]? := by
  intro m
  induction m with
  | zero => intro i hi; omega
  | succ m ih =>
   intro i hi
   rw [List.replicate_succ, cat]
   by_cases h : i < sz
   ·rw [List.getElem?_append_left (by rw [hz, Array.length_toList, hl]; exact h), hz, Array.getElem?_toList, Nat.mod_eq_of_lt h]
   ·rw [List.getElem?_append_right (by rw [hz, Array.length_toList, hl]; omega), hz, Array.length_toList, hl, ih (i - sz) (by rw [Nat.succ_mul] at hi; omega)]
    rw [← Nat.mod_eq_sub_mod (by omega)]
 apply Array.ext
 ·simp [madeCells, hlen]
 ·intro i h1 h2
  have hi : i < m * sz := by simpa [madeCells] using h1
  have hm : i % sz < zs.size := by rw [hl]; exact Nat.mod_lt _ hsz
  have h3 := hget m i hi
  rw [List.getElem?_eq_getElem (by rw [hlen]; exact hi), Array.getElem?_eq_getElem hm] at h3
  simp only [List.getElem_toArray]
  rw [Option.some.inj h3]
  simp [madeCells, hl]
  exact getElem!_pos zs _ hm
theorem OL.makeSliceK {α : Type} {f : α → List Value} {x0 : α} {e : TypeId} {dd m sz bb : Nat} {k1 k2 : IntKind} {a1 a2 : Int} (hx : evl l x = some (true, .int k1 a1)) (hy : evl l y = some (true, .int k2 a2)) (hn : Nat.ble (dd + 1) n.n = true)
  (hu : rowElem P t = some (e, sz, bb)) (hz : zeroCells P e = some (f x0)) (hl : (f x0).length = sz) (h1 : a1 = (m : Int)) (h2 : a2 = (m : Int)) (hlim : m ≤ 9223372036854775807 ∧ m * bb ≤ 140737488355328)
  (k : ∀ b, AllLe S b → OL P n ops Q rest ((dd, true, .slice (some ⟨b, 0, none⟩) m m) :: l) (Cls (blk b e (cat f (List.replicate m x0)) :: H) S)) :
  OL P n ops Q (⟨some dd, .makeSlice t x y, ty, pos, af, none⟩ :: rest) l (Cls H S) := by
 obtain ⟨i, z, g1, g2, g3, g4, g5, g6, g7⟩ := rowElem_spec hu
 subst h1
 subst h2
 have hcell : f x0 = z.cells.toList := by
  unfold zeroCells at hz
  rw [g2] at hz
  simp only [g3, Option.some.injEq] at hz
  exact hz.symm
 refine OL.new (C' := fun b w => AllLe S b ∧ Cls (blk b e (cat f (List.replicate m x0)) :: H) S w) rfl rfl hn (fun b => .slice (some ⟨b, 0, none⟩) m m) (fun a w hs hc => ⟨w.heap.size, w.alloc (.cells (cat f (List.replicate m x0)).toArray e), ?_, AllLe.mk hc, hc.alloc e (cat f (List.replicate m x0))⟩) (fun b => ⟨fun a w hs hc => (k b hc.1).run a w hs hc.2⟩)
 have hb : (i.bytes : Int) * (m : Int) ≤ 281474976710656 := by
  have h3 := hlim.2
  rw [← g5, Nat.mul_comm] at h3
  have h5 : ((i.bytes * m : Nat) : Int) ≤ ((140737488355328 : Nat) : Int) := Int.ofNat_le.2 h3
  rw [Int.natCast_mul] at h5
  exact Int.le_trans h5 (by decide)
 have hr := run_make (P := P) w t e i z g1 g2 g3 k1 k2 (m : Int) (m : Int) (by omega) (by omega) hb (by omega)
 have hzs : z.cells.size = sz := by rw [← hl, hcell, Array.length_toList]
 rw [g4, Int.toNat_natCast, madeCells_cat hcell hzs g7] at hr
 simp only [execOp, hs.eval hx rfl, hs.eval hy rfl, Sem.run_bind, hr, Result.andThen_ok]
 rfl
end
end Go.Eng

/- A store of an element into a grown row; an item that joins a pool. General. No condition. -/
namespace Go.Eng
open Go.RowKit
theorem putL_takeC : ∀ (vs l : List Value) (o m : Nat), (putL l o vs).take m = putL (l.take m) o vs
 | [], _, _, _ => rfl
 | v :: vs, l, o, m => by rw [putL, putL_takeC vs, List.take_set, putL]
section
variable {P : Program} {n : Nm} {l : Env} {H : List Item} {S : List World} {ops : Array Oper} {rest : List Oper} {Q : Exit → Act → World → Prop} {t ty : TypeId} {x y : Operand} {pos : String} {af : Array Edge} {w : World} {B : Nat} {i : Item}
theorem OL.storeRA {g0 o p base m cap size k : Nat} {O : Nat → Prop} {e : TypeId} {xs vs : List Value} {v : Value} {F : Item → List Item} (hx : evl l x = some (true, .pointer (some ⟨g0, o, none⟩))) (hy : evl l y = some (true, v)) (hv : CellsL v vs)
  (hs : sizeN P t = some k) (hk : vs.length = k) (h1 : oneL vs = true) (hH : Hole p H (row base O (some ⟨g0, 0, none⟩) m cap e size xs) F) (hl : o + vs.length ≤ xs.length)
  (kk : OL P n ops Q rest l (Cls (F (row base O (some ⟨g0, 0, none⟩) m cap e size (putL xs o vs))) S)) : OL P n ops Q (⟨none, .store t x y, ty, pos, af, none⟩ :: rest) l (Cls H S) := by
 obtain ⟨hp, hF⟩ := hH.eq
 rw [hF] at kk
 refine OL.store_ (C' := Cls (H.set p (row base O (some ⟨g0, 0, none⟩) m cap e size (putL xs o vs))) S) rfl rfl (fun a w hs' hc => ?_) kk
 have hi := hc.item (List.mem_of_getElem? hp)
 obtain ⟨hO, hxl, hor⟩ := hi
 rcases hor with ⟨h3, _⟩ | ⟨gg, cap', cur, h3, hb, hg, h4, h5, h6, h7⟩
 ·cases h3
 ·simp only [Value.slice.injEq, Option.some.injEq, Addr.mk.injEq] at h3
  obtain ⟨⟨rfl, _⟩, _, rfl⟩ := h3
  have hcl : o + vs.length ≤ cur.toList.length := by
   rw [← h7, List.length_take] at hl
   omega
  obtain ⟨w', hr', hh, hkp⟩ := run_storeAt_blk (P := P) (o := o) (vs := vs) (cs := cur.toList) (t' := e) (w := w) (b := g0) (by simpa using hg) hs hv.eq hk hcl h1
  refine ⟨w', ?_, hc.turn p hp (j := row base O (some ⟨g0, 0, none⟩) m cap e size (putL xs o vs)) ⟨hkp.os, hkp.tape, hkp.output, hkp.size, fun k hk hn => hkp.block k hk (fun e2 => hn (by rw [show k = g0 from e2]; exact ⟨hb, hO _ rfl⟩))⟩ ?_ (fun q hq => ⟨.inl hq, Nat.lt_of_lt_of_le (hc.lt _ (List.mem_of_getElem? hp) q hq) hkp.size⟩) (fun q hq => hq)⟩
  ·simp only [execOp, hs'.eval hx rfl, hs'.eval hy rfl, Sem.run_bind, hr', Result.andThen_ok]; rfl
  ·refine ⟨hO, by rw [putL_length']; exact hxl, .inr ⟨g0, cap, (putL cur.toList o vs).toArray, rfl, hb, hh, h4, h5, by rw [List.size_toArray, putL_length']; simpa using h6, ?_⟩⟩
   rw [← h7]
   exact putL_takeC _ _ _ _
end
section
variable {P : Program} {n : Nm} {l : Env} {C : World → Prop} {c : Bool} {d : Option Nat} {ty : TypeId} {pos : String} {af : Array Edge} {g : Option (Nat × Bool)} {t : TypeId} {x : Operand} {cx : Bool}
theorem Cls.nothing_in {H : List Item} {S : List World} {w : World} (h : Cls H S w) : Cls (nothing :: H) S w := h.add (Keep.refl _ w) _ trivial (fun k hk => hk.elim)
theorem row_is {w : World} {base m cap size : Nat} {O : Nat → Prop} {q : Option Addr} {e : TypeId} {xs : List Value} (h : (row base O q m cap e size xs).holds w) (hx : 0 < xs.length) : ∃ g, q = some ⟨g, 0, none⟩ ∧ base ≤ g := by
 obtain ⟨a, h1, h2, h3⟩ := SlAt.of_row h hx
 rcases h.2.2 with ⟨h4, h5⟩ | ⟨g, cap', cur, h4, h5, _⟩
 ·simp only [Value.slice.injEq] at h4
  rw [h4.1] at h1; cases h1
 ·simp only [Value.slice.injEq] at h4
  exact ⟨g, h4.1, h5⟩
end
end Go.Eng

/- Finished slices that are told by address and cells. General. No condition. -/
namespace Go.Eng
open Go.RowKit
def arena (B : Nat) (O : Nat → Prop) (L : List (Addr × List Value)) : Item :=
 ⟨fun k => B ≤ k ∧ O k, fun w => ∀ x ∈ L, (B ≤ x.1.block ∧ O x.1.block) ∧ CellsAt w x.1 x.2, fun w w' hk h x hx => ⟨(h x hx).1, cells_stab (hk _ (h x hx).1) (h x hx).2⟩⟩
theorem NotOwned.arena {H : List Item} {B k : Nat} {O : Nat → Prop} {L : List (Addr × List Value)} (h : k < B) (r : NotOwned H k) : NotOwned (Eng.arena B O L :: H) k := NotOwned.any (fun ho => Nat.not_le_of_lt h ho.1) r
def slL (q : Option Addr) (vs : List Value) : List (Addr × List Value) := match q with
 | some a => if 0 < vs.length then [(a, vs)] else []
 | none => []
theorem slL_mem {q : Option Addr} {vs : List Value} {x : Addr × List Value} (h : x ∈ slL q vs) : q = some x.1 ∧ x.2 = vs ∧ 0 < vs.length := by
 unfold slL at h
 cases q with
 | none => cases h
 | some a =>
  simp only at h
  split at h
  ·rw [List.mem_singleton] at h
   rename_i hl
   rw [h]
   exact ⟨rfl, rfl, hl⟩
  ·cases h
theorem slL_in {a : Addr} {vs : List Value} (h : 0 < vs.length) : (a, vs) ∈ slL (some a) vs := by
 unfold slL
 simp only
 rw [if_pos h]
 exact .head _
def Seen (s : World) (L : List (Addr × List Value)) (q : Option Addr) (vs : List Value) : Prop := 0 < vs.length → ∃ a, q = some a ∧ ((a, vs) ∈ L ∨ (a.block < s.heap.size ∧ CellsAt s a vs))
theorem Seen.mono {s : World} {L L' : List (Addr × List Value)} {q : Option Addr} {vs : List Value} (h : Seen s L q vs) (hL : ∀ x ∈ L, x ∈ L') : Seen s L' q vs := fun hl => by
 obtain ⟨a, h1, h2⟩ := h hl
 exact ⟨a, h1, h2.imp (hL _) id⟩
theorem Seen.nil {s : World} {L : List (Addr × List Value)} {q : Option Addr} : Seen s L q [] := fun h => by cases h
theorem Seen.old {s : World} {L : List (Addr × List Value)} {q : Option Addr} {vs : List Value} (h : SlAt s s.heap.size q vs) : Seen s L q vs := fun hl => by
 obtain ⟨a, h1, h2, h3⟩ := h hl
 exact ⟨a, h1, .inr ⟨h2, h3⟩⟩
theorem Seen.new {s : World} {L : List (Addr × List Value)} {q : Option Addr} {vs : List Value} (hq : 0 < vs.length → ∃ a, q = some a) (hL : ∀ x ∈ slL q vs, x ∈ L) : Seen s L q vs := fun hl => by
 obtain ⟨a, rfl⟩ := hq hl
 exact ⟨a, rfl, .inl (hL _ (slL_in hl))⟩
section
variable {H : List Item} {S : List World} {w w' s : World} {B : Nat} {O : Nat → Prop} {L : List (Addr × List Value)} {i : Item}
theorem Seen.slAt {q : Option Addr} {vs : List Value} (h : Seen s L q vs) (hw : Cls H S w) (hs : s ∈ S) (ha : arena B O L ∈ H) (hno : ∀ k, k < s.heap.size → NotOwned H k) : SlAt w w.heap.size q vs := fun hl => by
 obtain ⟨a, h1, h2⟩ := h hl
 rcases h2 with h2 | ⟨h2, h3⟩
 ·obtain ⟨h4, h5⟩ := hw.item ha _ h2
  exact ⟨a, h1, hw.lt _ ha _ h4, h5⟩
 ·exact ⟨a, h1, hw.up hs _ h2, cells_stab (hw.same hs hno _ h2) h3⟩
theorem Cls.arena_nil (h : Cls H S w) (B : Nat) : Cls (arena B (fun _ => False) [] :: H) S w := h.add (Keep.refl _ w) _ (fun x hx => by cases hx) (fun k hk => hk.2.elim)
theorem Cls.arena_more {p : Nat} {F : Item → List Item} (hh : Hole p H (arena B O L) F) (h : Cls H S w) (hB : B ≤ w.heap.size) (he : Ext w w') (l2 : List (Addr × List Value)) (hx : ∀ x ∈ l2, fresh w w' x.1.block ∧ CellsAt w' x.1 x.2) : Cls (F (arena B (fun k => O k ∨ fresh w w' k) (L ++ l2))) S w' := by
 obtain ⟨h1, h2⟩ := hh.eq
 rw [h2]
 have hm := List.mem_of_getElem? h1
 have hi := h.holds _ hm
 have hl := h.lt _ hm
 refine h.turn p h1 ⟨he.os, he.tape, he.output, he.size, fun k hk hn => he.block k hk id⟩ (fun z hz => ?_) (fun k hk => ?_) (fun k hk => ⟨hk.1, .inl hk.2⟩)
 ·rcases List.mem_append.1 hz with hz | hz
  ·obtain ⟨h3, h4⟩ := hi z hz
   exact ⟨⟨h3.1, .inl h3.2⟩, cells_stab (he.block _ (hl _ h3) id) h4⟩
  ·obtain ⟨h3, h4⟩ := hx z hz
   exact ⟨⟨Nat.le_trans hB h3.1, .inr h3⟩, h4⟩
 ·obtain ⟨h3, h4 | h4⟩ := hk
  ·exact ⟨.inl ⟨h3, h4⟩, Nat.lt_of_lt_of_le (hl k ⟨h3, h4⟩) he.size⟩
  ·exact ⟨.inr h4.1, h4.2⟩
theorem Cls.arena_join (h : Cls (i :: arena B O L :: H) S w) (hB : ∀ k, i.own k → B ≤ k) (l2 : List (Addr × List Value)) (hx : ∀ x ∈ l2, i.own x.1.block ∧ CellsAt w x.1 x.2) : Cls (arena B (fun k => O k ∨ i.own k) (L ++ l2) :: H) S w := by
 have hp := h.item (i := arena B O L) (by simp)
 have hd := h.dj
 rw [List.pairwise_cons, List.pairwise_cons] at hd
 obtain ⟨hr1, hp1, hH⟩ := hd
 refine ⟨fun j hj => ?_, fun j hj => ?_, ?_, fun s hs => (h.kp s hs).mono fun k _ ⟨j, hj, hk⟩ => ?_⟩
 ·rcases List.mem_cons.1 hj with rfl | hj
  ·intro p hpm
   rcases List.mem_append.1 hpm with hpm | hpm
   ·obtain ⟨h3, h4⟩ := hp p hpm
    exact ⟨⟨h3.1, .inl h3.2⟩, h4⟩
   ·obtain ⟨h3, h4⟩ := hx p hpm
    exact ⟨⟨hB _ h3, .inr h3⟩, h4⟩
  ·exact h.holds j (by simp [hj])
 ·rcases List.mem_cons.1 hj with rfl | hj
  ·rintro k ⟨h1, h2 | h2⟩
   ·exact h.lt (arena B O L) (by simp) k ⟨h1, h2⟩
   ·exact h.lt i (by simp) k h2
  ·exact h.lt j (by simp [hj])
 ·refine List.pairwise_cons.2 ⟨fun j hj k hk hj2 => ?_, hH⟩
  obtain ⟨h1, h2 | h2⟩ := hk
  ·exact hp1 j hj k ⟨h1, h2⟩ hj2
  ·exact hr1 j (by simp [hj]) k h2 hj2
 ·rcases List.mem_cons.1 hj with rfl | hj
  ·exact ⟨_, .head _, hB k hk, .inr hk⟩
  ·rcases List.mem_cons.1 hj with rfl | hj
   ·exact ⟨_, .head _, hk.1, .inl hk.2⟩
   ·exact ⟨j, by simp [hj], hk⟩
theorem Cls.arena_row {m cap size : Nat} {O5 : Nat → Prop} {q : Option Addr} {e : TypeId} {xs : List Value} (h : Cls (row B O5 q m cap e size xs :: arena B O L :: H) S w) : Cls (arena B (fun k => O k ∨ (row B O5 q m cap e size xs).own k) (L ++ slL q xs) :: H) S w :=
 h.arena_join (fun k hk => hk.1) _ (fun x hx => by
  obtain ⟨h1, h2, h3⟩ := slL_mem hx
  have hr := h.item (i := row B O5 q m cap e size xs) (.head _)
  obtain ⟨a, h4, h5, h6⟩ := SlAt.of_row hr h3
  rw [h1] at h4
  obtain rfl := Option.some.inj h4
  obtain ⟨g, h7, h8⟩ := row_is hr h3
  rw [h1] at h7
  have h9 := hr.1 _ h1
  rw [h2]
  refine ⟨⟨?_, h9⟩, h6⟩
  rw [Option.some.inj h7]
  exact h8)
end
end Go.Eng

/- Plain: patterns, values that are known in parts, the narrowing of rows, missing values and useful rows. No program in sight. No condition. -/
namespace Go.Pt
open Go.Eng
structure Co where
 name : ByteArray
 many : Nat
structure Da where
 cons : List Co
def anyT : Ty := .mk 0 ⟨#[]⟩ 0 []
def free (p : Ty) : Bool := decide (p.kind = 0) || decide (p.kind = 1)
def anys (n : Nat) : List Ty := List.replicate n anyT
def conIn (l : List Co) (nm : ByteArray) : Option Co := l.find? fun c => decide (c.name = nm)
def conAt : List Da → ByteArray → Option (Nat × Co)
 | [], _ => none
 | d :: D, nm => match conIn d.cons nm with
  | some c => some (0, c)
  | none => (conAt D nm).map fun x => (x.1 + 1, x.2)
def consOf (D : List Da) (i : Nat) : List Co := match D[i]? with
 | some d => d.cons
 | none => []
theorem conAt_mem : ∀ {D : List Da} {nm : ByteArray} {d : Nat} {c : Co}, conAt D nm = some (d, c) → c ∈ consOf D d ∧ c.name = nm
 | [], nm, d, c, h => by cases h
 | x :: D, nm, d, c, h => by
  unfold conAt at h
  cases hx : conIn x.cons nm with
  | some c' =>
   rw [hx] at h
   simp only [Option.some.injEq, Prod.mk.injEq] at h
   obtain ⟨rfl, rfl⟩ := h
   unfold conIn at hx
   have h2 := List.find?_some hx
   exact ⟨List.mem_of_find?_eq_some hx, by simpa using h2⟩
  | none =>
   rw [hx] at h
   cases hy : conAt D nm with
   | none => rw [hy] at h; cases h
   | some y =>
    rw [hy] at h
    simp only [Option.map_some, Option.some.injEq, Prod.mk.injEq] at h
    obtain ⟨rfl, rfl⟩ := h
    obtain ⟨h1, h2⟩ := conAt_mem (D := D) (d := y.1) (c := y.2) hy
    exact ⟨h1, h2⟩
def Uniq (D : List Da) : Prop := ∀ (i : Nat) (c : Co), c ∈ consOf D i → conAt D c.name = some (i, c)
/-! kinds, forms -/
inductive Wf (D : List Da) : Ty → Prop
 | fr {p : Ty} (h : free p = true) : Wf D p
 | int {p : Ty} (h : p.kind = 2) (hr : p.var ≤ 1073741823) : Wf D p
 | con {p : Ty} {d : Nat} {c : Co} (h : p.kind = 3) (hc : conAt D p.name = some (d, c)) (hl : p.args.length = c.many) (ha : ∀ a ∈ p.args, Wf D a) : Wf D p
theorem free_no {p : Ty} (h : p.kind = 2 ∨ p.kind = 3) : free p = false := by
 unfold free
 rcases h with h | h <;> rw [h] <;> rfl
theorem Wf.kinds {D : List Da} {p : Ty} (h : Wf D p) (hf : free p = false) : p.kind = 2 ∨ p.kind = 3 := by
 cases h with
 | fr h => rw [h] at hf; cases hf
 | int h _ => exact .inl h
 | con h _ _ _ => exact .inr h
theorem Wf.cons {D : List Da} {p : Ty} (h : Wf D p) (hk : p.kind = 3) : ∃ d c, conAt D p.name = some (d, c) ∧ p.args.length = c.many ∧ ∀ a ∈ p.args, Wf D a := by
 cases h with
 | fr h => rw [free_no (.inr hk)] at h; cases h
 | int h _ => omega
 | con _ h1 h2 h3 => exact ⟨_, _, h1, h2, h3⟩
theorem Wf.any (D : List Da) : Wf D anyT := .fr rfl
/-! how a pattern fits a value: 1 yes, 0 it depends, -1 no -/
mutual
def fit : Ty → Ty → Int
 | .mk k nm n «as», v => if free (.mk k nm n «as») then 1 else if free v then 0 else if k ≠ v.kind ∨ (k = 2 ∧ n ≠ v.var) ∨ (k = 3 ∧ (nm ≠ v.name ∨ «as».length ≠ v.args.length)) then -1 else if k ≠ 3 then 1 else fitA «as» v.args
def fitA : List Ty → List Ty → Int
 | [], _ => 1
 | _ :: _, [] => 1
 | p :: l, v :: vs => min (fit p v) (fitA l vs)
end
theorem fit_eq (p v : Ty) : fit p v = if free p then 1 else if free v then 0 else if p.kind ≠ v.kind ∨ (p.kind = 2 ∧ p.var ≠ v.var) ∨ (p.kind = 3 ∧ (p.name ≠ v.name ∨ p.args.length ≠ v.args.length)) then -1 else if p.kind ≠ 3 then 1 else fitA p.args v.args := by
 cases p with
 | mk k nm n «as» => rw [fit]; rfl
theorem fitA_range : ∀ (l vs : List Ty), -1 ≤ fitA l vs ∧ fitA l vs ≤ 1
 | [], _ => by simp [fitA]
 | _ :: _, [] => by simp [fitA]
 | p :: l, v :: vs => by
  have h1 := fitA_range l vs
  have h2 := fit_range p v
  rw [fitA]
  omega
where fit_range : ∀ (p v : Ty), -1 ≤ fit p v ∧ fit p v ≤ 1
 | .mk k nm n «as», v => by
  have h := fitA_range «as» v.args
  rw [fit]
  repeat' split
  all_goals omega
theorem fit_range (p v : Ty) : -1 ≤ fit p v ∧ fit p v ≤ 1 := by
 have := fitA_range [p] [v]
 simp only [fitA] at this
 have h2 : fit p v ≤ 1 := by
  rw [fit_eq]
  have h := fitA_range p.args v.args
  repeat' split
  all_goals omega
 omega
theorem fitA_app : ∀ (a va b vb : List Ty), a.length = va.length → fitA (a ++ b) (va ++ vb) = min (fitA a va) (fitA b vb)
 | [], [], b, vb, _ => by
  have := fitA_range b vb
  simp only [List.nil_append, fitA]
  omega
 | p :: a, v :: va, b, vb, h => by
  simp only [List.cons_append, fitA]
  rw [fitA_app a va b vb (by simpa using h)]
  omega
 | [], v :: va, _, _, h => by simp at h
 | p :: a, [], _, _, h => by simp at h
theorem fitA_anys : ∀ (n : Nat) (vs : List Ty), fitA (anys n) vs = 1
 | 0, vs => by
  cases vs <;> rfl
 | n + 1, [] => rfl
 | n + 1, v :: vs => by
  show min (fit anyT v) (fitA (anys n) vs) = 1
  rw [fitA_anys n vs, show fit anyT v = 1 by rw [fit_eq]; rfl]
  rfl
theorem fit_free {p : Ty} (h : free p = true) (v : Ty) : fit p v = 1 := by
 rw [fit_eq, if_pos h]
theorem fit_unknown {p v : Ty} (h : free p = false) (hv : free v = true) : fit p v = 0 := by
 rw [fit_eq, h, hv]
 rfl
theorem fit_int {p v : Ty} (h : p.kind = 2) (hv : v.kind = 2) : fit p v = if p.var = v.var then 1 else -1 := by
 rw [fit_eq, free_no (.inl h), free_no (.inl hv), h, hv]
 by_cases e : p.var = v.var <;> simp [e]
theorem fit_con {p v : Ty} (h : p.kind = 3) (hv : v.kind = 3) (hn : p.name = v.name) (hl : p.args.length = v.args.length) : fit p v = fitA p.args v.args := by
 rw [fit_eq, free_no (.inr h), free_no (.inr hv), h, hv]
 simp [hn, hl]
theorem fit_name {p v : Ty} (hp : free p = false) (h : v.kind = 3) (hn : p.name ≠ v.name) : p.kind = 2 ∨ p.kind = 3 → fit p v = -1 := fun hk => by
 rw [fit_eq, hp, free_no (.inr h)]
 rcases hk with hk | hk
 ·simp [h, hk]
 ·simp [h, hk, hn]
theorem fit_kind {p v : Ty} (hp : free p = false) (hv : free v = false) (h : p.kind ≠ v.kind) : fit p v = -1 := by
 rw [fit_eq, hp, hv]
 simp [h]
theorem fit_known {p v : Ty} (hp : free p = false) (hv : free v = false) (h : 0 ≤ fit p v) : p.kind = v.kind ∧ (p.kind = 2 → p.var = v.var) ∧ (p.kind = 3 → p.name = v.name ∧ p.args.length = v.args.length ∧ fit p v = fitA p.args v.args) := by
 have e := fit_eq p v
 rw [hp, hv] at e
 simp only [Bool.false_eq_true, if_false] at e
 by_cases hc : p.kind ≠ v.kind ∨ (p.kind = 2 ∧ p.var ≠ v.var) ∨ (p.kind = 3 ∧ (p.name ≠ v.name ∨ p.args.length ≠ v.args.length))
 ·rw [if_pos hc] at e
  omega
 ·rw [if_neg hc] at e
  have h1 : p.kind = v.kind := Decidable.byContradiction fun h => hc (.inl h)
  refine ⟨h1, fun h2 => Decidable.byContradiction fun h => hc (.inr (.inl ⟨h2, h⟩)), fun h3 => ⟨Decidable.byContradiction fun h => hc (.inr (.inr ⟨h3, .inl h⟩)), Decidable.byContradiction fun h => hc (.inr (.inr ⟨h3, .inr h⟩)), ?_⟩⟩
  rw [e, if_neg (by simpa using h3)]
/-! the least number that is not in a list -/
def ints (l : List Ty) : List Int := l.map (·.var)
def goN (l : List Int) : Nat → Nat → Nat
 | 0, n => n
 | f + 1, n => if (n : Int) ∈ l then goN l f (n + 1) else n
def top (l : List Int) : Nat := l.foldr (fun x m => max (x.toNat + 1) m) 0
theorem top_no : ∀ (l : List Int) (n : Nat), top l ≤ n → (n : Int) ∉ l
 | [], n, _ => List.not_mem_nil
 | x :: l, n, h => by
  unfold top at h
  rw [List.foldr_cons] at h
  intro hm
  rcases List.mem_cons.1 hm with hm | hm
  ·omega
  ·exact top_no l n (by unfold top; omega) hm
def least (l : List Int) : Nat := goN l (top l) 0
theorem goN_no (l : List Int) : ∀ (f n : Nat), top l ≤ n + f → (goN l f n : Int) ∉ l
 | 0, n, h => top_no l n h
 | f + 1, n, h => by
  unfold goN
  split
  ·exact goN_no l f (n + 1) (by omega)
  ·assumption
theorem least_no (l : List Int) : (least l : Int) ∉ l := goN_no l (top l) 0 (by omega)
/-! rows -/
def narrow (rows : List (List Ty)) (nm : ByteArray) (many : Nat) : List (List Ty) := rows.filterMap fun
 | [] => none
 | p :: t => if free p then some (anys many ++ t) else if p.name = nm then some (p.args ++ t) else none
def rest (rows : List (List Ty)) : List (List Ty) := rows.filterMap fun
 | [] => none
 | p :: t => if free p then some t else none
def leftI (rows : List (List Ty)) (n : Int) : List (List Ty) := rows.filterMap fun
 | [] => none
 | p :: t => if free p || decide (p.var = n) then some t else none
def first (rows : List (List Ty)) : List Ty := rows.filterMap fun
 | [] => none
 | p :: _ => if free p then none else some p
theorem first_mem {rows : List (List Ty)} {p : Ty} : p ∈ first rows ↔ ∃ t, p :: t ∈ rows ∧ free p = false := by
 unfold first
 rw [List.mem_filterMap]
 constructor
 ·rintro ⟨r, hr, h⟩
  cases r with
  | nil => cases h
  | cons q t =>
   simp only at h
   by_cases hq : free q = true
   ·rw [if_pos hq] at h; cases h
   ·rw [if_neg hq] at h
    cases h
    exact ⟨t, hr, by simpa using hq⟩
 ·rintro ⟨t, h1, h2⟩
  exact ⟨p :: t, h1, by simp [h2]⟩
theorem rest_mem {rows : List (List Ty)} {t : List Ty} : t ∈ rest rows ↔ ∃ p, p :: t ∈ rows ∧ free p = true := by
 unfold rest
 rw [List.mem_filterMap]
 constructor
 ·rintro ⟨r, hr, h⟩
  cases r with
  | nil => cases h
  | cons q t' =>
   simp only at h
   by_cases hq : free q = true
   ·rw [if_pos hq] at h
    cases h
    exact ⟨q, hr, hq⟩
   ·rw [if_neg hq] at h; cases h
 ·rintro ⟨p, h1, h2⟩
  exact ⟨p :: t, h1, by simp [h2]⟩
theorem leftI_mem {rows : List (List Ty)} {n : Int} {t : List Ty} : t ∈ leftI rows n ↔ ∃ p, p :: t ∈ rows ∧ (free p = true ∨ p.var = n) := by
 unfold leftI
 rw [List.mem_filterMap]
 constructor
 ·rintro ⟨r, hr, h⟩
  cases r with
  | nil => cases h
  | cons q t' =>
   simp only at h
   by_cases hq : (free q || decide (q.var = n)) = true
   ·rw [if_pos hq] at h
    cases h
    exact ⟨q, hr, by simpa using hq⟩
   ·rw [if_neg hq] at h; cases h
 ·rintro ⟨p, h1, h2⟩
  exact ⟨p :: t, h1, by simp [h2]⟩
theorem narrow_mem {rows : List (List Ty)} {nm : ByteArray} {many : Nat} {s : List Ty} : s ∈ narrow rows nm many ↔ ∃ p t, p :: t ∈ rows ∧ ((free p = true ∧ s = anys many ++ t) ∨ (free p = false ∧ p.name = nm ∧ s = p.args ++ t)) := by
 unfold narrow
 rw [List.mem_filterMap]
 constructor
 ·rintro ⟨r, hr, h⟩
  cases r with
  | nil => cases h
  | cons q t =>
   simp only at h
   by_cases hq : free q = true
   ·rw [if_pos hq] at h
    cases h
    exact ⟨q, t, hr, .inl ⟨hq, rfl⟩⟩
   ·rw [if_neg hq] at h
    by_cases hn : q.name = nm
    ·rw [if_pos hn] at h
     cases h
     exact ⟨q, t, hr, .inr ⟨by simpa using hq, hn, rfl⟩⟩
    ·rw [if_neg hn] at h; cases h
 ·rintro ⟨p, t, h1, h2⟩
  refine ⟨p :: t, h1, ?_⟩
  rcases h2 with ⟨h2, rfl⟩ | ⟨h2, h3, rfl⟩
  ·simp [h2]
  ·simp [h2, h3]
def absent (D : List Da) (l : List Ty) : Option Ty := match l with
 | [] => some anyT
 | p :: r => if p.kind = 2 then some (.mk 2 ⟨#[]⟩ (least (ints (p :: r)) : Int) []) else match conAt D p.name with
  | none => none
  | some (d, _) => ((consOf D d).find? fun c => !(p :: r).any fun q => decide (q.name = c.name)).map fun c => .mk 3 c.name 0 (anys c.many)
def consFor (D : List Da) (l : List Ty) : List Co := match l with
 | [] => []
 | p :: _ => match conAt D p.name with
  | none => []
  | some (d, _) => consOf D d
def missLoop (rec : List (List Ty) → Nat → List Ty × Bool) (rows : List (List Ty)) (cols : Nat) : List Co → List Ty × Bool
 | [] => ([], false)
 | c :: cs => if (rec (narrow rows c.name c.many) (c.many + cols)).2 then (.mk 3 c.name 0 ((rec (narrow rows c.name c.many) (c.many + cols)).1.take c.many) :: (rec (narrow rows c.name c.many) (c.many + cols)).1.drop c.many, true) else missLoop rec rows cols cs
def missingE (D : List Da) : Nat → List (List Ty) → Nat → List Ty × Bool
 | 0, _, _ => ([], false)
 | f + 1, rows, 0 => ([], decide (rows.length = 0))
 | f + 1, rows, cols + 1 => match absent D (first rows) with
  | some p => (p :: (missingE D f (rest rows) cols).1, (missingE D f (rest rows) cols).2)
  | none => missLoop (missingE D f) rows cols (consFor D (first rows))
def manyOf (D : List Da) (nm : ByteArray) : Nat := match conAt D nm with
 | none => 0
 | some (_, c) => c.many
def usefulE (D : List Da) : Nat → List (List Ty) → List Ty → Bool
 | 0, _, _ => false
 | f + 1, rows, [] => decide (rows.length = 0)
 | f + 1, rows, p :: t => if p.kind = 3 then usefulE D f (narrow rows p.name (manyOf D p.name)) (p.args ++ t) else if p.kind = 2 then usefulE D f (leftI rows p.var) t else match absent D (first rows) with
  | some _ => usefulE D f (rest rows) t
  | none => (consFor D (first rows)).any fun c => usefulE D f (narrow rows c.name c.many) (anys c.many ++ t)
end Go.Pt

/- Plain: patterns of one type at a place; values of that type; Missing and Redundant are right. No program in sight. No condition. -/
namespace Go.Pt
open Go.Eng
def under (l : List Ty) (nm : ByteArray) (n : Nat) : List Ty := l.filterMap fun q => if free q = false ∧ q.name = nm then q.args[n]? else none
def col (rows : List (List Ty)) (k : Nat) : List Ty := rows.filterMap fun r => r[k]?
def sub (l l' : List Ty) : Prop := ∀ p ∈ l, free p = false → p ∈ l'
theorem under_mem {l : List Ty} {nm : ByteArray} {n : Nat} {x : Ty} : x ∈ under l nm n ↔ ∃ q ∈ l, free q = false ∧ q.name = nm ∧ q.args[n]? = some x := by
 unfold under
 rw [List.mem_filterMap]
 constructor
 ·rintro ⟨q, hq, h⟩
  by_cases hc : free q = false ∧ q.name = nm
  ·rw [if_pos hc] at h
   exact ⟨q, hq, hc.1, hc.2, h⟩
  ·rw [if_neg hc] at h; cases h
 ·rintro ⟨q, h1, h2, h3, h4⟩
  exact ⟨q, h1, by rw [if_pos ⟨h2, h3⟩]; exact h4⟩
theorem col_mem {rows : List (List Ty)} {k : Nat} {x : Ty} : x ∈ col rows k ↔ ∃ r ∈ rows, r[k]? = some x := by
 unfold col
 rw [List.mem_filterMap]
theorem sub.under {l l' : List Ty} (h : sub l l') (nm : ByteArray) (n : Nat) : sub (under l nm n) (under l' nm n) := fun x hx _ => by
 obtain ⟨q, h1, h2, h3, h4⟩ := under_mem.1 hx
 exact under_mem.2 ⟨q, h q h1 h2, h2, h3, h4⟩
theorem sub.of {l l' : List Ty} (h : ∀ p ∈ l, p ∈ l') : sub l l' := fun p hp _ => h p hp
def dOf (D : List Da) (nm : ByteArray) : Option Nat := (conAt D nm).map (·.1)
theorem dOf_of {D : List Da} {nm : ByteArray} {d : Nat} {c : Co} (h : conAt D nm = some (d, c)) : dOf D nm = some d := by
 unfold dOf
 rw [h]
 rfl
inductive Agr (D : List Da) : List Ty → Prop
 | mk {l : List Ty} (hk : ∀ p ∈ l, ∀ q ∈ l, free p = false → free q = false → p.kind = q.kind ∧ (p.kind = 3 → dOf D p.name = dOf D q.name)) (hs : ∀ p ∈ l, free p = false → p.kind = 3 → ∀ n, n < p.args.length → Agr D (under l p.name n)) : Agr D l
inductive Wit (D : List Da) : List Ty → Ty → Prop
 | fr {l : List Ty} {v : Ty} (h : free v = true) : Wit D l v
 | int {l : List Ty} {v p : Ty} (h : v.kind = 2) (hp : p ∈ l) (hf : free p = false) (hk : p.kind = 2) : Wit D l v
 | con {l : List Ty} {v p : Ty} {d : Nat} {c : Co} (h : v.kind = 3) (hc : conAt D v.name = some (d, c)) (hl : v.args.length = c.many) (hp : p ∈ l) (hf : free p = false) (hk : p.kind = 3) (hd : dOf D p.name = some d) (ha : ∀ (n : Nat) (a : Ty), v.args[n]? = some a → Wit D (under l v.name n) a) : Wit D l v
inductive Okv (D : List Da) : List Ty → Ty → Prop
 | fr {l : List Ty} {v : Ty} (h : free v = true) : Okv D l v
 | int {l : List Ty} {v : Ty} (h : v.kind = 2) (hp : ∀ p ∈ l, free p = false → p.kind = 2) : Okv D l v
 | con {l : List Ty} {v : Ty} {d : Nat} {c : Co} (h : v.kind = 3) (hc : conAt D v.name = some (d, c)) (hl : v.args.length = c.many) (hp : ∀ p ∈ l, free p = false → p.kind = 3 ∧ dOf D p.name = some d) (ha : ∀ (n : Nat) (a : Ty), v.args[n]? = some a → Okv D (under l v.name n) a) : Okv D l v
variable {D : List Da}
theorem Agr.mono {l' : List Ty} (h : Agr D l') : ∀ {l : List Ty}, sub l l' → Agr D l := by
 induction h with
 | mk hk hs ih =>
  intro l hl
  exact .mk (fun p hp q hq h1 h2 => hk p (hl p hp h1) q (hl q hq h2) h1 h2) (fun p hp h1 h2 n hn => ih p (hl p hp h1) h1 h2 n hn (hl.under _ _))
theorem Agr.nil : Agr D [] := .mk (fun p hp => by cases hp) (fun p hp => by cases hp)
theorem Agr.under {l : List Ty} (h : Agr D l) (hk : ∀ p ∈ l, free p = false → p.kind = 3) (nm : ByteArray) (n : Nat) : Agr D (under l nm n) := by
 cases hb : Pt.under l nm n with
 | nil => exact .nil
 | cons x r =>
  obtain ⟨q, h1, h2, h3, h4⟩ := under_mem.1 (show x ∈ Pt.under l nm n by rw [hb]; exact .head _)
  rw [← hb, ← h3]
  cases h with
  | mk _ hs => exact hs q h1 h2 (hk q h1 h2) n (List.getElem?_eq_some_iff.1 h4).1
theorem Wit.mono {l : List Ty} {v : Ty} (h : Wit D l v) : ∀ {l' : List Ty}, sub l l' → Wit D l' v := by
 induction h with
 | fr h => exact fun _ => .fr h
 | int h hp hf hk => exact fun hl => .int h (hl _ hp hf) hf hk
 | con h hc hn hp hf hk hd _ ih => exact fun hl => .con h hc hn (hl _ hp hf) hf hk hd (fun n a ha => ih n a ha (hl.under _ _))
theorem Okv.mono {l' : List Ty} {v : Ty} (h : Okv D l' v) : ∀ {l : List Ty}, sub l l' → Okv D l v := by
 induction h with
 | fr h => exact fun _ => .fr h
 | int h hp => exact fun hl => .int h (fun p hpl hf => hp p (hl p hpl hf) hf)
 | con h hc hn hp _ ih => exact fun hl => .con h hc hn (fun p hpl hf => hp p (hl p hpl hf) hf) (fun n a ha => ih n a ha (hl.under _ _))
theorem Wit.ok {l : List Ty} {v : Ty} (h : Wit D l v) : Agr D l → Okv D l v := by
 induction h with
 | fr h => exact fun _ => .fr h
 | int h hp hf hk =>
  intro hA
  cases hA with
  | mk hk2 _ => exact .int h (fun q hq hqf => by rw [(hk2 q hq _ hp hqf hf).1, hk])
 | con h hc hn hp hf hk hd _ ih =>
  intro hA
  have h3 : ∀ q ∈ _, free q = false → q.kind = 3 ∧ dOf D q.name = some _ := fun q hq hqf => by
   cases hA with
   | mk hk2 _ =>
    have e := hk2 q hq _ hp hqf hf
    have e1 : q.kind = 3 := by rw [e.1, hk]
    exact ⟨e1, by rw [e.2 e1, hd]⟩
  exact .con h hc hn h3 (fun n a ha => ih n a ha (hA.under (fun q hq hqf => (h3 q hq hqf).1) _ _))
/-! matrices of patterns -/
structure Mat (D : List Da) (rows : List (List Ty)) (cols : Nat) : Prop where
 len : ∀ r ∈ rows, r.length = cols
 wf : ∀ r ∈ rows, ∀ p ∈ r, Wf D p
 agr : ∀ k, Agr D (col rows k)
variable {rows : List (List Ty)} {cols : Nat}
theorem Mat.mono {rows' : List (List Ty)} (h : Mat D rows cols) (hs : ∀ r ∈ rows', r ∈ rows) : Mat D rows' cols :=
 ⟨fun r hr => h.len r (hs r hr), fun r hr => h.wf r (hs r hr), fun k => (h.agr k).mono (sub.of fun p hp => by
  obtain ⟨r, h1, h2⟩ := col_mem.1 hp
  exact col_mem.2 ⟨r, hs r h1, h2⟩)⟩
theorem first_col {p : Ty} (h : p ∈ first rows) : p ∈ col rows 0 ∧ free p = false := by
 obtain ⟨t, h1, h2⟩ := first_mem.1 h
 exact ⟨col_mem.2 ⟨_, h1, rfl⟩, h2⟩
theorem col_first {p : Ty} (h : p ∈ col rows 0) (hf : free p = false) : p ∈ first rows := by
 obtain ⟨r, h1, h2⟩ := col_mem.1 h
 cases r with
 | nil => cases h2
 | cons q t =>
  simp only [List.getElem?_cons_zero, Option.some.injEq] at h2
  subst h2
  exact first_mem.2 ⟨t, h1, hf⟩
theorem Mat.tail {rows' : List (List Ty)} (h : Mat D rows (cols + 1)) (hs : ∀ t ∈ rows', ∃ p, p :: t ∈ rows) : Mat D rows' cols :=
 ⟨fun t ht => by
  obtain ⟨p, hp⟩ := hs t ht
  have := h.len _ hp
  simpa using this, fun t ht q hq => by
  obtain ⟨p, hp⟩ := hs t ht
  exact h.wf _ hp q (.tail _ hq), fun k => (h.agr (k + 1)).mono (sub.of fun x hx => by
  obtain ⟨t, h1, h2⟩ := col_mem.1 hx
  obtain ⟨p, hp⟩ := hs t h1
  exact col_mem.2 ⟨_, hp, by simpa using h2⟩)⟩
theorem col_tail {rows' : List (List Ty)} (hs : ∀ t ∈ rows', ∃ p, p :: t ∈ rows) (k : Nat) : sub (col rows' k) (col rows (k + 1)) := sub.of fun x hx => by
 obtain ⟨t, h1, h2⟩ := col_mem.1 hx
 obtain ⟨p, hp⟩ := hs t h1
 exact col_mem.2 ⟨_, hp, by simpa using h2⟩
theorem anys_len (n : Nat) : (anys n).length = n := List.length_replicate
theorem anys_get {n k : Nat} {x : Ty} (h : (anys n)[k]? = some x) : x = anyT := List.eq_of_mem_replicate (List.mem_of_getElem? h)
theorem col_narrow {c : Co} (hN : ∀ p t, p :: t ∈ rows → free p = false → p.name = c.name → p.args.length = c.many) : (∀ k, k < c.many → sub (col (narrow rows c.name c.many) k) (under (col rows 0) c.name k)) ∧ ∀ k, sub (col (narrow rows c.name c.many) (c.many + k)) (col rows (k + 1)) := by
 constructor
 ·intro k hk x hx hf
  obtain ⟨s, h1, h2⟩ := col_mem.1 hx
  obtain ⟨p, t, h3, h4⟩ := narrow_mem.1 h1
  rcases h4 with ⟨_, rfl⟩ | ⟨h4, h5, rfl⟩
  ·rw [List.getElem?_append_left (by rw [anys_len]; exact hk)] at h2
   rw [anys_get h2] at hf
   cases hf
  ·rw [List.getElem?_append_left (by rw [hN p t h3 h4 h5]; exact hk)] at h2
   exact under_mem.2 ⟨p, col_mem.2 ⟨_, h3, rfl⟩, h4, h5, h2⟩
 ·intro k x hx hf
  obtain ⟨s, h1, h2⟩ := col_mem.1 hx
  obtain ⟨p, t, h3, h4⟩ := narrow_mem.1 h1
  refine col_mem.2 ⟨_, h3, ?_⟩
  rw [List.getElem?_cons_succ]
  rcases h4 with ⟨_, rfl⟩ | ⟨h4, h5, rfl⟩
  ·rw [List.getElem?_append_right (by rw [anys_len]; omega), anys_len, Nat.add_sub_cancel_left] at h2
   exact h2
  ·rw [List.getElem?_append_right (by rw [hN p t h3 h4 h5]; omega), hN p t h3 h4 h5, Nat.add_sub_cancel_left] at h2
   exact h2
theorem Mat.arity (h : Mat D rows cols) {c : Co} {d : Nat} (hc : conAt D c.name = some (d, c)) (h3 : ∀ p ∈ first rows, p.kind = 3) : ∀ p t, p :: t ∈ rows → free p = false → p.name = c.name → p.args.length = c.many := fun p t hp hf hn => by
 obtain ⟨d', c', e1, e2, _⟩ := (h.wf _ hp p (.head _)).cons (h3 p (first_mem.2 ⟨t, hp, hf⟩))
 rw [hn, hc] at e1
 cases e1
 exact e2
theorem Mat.narrow (h : Mat D rows (cols + 1)) {c : Co} {d : Nat} (hc : conAt D c.name = some (d, c)) (h3 : ∀ p ∈ first rows, p.kind = 3) : Mat D (narrow rows c.name c.many) (c.many + cols) := by
 have hN := h.arity hc h3
 obtain ⟨c1, c2⟩ := col_narrow hN
 have hk : ∀ p ∈ col rows 0, free p = false → p.kind = 3 := fun p hp hf => h3 p (col_first hp hf)
 refine ⟨fun s hs => ?_, fun s hs q hq => ?_, fun k => ?_⟩
 ·obtain ⟨p, t, h1, h2⟩ := narrow_mem.1 hs
  have e := h.len _ h1
  simp only [List.length_cons] at e
  rcases h2 with ⟨_, rfl⟩ | ⟨h4, h5, rfl⟩
  ·rw [List.length_append, anys_len]
   omega
  ·rw [List.length_append, hN p t h1 h4 h5]
   omega
 ·obtain ⟨p, t, h1, h2⟩ := narrow_mem.1 hs
  rcases h2 with ⟨_, rfl⟩ | ⟨h4, h5, rfl⟩
  ·rcases List.mem_append.1 hq with hq | hq
   ·rw [List.eq_of_mem_replicate hq]
    exact Wf.any D
   ·exact h.wf _ h1 q (.tail _ hq)
  ·rcases List.mem_append.1 hq with hq | hq
   ·obtain ⟨_, _, _, _, hw⟩ := (h.wf _ h1 p (.head _)).cons (h3 p (first_mem.2 ⟨t, h1, h4⟩))
    exact hw q hq
   ·exact h.wf _ h1 q (.tail _ hq)
 ·by_cases hkn : k < c.many
  ·exact ((h.agr 0).under hk _ _).mono (c1 k hkn)
  ·obtain ⟨j, rfl⟩ : ∃ j, k = c.many + j := ⟨k - c.many, by omega⟩
   exact (h.agr (j + 1)).mono (c2 j)
theorem Mat.kinds (h : Mat D rows (cols + 1)) {p q : Ty} (hp : p ∈ first rows) (hq : q ∈ first rows) : p.kind = q.kind ∧ (p.kind = 3 → dOf D p.name = dOf D q.name) := by
 obtain ⟨p1, p2⟩ := first_col hp
 obtain ⟨q1, q2⟩ := first_col hq
 cases h.agr 0 with
 | mk hk _ => exact hk p p1 q q1 p2 q2
theorem Mat.wf_first (h : Mat D rows cols) {p : Ty} (hp : p ∈ first rows) : Wf D p ∧ (p.kind = 2 ∨ p.kind = 3) := by
 obtain ⟨t, h1, h2⟩ := first_mem.1 hp
 have := h.wf _ h1 p (.head _)
 exact ⟨this, this.kinds h2⟩
theorem absent_some (hU : Uniq D) (h : Mat D rows (cols + 1)) {p : Ty} (ha : absent D (first rows) = some p) : (∀ q ∈ first rows, fit q p = -1) ∧ Wit D (col rows 0) p := by
 cases hf : first rows with
 | nil =>
  rw [hf] at ha
  cases ha
  exact ⟨fun q hq => (by cases hq), .fr rfl⟩
 | cons x r =>
  have hx : x ∈ first rows := by rw [hf]; exact .head _
  have hwx := h.wf_first hx
  have hall : ∀ q ∈ x :: r, q ∈ first rows := fun q hq => by rw [hf]; exact hq
  rw [hf] at ha
  simp only [absent] at ha
  by_cases hk : x.kind = 2
  ·rw [if_pos hk] at ha
   cases ha
   refine ⟨fun q hq => ?_, .int rfl (first_col hx).1 (first_col hx).2 hk⟩
   have hq2 : q.kind = 2 := by rw [(h.kinds (hall q hq) hx).1, hk]
   rw [fit_int hq2 rfl, if_neg]
   intro e
   exact least_no (ints (x :: r)) (by rw [show (least (ints (x :: r)) : Int) = q.var from e.symm]; exact List.mem_map_of_mem hq)
  ·rw [if_neg hk] at ha
   have hk3 : x.kind = 3 := by omega
   obtain ⟨d, c0, e1, e2, _⟩ := hwx.1.cons hk3
   rw [e1] at ha
   simp only [Option.map_eq_some_iff] at ha
   obtain ⟨c, hc1, hc2⟩ := ha
   have hc3 := List.find?_some hc1
   have hc4 := hU d c (List.mem_of_find?_eq_some hc1)
   subst hc2
   refine ⟨fun q hq => ?_, .con rfl hc4 (anys_len _) (first_col hx).1 (first_col hx).2 hk3 (dOf_of e1) (fun n a ha => .fr (by rw [anys_get ha]; rfl))⟩
   refine fit_name (first_col (hall q hq)).2 rfl ?_ (h.wf_first (hall q hq)).2
   intro e
   simp only [Bool.not_eq_true', List.any_eq_false] at hc3
   exact hc3 q hq (decide_eq_true e)
theorem absent_none (h : Mat D rows (cols + 1)) (ha : absent D (first rows) = none) : ∃ d x, x ∈ first rows ∧ dOf D x.name = some d ∧ (∀ q ∈ first rows, q.kind = 3 ∧ dOf D q.name = some d) ∧ consFor D (first rows) = consOf D d ∧ (∃ c, c ∈ consOf D d) ∧ ∀ c ∈ consOf D d, ∃ q ∈ first rows, q.name = c.name := by
 cases hf : first rows with
 | nil => rw [hf] at ha; cases ha
 | cons x r =>
  have hx : x ∈ first rows := by rw [hf]; exact .head _
  have hall : ∀ q ∈ x :: r, q ∈ first rows := fun q hq => by rw [hf]; exact hq
  have hwx := h.wf_first hx
  rw [hf] at ha
  simp only [absent] at ha
  by_cases hk : x.kind = 2
  ·rw [if_pos hk] at ha; cases ha
  ·rw [if_neg hk] at ha
   have hk3 : x.kind = 3 := by omega
   obtain ⟨d, c0, e1, e2, _⟩ := hwx.1.cons hk3
   rw [e1] at ha
   simp only [Option.map_eq_none_iff, List.find?_eq_none] at ha
   refine ⟨d, x, .head _, dOf_of e1, fun q hq => ?_, ?_, ⟨c0, (conAt_mem e1).1⟩, fun c hc => ?_⟩
   ·have e := h.kinds (hall q hq) hx
    have e3 : q.kind = 3 := by rw [e.1, hk3]
    exact ⟨e3, by rw [e.2 e3, dOf_of e1]⟩
   ·simp only [consFor]
    rw [e1]
   ·have := ha c hc
    simp only [Bool.not_eq_true', Bool.not_eq_false, List.any_eq_true, decide_eq_true_eq] at this
    exact this
/-! fits of narrowed rows -/
theorem row_cons (h : Mat D rows (cols + 1)) {r : List Ty} (hr : r ∈ rows) : ∃ p t, r = p :: t ∧ t.length = cols := by
 cases r with
 | nil => have := h.len _ hr; simp at this
 | cons p t => exact ⟨p, t, rfl, by have := h.len _ hr; simpa using this⟩
theorem narrow_up (h : Mat D rows (cols + 1)) {c : Co} {d : Nat} (hc : conAt D c.name = some (d, c)) (h3 : ∀ p ∈ first rows, p.kind = 3) {va vs : List Ty} (hv : va.length = c.many) (hn : ∀ s ∈ narrow rows c.name c.many, fitA s (va ++ vs) = -1) : ∀ r ∈ rows, fitA r (.mk 3 c.name 0 va :: vs) = -1 := fun r hr => by
 obtain ⟨p, t, rfl, ht⟩ := row_cons h hr
 have hN := h.arity hc h3
 have ht1 := fitA_range t vs
 rw [fitA]
 by_cases hp : free p = true
 ·have := hn _ (narrow_mem.2 ⟨p, t, hr, .inl ⟨hp, rfl⟩⟩)
  rw [fitA_app _ _ _ _ (by rw [anys_len, hv]), fitA_anys] at this
  rw [fit_free hp]
  omega
 ·have hp : free p = false := by simpa using hp
  have hpf := first_mem.2 ⟨t, hr, hp⟩
  by_cases e : p.name = c.name
  ·have := hn _ (narrow_mem.2 ⟨p, t, hr, .inr ⟨hp, e, rfl⟩⟩)
   rw [fitA_app _ _ _ _ (by rw [hN p t hr hp e, hv])] at this
   rw [fit_con (v := .mk 3 c.name 0 va) (h3 p hpf) rfl e (by rw [hN p t hr hp e]; exact hv.symm)]
   exact this
  ·rw [fit_name (v := .mk 3 c.name 0 va) hp rfl e (.inr (h3 p hpf))]
   omega
theorem rest_up (h : Mat D rows (cols + 1)) {v : Ty} {vs : List Ty} (hv : ∀ q ∈ first rows, fit q v = -1) (hn : ∀ s ∈ rest rows, fitA s vs = -1) : ∀ r ∈ rows, fitA r (v :: vs) = -1 := fun r hr => by
 obtain ⟨p, t, rfl, ht⟩ := row_cons h hr
 have ht1 := fitA_range t vs
 rw [fitA]
 by_cases hp : free p = true
 ·rw [fit_free hp, hn t (rest_mem.2 ⟨p, hr, hp⟩)]
  rfl
 ·rw [hv p (first_mem.2 ⟨t, hr, by simpa using hp⟩)]
  omega
/-! what is missing -/
def WitV (D : List Da) (rows : List (List Ty)) (vs : List Ty) : Prop := ∀ (k : Nat) (x : Ty), vs[k]? = some x → Wit D (col rows k) x
def OkV (D : List Da) (rows : List (List Ty)) (vs : List Ty) : Prop := ∀ (k : Nat) (x : Ty), vs[k]? = some x → Okv D (col rows k) x
theorem WitV.ok (h : Mat D rows cols) {vs : List Ty} (hw : WitV D rows vs) : OkV D rows vs := fun k x hx => (hw k x hx).ok (h.agr k)
theorem rest_tail : ∀ t ∈ rest rows, ∃ p, p :: t ∈ rows := fun t ht => by
 obtain ⟨p, h, _⟩ := rest_mem.1 ht
 exact ⟨p, h⟩
theorem leftI_tail (n : Int) : ∀ t ∈ leftI rows n, ∃ p, p :: t ∈ rows := fun t ht => by
 obtain ⟨p, h, _⟩ := leftI_mem.1 ht
 exact ⟨p, h⟩
theorem WitV.cons {rows' : List (List Ty)} (hs : ∀ t ∈ rows', ∃ p, p :: t ∈ rows) {v : Ty} {vs : List Ty} (hv : Wit D (col rows 0) v) (h : WitV D rows' vs) : WitV D rows (v :: vs) := fun k x hx => by
 cases k with
 | zero =>
  simp only [List.getElem?_cons_zero, Option.some.injEq] at hx
  subst hx
  exact hv
 | succ k => exact (h k x (by simpa using hx)).mono (col_tail hs k)
theorem WitV.narrow (h : Mat D rows (cols + 1)) {c : Co} {d : Nat} (hc : conAt D c.name = some (d, c)) (h3 : ∀ p ∈ first rows, p.kind = 3) {x : Ty} (hx : x ∈ first rows) (hd : dOf D x.name = some d) {va vs : List Ty} (hl : va.length = c.many) (hw : WitV D (narrow rows c.name c.many) (va ++ vs)) : WitV D rows (.mk 3 c.name 0 va :: vs) := fun k y hy => by
 obtain ⟨c1, c2⟩ := col_narrow (h.arity hc h3)
 cases k with
 | zero =>
  simp only [List.getElem?_cons_zero, Option.some.injEq] at hy
  subst hy
  refine .con rfl hc hl (first_col hx).1 (first_col hx).2 (h3 x hx) hd (fun n a ha => ?_)
  have ha : va[n]? = some a := ha
  have hn := (List.getElem?_eq_some_iff.1 ha).1
  exact (hw n a (by rw [List.getElem?_append_left hn]; exact ha)).mono (c1 n (by omega))
 | succ k =>
  refine (hw (c.many + k) y ?_).mono (c2 k)
  rw [List.getElem?_append_right (by omega), show c.many + k - va.length = k by omega]
  simpa using hy
theorem OkV.narrow (h : Mat D rows (cols + 1)) {c : Co} {d : Nat} (hc : conAt D c.name = some (d, c)) (h3 : ∀ p ∈ first rows, p.kind = 3) {va vs : List Ty} (hl : va.length = c.many) (ha : ∀ (n : Nat) (a : Ty), va[n]? = some a → Okv D (under (col rows 0) c.name n) a) (hs : ∀ (k : Nat) (x : Ty), vs[k]? = some x → Okv D (col rows (k + 1)) x) : OkV D (narrow rows c.name c.many) (va ++ vs) := fun k y hy => by
 obtain ⟨c1, c2⟩ := col_narrow (h.arity hc h3)
 by_cases hk : k < c.many
 ·rw [List.getElem?_append_left (by omega)] at hy
  exact (ha k y hy).mono (c1 k hk)
 ·obtain ⟨j, rfl⟩ : ∃ j, k = c.many + j := ⟨k - c.many, by omega⟩
  rw [List.getElem?_append_right (by omega), show c.many + j - va.length = j by omega] at hy
  exact (hs j y hy).mono (c2 j)
theorem OkV.tail {v : Ty} {vs : List Ty} (h : OkV D rows (v :: vs)) : ∀ (k : Nat) (x : Ty), vs[k]? = some x → Okv D (col rows (k + 1)) x := fun k x hx => h (k + 1) x (by simpa using hx)
theorem OkV.mono {rows' : List (List Ty)} (hs : ∀ r ∈ rows', r ∈ rows) {vs : List Ty} (h : OkV D rows vs) : OkV D rows' vs := fun k x hx => (h k x hx).mono (sub.of fun p hp => by
 obtain ⟨r, h1, h2⟩ := col_mem.1 hp
 exact col_mem.2 ⟨r, hs r h1, h2⟩)
theorem missing_sound (hU : Uniq D) : ∀ (f : Nat) (rows : List (List Ty)) (cols : Nat), Mat D rows cols → (missingE D f rows cols).2 = true → (missingE D f rows cols).1.length = cols ∧ (∀ r ∈ rows, fitA r (missingE D f rows cols).1 = -1)
 | 0, rows, cols, _, h => by cases h
 | f + 1, rows, 0, _, h => by
  simp only [missingE, decide_eq_true_eq, List.length_eq_zero_iff] at h
  subst h
  exact ⟨rfl, fun r hr => by cases hr⟩
 | f + 1, rows, cols + 1, hM, h => by
  simp only [missingE] at h ⊢
  cases ha : absent D (first rows) with
  | some p =>
   rw [ha] at h
   simp only at h ⊢
   obtain ⟨h1, h2⟩ := missing_sound hU f (rest rows) cols (hM.tail rest_tail) h
   exact ⟨by rw [List.length_cons, h1], rest_up hM (absent_some hU hM ha).1 h2⟩
  | none =>
   rw [ha] at h
   simp only at h ⊢
   obtain ⟨d, x, hx, hd, hall, hcf, _, _⟩ := absent_none hM ha
   rw [hcf] at h ⊢
   have key : ∀ l : List Co, (∀ c ∈ l, c ∈ consOf D d) → (missLoop (missingE D f) rows cols l).2 = true → (missLoop (missingE D f) rows cols l).1.length = cols + 1 ∧ ∀ r ∈ rows, fitA r (missLoop (missingE D f) rows cols l).1 = -1 := fun l => by
    induction l with
    | nil => intro _ h; cases h
    | cons c l ih =>
     intro hl h
     unfold missLoop at h ⊢
     by_cases hc : (missingE D f (narrow rows c.name c.many) (c.many + cols)).2 = true
     ·rw [if_pos hc]
      have hcc := hU d c (hl c (.head _))
      have h3 : ∀ q ∈ first rows, q.kind = 3 := fun q hq => (hall q hq).1
      obtain ⟨h1, h2⟩ := missing_sound hU f _ _ (hM.narrow hcc h3) hc
      refine ⟨by simp; omega, narrow_up hM hcc h3 (by rw [List.length_take]; omega) (fun s hs => ?_)⟩
      rw [List.take_append_drop]
      exact h2 s hs
     ·rw [if_neg hc] at h ⊢
      exact ih (fun c hc => hl c (.tail _ hc)) h
   exact key _ (fun c hc => hc) h
end Go.Pt

/- Plain: weights of rows; a row that some values alone match is useful. No program in sight. No condition. -/
namespace Go.Pt
open Go.Eng
mutual
/-- the weight of a pattern: its nodes that do not match everything, and their fields -/
def wt : Ty → Nat
 | .mk k nm n «as» => if free (.mk k nm n «as») then 0 else 1 + «as».length + wtA «as»
def wtA : List Ty → Nat
 | [] => 0
 | p :: l => wt p + wtA l
end
def wtR : List (List Ty) → Nat
 | [] => 0
 | r :: rs => wtA r + wtR rs
theorem wt_eq (p : Ty) : wt p = if free p then 0 else 1 + p.args.length + wtA p.args := by
 cases p with
 | mk k nm n «as» => rw [wt]; rfl
theorem wtA_app : ∀ (a b : List Ty), wtA (a ++ b) = wtA a + wtA b
 | [], b => by simp [wtA]
 | p :: a, b => by simp only [List.cons_append, wtA, wtA_app a b]; omega
theorem wtA_anys : ∀ n, wtA (anys n) = 0
 | 0 => rfl
 | n + 1 => by
  show wt anyT + wtA (anys n) = 0
  rw [wtA_anys n, wt_eq]
  rfl
theorem wtR_rest : ∀ rows : List (List Ty), wtR (rest rows) ≤ wtR rows
 | [] => Nat.le_refl _
 | [] :: rs => by
  have := wtR_rest rs
  simpa [rest, wtR, wtA] using this
 | (p :: t) :: rs => by
  have ih := wtR_rest rs
  unfold rest at ih ⊢
  rw [List.filterMap_cons]
  by_cases h : free p = true
  ·simp only [h, if_true, wtR, wtA]
   omega
  ·simp only [h, if_false, wtR, wtA, Bool.false_eq_true]
   omega
theorem wtR_leftI (n : Int) : ∀ rows : List (List Ty), wtR (leftI rows n) ≤ wtR rows
 | [] => Nat.le_refl _
 | [] :: rs => by
  have := wtR_leftI n rs
  simpa [leftI, wtR, wtA] using this
 | (p :: t) :: rs => by
  have ih := wtR_leftI n rs
  unfold leftI at ih ⊢
  rw [List.filterMap_cons]
  by_cases h : (free p || decide (p.var = n)) = true
  ·simp only [h, if_true, wtR, wtA]
   omega
  ·simp only [h, if_false, wtR, wtA, Bool.false_eq_true]
   omega
theorem wtR_narrow (nm : ByteArray) (many : Nat) : ∀ rows : List (List Ty), wtR (narrow rows nm many) ≤ wtR rows
 | [] => Nat.le_refl _
 | [] :: rs => by
  have := wtR_narrow nm many rs
  simpa [narrow, wtR, wtA] using this
 | (p :: t) :: rs => by
  have ih := wtR_narrow nm many rs
  unfold narrow at ih ⊢
  rw [List.filterMap_cons]
  by_cases h : free p = true
  ·simp only [h, if_true, wtR, wtA, wtA_app, wtA_anys]
   omega
  ·have e := wt_eq p
   rw [if_neg h] at e
   by_cases hn : p.name = nm
   ·simp only [h, hn, if_false, if_true, wtR, wtA, wtA_app, Bool.false_eq_true]
    omega
   ·simp only [h, hn, if_false, wtR, wtA, Bool.false_eq_true]
    omega
theorem wtR_occurs {nm : ByteArray} {many : Nat} : ∀ {rows : List (List Ty)}, (∃ q ∈ first rows, q.name = nm ∧ q.args.length = many) → wtR (narrow rows nm many) + (1 + many) ≤ wtR rows
 | [], h => by
  obtain ⟨q, hq, _⟩ := h
  cases hq
 | [] :: rs, h => by
  have := wtR_occurs (nm := nm) (many := many) (rows := rs) (by simpa [first] using h)
  simpa [narrow, wtR, wtA] using this
 | (p :: t) :: rs, h => by
  by_cases hf : free p = true
  ·have ih := wtR_occurs (nm := nm) (many := many) (rows := rs) (by
    obtain ⟨q, hq, h2⟩ := h
    obtain ⟨s, g1, g2⟩ := first_mem.1 hq
    rcases List.mem_cons.1 g1 with g1 | g1
    ·cases g1
     rw [hf] at g2
     cases g2
    ·exact ⟨q, first_mem.2 ⟨s, g1, g2⟩, h2⟩)
   unfold narrow at ih ⊢
   rw [List.filterMap_cons]
   simp only [hf, if_true, wtR, wtA, wtA_app, wtA_anys]
   omega
  ·have e := wt_eq p
   rw [if_neg hf] at e
   by_cases hp : p.name = nm ∧ p.args.length = many
   ·have ih := wtR_narrow nm many rs
    unfold narrow at ih ⊢
    rw [List.filterMap_cons]
    simp only [hf, hp.1, if_false, if_true, wtR, wtA, wtA_app, Bool.false_eq_true]
    omega
   ·have ih := wtR_occurs (nm := nm) (many := many) (rows := rs) (by
     obtain ⟨q, hq, h2⟩ := h
     obtain ⟨s, g1, g2⟩ := first_mem.1 hq
     rcases List.mem_cons.1 g1 with g1 | g1
     ·cases g1
      exact absurd h2 hp
     ·exact ⟨q, first_mem.2 ⟨s, g1, g2⟩, h2⟩)
    unfold narrow at ih ⊢
    rw [List.filterMap_cons]
    by_cases hn : p.name = nm
    ·simp only [hf, hn, if_false, if_true, wtR, wtA, wtA_app, Bool.false_eq_true]
     omega
    ·simp only [hf, hn, if_false, wtR, wtA, Bool.false_eq_true]
     omega
variable {D : List Da} {rows : List (List Ty)} {cols : Nat}
theorem occurs (hU : Uniq D) (h : Mat D rows (cols + 1)) {d : Nat} (hall : ∀ q ∈ first rows, q.kind = 3 ∧ dOf D q.name = some d) (hcon : ∀ c ∈ consOf D d, ∃ q ∈ first rows, q.name = c.name) {c : Co} (hc : c ∈ consOf D d) : wtR (narrow rows c.name c.many) + (1 + c.many) ≤ wtR rows := by
 obtain ⟨q, hq, hn⟩ := hcon c hc
 obtain ⟨t, g1, g2⟩ := first_mem.1 hq
 exact wtR_occurs ⟨q, hq, hn, h.arity (hU d c hc) (fun p hp => (hall p hp).1) q t g1 g2 hn⟩
end Go.Pt

/- Plain: what match.Compile builds: rows with their indices, columns with their places, nodes. No program in sight. No condition. -/
namespace Go.Pt
open Go.Eng
structure Nd where
 kind : Int
 row : Int
 path : List Int
 names : List ByteArray
 words : List Int
 kids : List Int
def sameN (a b : Nd) : Bool := decide (a.kind = b.kind) && (decide (a.row = b.row) && (decide (a.path = b.path) && (decide (a.names = b.names) && (decide (a.words = b.words) && decide (a.kids = b.kids)))))
theorem sameN_eq {a b : Nd} : sameN a b = true ↔ a = b := by
 cases a
 cases b
 simp [sameN]
structure St where
 out : List Nd
 many : Nat
 full : Bool
def idN (l : List Nd) (t : Nd) : Int := idxP (fun x => sameN x t) l 0
def addN (s : St) (t : Nd) : St × Int := if 0 ≤ idN s.out t then (s, idN s.out t) else (⟨s.out ++ [t], s.many, s.full⟩, (s.out.length : Int))
abbrev RowP := Int × List Ty
abbrev rowsOf (rows : List RowP) : List (List Ty) := rows.map Prod.snd
def fieldsOf (p : Ty) (many : Nat) : List Ty := if free p = false ∧ p.kind = 3 then p.args else anys many
def keepP (is : Ty → Bool) (p : Ty) : Bool := free p || is p
def cutR (r : List Ty) (at_ : Nat) (p : Ty) (many : Nat) : List Ty := r.take at_ ++ (r.drop (at_ + 1) ++ fieldsOf p many)
def narrowM (at_ : Nat) (is : Ty → Bool) (many : Nat) (rows : List RowP) : List RowP := rows.filterMap fun r => match r.2[at_]? with
 | none => none
 | some p => if keepP is p then some (r.1, cutR r.2 at_ p many) else none
def belowM (paths : List (List Int)) (at_ many : Nat) : List (List Int) := paths.take at_ ++ (paths.drop (at_ + 1) ++ (List.range many).map fun (k : Nat) => paths.getD at_ [] ++ [(k : Int)])
def nfi (l : List Ty) : Int := idxP (fun p => !free p) l 0
abbrev RecF := St → List RowP → List (List Int) → St × Int
def otherM (rec : RecF) (s : St) (rows : List RowP) (paths : List (List Int)) (at_ : Nat) : St × Int := rec s (narrowM at_ (fun _ => false) 0 rows) (belowM paths at_ 0)
def isW (n : Int) (q : Ty) : Bool := decide (q.var = n)
def isC (nm : ByteArray) (q : Ty) : Bool := decide (q.name = nm)
def wordsL (rec : RecF) (rows : List RowP) (paths : List (List Int)) (at_ : Nat) : List RowP → St → List Int → List Int → St × List Int × List Int
 | [], s, ws, ks => (s, ws, ks)
 | r :: rs, s, ws, ks => match r.2[at_]? with
  | none => wordsL rec rows paths at_ rs s ws ks
  | some p => if free p || decide (p.var ∈ ws) then wordsL rec rows paths at_ rs s ws ks
   else wordsL rec rows paths at_ rs (rec s (narrowM at_ (isW p.var) 0 rows) (belowM paths at_ 0)).1 (ws ++ [p.var]) (ks ++ [(rec s (narrowM at_ (isW p.var) 0 rows) (belowM paths at_ 0)).2])
def hasC (at_ : Nat) (nm : ByteArray) (r : RowP) : Bool := match r.2[at_]? with
 | none => false
 | some p => !free p && isC nm p
def consL (rec : RecF) (rows : List RowP) (paths : List (List Int)) (at_ : Nat) : List Co → St → List ByteArray → List Int → St × List ByteArray × List Int
 | [], s, ns, ks => (s, ns, ks)
 | c :: cs, s, ns, ks => if rows.any (hasC at_ c.name) then consL rec rows paths at_ cs (rec s (narrowM at_ (isC c.name) c.many rows) (belowM paths at_ c.many)).1 (ns ++ [c.name]) (ks ++ [(rec s (narrowM at_ (isC c.name) c.many rows) (belowM paths at_ c.many)).2])
  else consL rec rows paths at_ cs s ns ks
def wordsE (rec : RecF) (s : St) (rows : List RowP) (paths : List (List Int)) (at_ : Nat) : St × Int :=
 addN (otherM rec (wordsL rec rows paths at_ rows s [] []).1 rows paths at_).1 ⟨3, 0, paths.getD at_ [], [], (wordsL rec rows paths at_ rows s [] []).2.1, (wordsL rec rows paths at_ rows s [] []).2.2 ++ [(otherM rec (wordsL rec rows paths at_ rows s [] []).1 rows paths at_).2]⟩
def consE (rec : RecF) (cs : List Co) (s : St) (rows : List RowP) (paths : List (List Int)) (at_ : Nat) : St × Int :=
 if (consL rec rows paths at_ cs s [] []).2.1.length < cs.length then
  addN (otherM rec (consL rec rows paths at_ cs s [] []).1 rows paths at_).1 ⟨2, 0, paths.getD at_ [], (consL rec rows paths at_ cs s [] []).2.1, [], (consL rec rows paths at_ cs s [] []).2.2 ++ [(otherM rec (consL rec rows paths at_ cs s [] []).1 rows paths at_).2]⟩
 else addN (consL rec rows paths at_ cs s [] []).1 ⟨2, 0, paths.getD at_ [], (consL rec rows paths at_ cs s [] []).2.1, [], (consL rec rows paths at_ cs s [] []).2.2 ++ [-1]⟩
def enterS (s : St) : St := ⟨s.out, s.many + 1, s.full || decide (4096 < s.many + 1)⟩
def failN : Nd := ⟨0, 0, [], [], [], []⟩
def rowN (k : Int) : Nd := ⟨1, k, [], [], [], []⟩
def nodeE (D : List Da) (rec : RecF) (s : St) (rows : List RowP) (paths : List (List Int)) (at_ : Nat) (p : Ty) : St × Int :=
 if p.kind = 2 then wordsE rec s rows paths at_ else consE rec (consFor D [p]) s rows paths at_
def buildE (D : List Da) : Nat → St → List RowP → List (List Int) → St × Int
 | 0, s, _, _ => (s, 0)
 | f + 1, s, [], _ => addN (enterS s) failN
 | f + 1, s, r0 :: rs, paths => if (enterS s).full then addN (enterS s) failN else if nfi r0.2 < 0 then addN (enterS s) (rowN r0.1)
  else nodeE D (buildE D f) (enterS s) (r0 :: rs) paths (nfi r0.2).toNat (r0.2.getD (nfi r0.2).toNat anyT)
/-! the weight and the columns of narrowed rows -/
theorem narrowM_mem {at_ : Nat} {is : Ty → Bool} {many : Nat} {rows : List RowP} {x : RowP} : x ∈ narrowM at_ is many rows ↔ ∃ r ∈ rows, ∃ p, r.2[at_]? = some p ∧ keepP is p = true ∧ x = (r.1, cutR r.2 at_ p many) := by
 unfold narrowM
 rw [List.mem_filterMap]
 constructor
 ·rintro ⟨r, hr, h⟩
  cases hp : r.2[at_]? with
  | none => rw [hp] at h; cases h
  | some p =>
   rw [hp] at h
   simp only at h
   by_cases hk : keepP is p = true
   ·rw [if_pos hk] at h
    exact ⟨r, hr, p, hp, hk, (Option.some.inj h).symm⟩
   ·rw [if_neg hk] at h; cases h
 ·rintro ⟨r, hr, p, hp, hk, rfl⟩
  exact ⟨r, hr, by rw [hp]; simp only; rw [if_pos hk]⟩
theorem wtA_cut : ∀ {l : List Ty} {k : Nat} {p : Ty}, l[k]? = some p → wtA (l.take k) + (wt p + wtA (l.drop (k + 1))) = wtA l
 | q :: l, 0, p, h => by
  simp only [List.getElem?_cons_zero, Option.some.injEq] at h
  subst h
  simp [wtA]
 | q :: l, k + 1, p, h => by
  have := wtA_cut (l := l) (k := k) (p := p) (by simpa using h)
  simp only [List.take_succ_cons, List.drop_succ_cons, wtA]
  omega
theorem wt_fields (p : Ty) (many : Nat) : wtA (fieldsOf p many) ≤ wt p := by
 unfold fieldsOf
 split
 ·rename_i h
  rw [wt_eq, if_neg (by rw [h.1]; decide)]
  omega
 ·rw [wtA_anys]
  omega
theorem wt_cutR {r : List Ty} {at_ : Nat} {p : Ty} {many : Nat} (h : r[at_]? = some p) : wtA (cutR r at_ p many) + wt p = wtA r + wtA (fieldsOf p many) := by
 have := wtA_cut h
 unfold cutR
 rw [wtA_app, wtA_app]
 omega
theorem narrowM_le (at_ : Nat) (is : Ty → Bool) (many : Nat) : ∀ (rows : List RowP), wtR (rowsOf (narrowM at_ is many rows)) ≤ wtR (rowsOf rows)
 | [] => Nat.le_refl _
 | r :: rs => by
  have ih := narrowM_le at_ is many rs
  unfold narrowM at ih ⊢
  rw [List.filterMap_cons]
  cases hp : r.2[at_]? with
  | none =>
   simp only [rowsOf, List.map_cons, wtR] at ih ⊢
   omega
  | some p =>
   simp only
   by_cases hk : keepP is p = true
   ·rw [if_pos hk]
    have h1 := wt_cutR (many := many) hp
    have h2 := wt_fields p many
    simp only [rowsOf, List.map_cons, wtR] at ih ⊢
    omega
   ·rw [if_neg hk]
    simp only [rowsOf, List.map_cons, wtR] at ih ⊢
    omega
theorem narrowM_wt {at_ : Nat} {is : Ty → Bool} {many d : Nat} : ∀ {rows : List RowP} {r : RowP} {p : Ty}, r ∈ rows → r.2[at_]? = some p → wtA (fieldsOf p many) + d ≤ wt p → wtR (rowsOf (narrowM at_ is many rows)) + d ≤ wtR (rowsOf rows)
 | s :: rs, r, p, hr, hp, hd => by
  rcases List.mem_cons.1 hr with rfl | hr
  ·have ih := narrowM_le at_ is many rs
   unfold narrowM at ih ⊢
   rw [List.filterMap_cons, hp]
   simp only
   by_cases hk : keepP is p = true
   ·rw [if_pos hk]
    have h1 := wt_cutR (many := many) hp
    simp only [rowsOf, List.map_cons, wtR] at ih ⊢
    omega
   ·rw [if_neg hk]
    have h1 := wtA_cut hp
    simp only [rowsOf, List.map_cons, wtR] at ih ⊢
    omega
  ·have ih := narrowM_wt (at_ := at_) (is := is) (many := many) (d := d) hr hp hd
   unfold narrowM at ih ⊢
   rw [List.filterMap_cons]
   cases hq : s.2[at_]? with
   | none =>
    simp only [rowsOf, List.map_cons, wtR] at ih ⊢
    omega
   | some q =>
    simp only
    by_cases hk : keepP is q = true
    ·rw [if_pos hk]
     have h1 := wt_cutR (many := many) hq
     have h2 := wt_fields q many
     simp only [rowsOf, List.map_cons, wtR] at ih ⊢
     omega
    ·rw [if_neg hk]
     simp only [rowsOf, List.map_cons, wtR] at ih ⊢
     omega
variable {D : List Da}
theorem fields_len {p : Ty} {many : Nat} (h : free p = false → p.kind = 3 → p.args.length = many) : (fieldsOf p many).length = many := by
 unfold fieldsOf
 split
 ·rename_i hc
  exact h hc.1 hc.2
 ·exact anys_len many
theorem cutR_len {r : List Ty} {at_ : Nat} {p : Ty} {many : Nat} (h : at_ < r.length) (hf : (fieldsOf p many).length = many) : (cutR r at_ p many).length = r.length - 1 + many := by
 unfold cutR
 rw [List.length_append, List.length_append, List.length_take, List.length_drop, hf]
 omega
theorem cutR_lo {r : List Ty} {at_ k : Nat} {p : Ty} {many : Nat} (h : at_ < r.length) (hk : k < at_) : (cutR r at_ p many)[k]? = r[k]? := by
 unfold cutR
 rw [List.getElem?_append_left (by rw [List.length_take]; omega), List.getElem?_take, if_pos hk]
theorem cutR_mid {r : List Ty} {at_ k : Nat} {p : Ty} {many : Nat} (h : at_ < r.length) (hk : at_ ≤ k) (hk2 : k < r.length - 1) : (cutR r at_ p many)[k]? = r[k + 1]? := by
 unfold cutR
 rw [List.getElem?_append_right (by rw [List.length_take]; omega), List.length_take, Nat.min_eq_left (by omega), List.getElem?_append_left (by rw [List.length_drop]; omega), List.getElem?_drop]
 congr 1
 omega
theorem cutR_hi {r : List Ty} {at_ k : Nat} {p : Ty} {many : Nat} (h : at_ < r.length) (hk : r.length - 1 ≤ k) : (cutR r at_ p many)[k]? = (fieldsOf p many)[k - (r.length - 1)]? := by
 unfold cutR
 rw [List.getElem?_append_right (by rw [List.length_take]; omega), List.length_take, Nat.min_eq_left (by omega), List.getElem?_append_right (by rw [List.length_drop]; omega), List.length_drop]
 congr 1
 omega
theorem narrowM_mat {rows : List RowP} {cols at_ many : Nat} {is : Ty → Bool} {nm : ByteArray} (h : Mat D (rowsOf rows) cols) (ha : at_ < cols) (hk : ∀ r ∈ rows, ∀ p, r.2[at_]? = some p → free p = false → is p = true → p.kind = 3 → p.name = nm ∧ p.args.length = many) (h3 : 0 < many → ∀ r ∈ rows, ∀ p, r.2[at_]? = some p → free p = false → p.kind = 3) : Mat D (rowsOf (narrowM at_ is many rows)) (cols - 1 + many) := by
 have hx : ∀ x ∈ rowsOf (narrowM at_ is many rows), ∃ r ∈ rows, ∃ p, r.2[at_]? = some p ∧ keepP is p = true ∧ x = cutR r.2 at_ p many ∧ r.2.length = cols ∧ (fieldsOf p many).length = many := fun x hx => by
  obtain ⟨y, hy, rfl⟩ := List.mem_map.1 hx
  obtain ⟨r, hr, p, hp, hkp, rfl⟩ := narrowM_mem.1 hy
  refine ⟨r, hr, p, hp, hkp, rfl, h.len r.2 (List.mem_map_of_mem hr), fields_len fun hf h3 => ?_⟩
  have : is p = true := by
   unfold keepP at hkp
   rw [hf, Bool.false_or] at hkp
   exact hkp
  exact (hk r hr p hp hf this h3).2
 refine ⟨fun x hxm => ?_, fun x hxm q hq => ?_, fun k => ?_⟩
 ·obtain ⟨r, hr, p, hp, _, rfl, hl, hf⟩ := hx x hxm
  rw [cutR_len (by omega) hf, hl]
 ·obtain ⟨r, hr, p, hp, _, rfl, hl, hf⟩ := hx x hxm
  have hw := h.wf r.2 (List.mem_map_of_mem hr)
  unfold cutR at hq
  rcases List.mem_append.1 hq with hq | hq
  ·exact hw q (List.mem_of_mem_take hq)
  rcases List.mem_append.1 hq with hq | hq
  ·exact hw q (List.mem_of_mem_drop hq)
  unfold fieldsOf at hq
  split at hq
  ·rename_i hc
   obtain ⟨_, _, _, _, h5⟩ := (hw p (List.mem_of_getElem? hp)).cons hc.2
   exact h5 q hq
  ·obtain rfl := List.eq_of_mem_replicate hq
   exact .fr rfl
 ·by_cases h1 : k < at_
  ·refine (h.agr k).mono (sub.of fun q hq => ?_)
   obtain ⟨x, hxm, hqx⟩ := col_mem.1 hq
   obtain ⟨r, hr, p, hp, _, rfl, hl, hf⟩ := hx x hxm
   rw [cutR_lo (by omega) h1] at hqx
   exact col_mem.2 ⟨r.2, List.mem_map_of_mem hr, hqx⟩
  by_cases h2 : k < cols - 1
  ·refine (h.agr (k + 1)).mono (sub.of fun q hq => ?_)
   obtain ⟨x, hxm, hqx⟩ := col_mem.1 hq
   obtain ⟨r, hr, p, hp, _, rfl, hl, hf⟩ := hx x hxm
   rw [cutR_mid (by omega) (by omega) (by omega)] at hqx
   exact col_mem.2 ⟨r.2, List.mem_map_of_mem hr, hqx⟩
  by_cases h0 : 0 < many
  ·refine ((h.agr at_).under (fun p hp hf => ?_) nm (k - (cols - 1))).mono (fun q hq hqf => ?_)
   ·obtain ⟨r, hr, hrp⟩ := col_mem.1 hp
    obtain ⟨y, hy, rfl⟩ := List.mem_map.1 hr
    exact h3 h0 y hy p hrp hf
   ·obtain ⟨x, hxm, hqx⟩ := col_mem.1 hq
    obtain ⟨r, hr, p, hp, hkp, rfl, hl, hf⟩ := hx x hxm
    rw [cutR_hi (by omega) (by omega), hl] at hqx
    unfold fieldsOf at hqx
    split at hqx
    ·rename_i hc
     have hi : is p = true := by
      unfold keepP at hkp
      rw [hc.1, Bool.false_or] at hkp
      exact hkp
     exact under_mem.2 ⟨p, col_mem.2 ⟨r.2, List.mem_map_of_mem hr, hp⟩, hc.1, (hk r hr p hp hc.1 hi hc.2).1, hqx⟩
    ·rw [anys_get hqx] at hqf
     cases hqf
  ·have hm0 : many = 0 := by omega
   have hnil : col (rowsOf (narrowM at_ is many rows)) k = [] := by
    refine List.eq_nil_iff_forall_not_mem.2 fun q hq => ?_
    obtain ⟨x, hxm, hqx⟩ := col_mem.1 hq
    obtain ⟨r, hr, p, hp, hkp, rfl, hl, hf⟩ := hx x hxm
    have h4 := (List.getElem?_eq_some_iff.1 hqx).1
    rw [cutR_len (by omega) hf] at h4
    omega
   rw [hnil]
   exact .nil
theorem belowM_len {paths : List (List Int)} {at_ many : Nat} (h : at_ < paths.length) : (belowM paths at_ many).length = paths.length - 1 + many := by
 unfold belowM
 rw [List.length_append, List.length_append, List.length_take, List.length_drop, List.length_map, List.length_range]
 omega
theorem nfi_some {l : List Ty} (h : ¬ nfi l < 0) : ∃ k p, nfi l = ((k : Nat) : Int) ∧ l[k]? = some p ∧ free p = false ∧ ∀ q ∈ l.take k, free q = true := by
 unfold nfi at h ⊢
 rcases idxP_cases (fun p => !free p) l 0 with ⟨h1, _⟩ | ⟨i, x, h1, h2, h3, h4⟩
 ·omega
 ·exact ⟨i, x, by rw [h3, Nat.zero_add], h1, by simpa using h2, fun q hq => by simpa using h4 q hq⟩
theorem nfi_none {l : List Ty} (h : nfi l < 0) : ∀ p ∈ l, free p = true := by
 unfold nfi at h
 rcases idxP_cases (fun p => !free p) l 0 with ⟨_, h1⟩ | ⟨i, x, h1, h2, h3, h4⟩
 ·exact fun p hp => by simpa using h1 p hp
 ·omega
end Go.Pt
