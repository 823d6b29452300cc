/- Texts of the proof of SsaRuns, part 1: rules of a calculus for walking, plain laws, and walks of the functions that the law reaches. No condition. -/
import Derived.WalkKit
import Derived.Deep.Quiet
import Derived.ProofKit
import Derived.OpenShut
import Derived.LoopN
import Derived.Maps.AppendAt
import Derived.WideKeyArgs
import Derived.ChangeArms
import Derived.DataReads
import Derived.Laws.MakeOwn
import Derived.WalkSpells
import Derived.Laws.Slices
import Derived.Laws.Small
set_option linter.unusedVariables false
set_option linter.unusedSimpArgs false
/- A small calculus for walks: the temporaries as a list of entries, memory as a list of owned items and of worlds that are kept; rules for the operations. General: any program P. No condition. -/
namespace Go.Eng
open Go.RowKit
/-! ### Entries: slot, condition, value -/
abbrev Env := List (Nat × Bool × Value)
def look : Env → Nat → Option (Bool × Value)
 | [], _ => none
 | (t, e) :: r, s => bif Nat.beq t s then some e else look r s
def evl (l : Env) : Operand → Option (Bool × Value)
 | .tmp t => look l t
 | .const v => some (true, v)
 | .global g => some (true, .pointer (some ⟨g, 0, none⟩))
 | .func f => some (true, .func (.func f) #[] #[])
structure Sees (n : Nat) (l : Env) (a : Act) : Prop where
 df : a.defers = []
 sz : a.tmps.size = n
 at_ : ∀ t c v, look l t = some (c, v) → a.tmps[t]? = some (bif c then v else undef)
theorem Sees.eval {n : Nat} {l : Env} {a : Act} (h : Sees n l a) {x : Operand} {c : Bool} {v : Value} (hx : evl l x = some (c, v)) (hc : c = true) : a.eval x = v := by
 subst hc
 match x, hx with
 | .tmp t, hx =>
  have := h.at_ t true v hx
  simp only [Act.eval, Array.getD_eq_getD_getElem?, this]; rfl
 | .const u, hx => simp only [evl, Option.some.injEq, Prod.mk.injEq] at hx; exact hx.2
 | .global g, hx => simp only [evl, Option.some.injEq, Prod.mk.injEq] at hx; exact hx.2
 | .func f, hx => simp only [evl, Option.some.injEq, Prod.mk.injEq] at hx; exact hx.2
theorem Sees.put {n : Nat} {l : Env} {a : Act} (h : Sees n l a) {d : Nat} (hd : d < n) (c : Bool) (v : Value) :
  Sees n ((d, c, v) :: l) (a.put (some d) (bif c then v else undef)) := by
 refine ⟨h.df, ?_, fun t c' v' ht => ?_⟩
 ·show (a.tmps.setIfInBounds d _).size = n
  rw [Array.size_setIfInBounds]; exact h.sz
 ·show (a.tmps.setIfInBounds d _)[t]? = _
  rw [Array.getElem?_setIfInBounds]
  simp only [look] at ht
  by_cases e : d = t
  ·subst e
   rw [Nat.beq_refl, cond_true] at ht
   simp only [Option.some.injEq, Prod.mk.injEq] at ht
   obtain ⟨rfl, rfl⟩ := ht
   rw [if_pos rfl, if_pos (by rw [h.sz]; exact hd)]
  ·rw [show Nat.beq d t = false from by rw [Bool.eq_false_iff]; intro hb; exact e (Nat.eq_of_beq_eq_true hb), cond_false] at ht
   rw [if_neg e]
   exact h.at_ t c' v' ht
inductive Sub (l : Env) : Env → Prop where
 | nil : Sub l []
 | cons {t : Nat} {c : Bool} {v : Value} {l' : Env} (h : look l t = some (c, v)) (r : Sub l l') : Sub l ((t, c, v) :: l')
theorem Sub.look {l l' : Env} (h : Sub l l') : ∀ t c v, look l' t = some (c, v) → Eng.look l t = some (c, v) := by
 induction h with
 | nil => intro t c v h; cases h
 | @cons t0 c0 v0 l0 h0 _ ih =>
  intro t c v ht
  simp only [Eng.look] at ht
  by_cases e : t0 = t
  ·subst e
   rw [Nat.beq_refl, cond_true] at ht
   rw [h0]; exact ht
  ·rw [show Nat.beq t0 t = false from by rw [Bool.eq_false_iff]; intro hb; exact e (Nat.eq_of_beq_eq_true hb), cond_false] at ht
   exact ih t c v ht
theorem Sees.sub {n : Nat} {l l' : Env} {a : Act} (h : Sees n l a) (hs : Sub l l') : Sees n l' a :=
 ⟨h.df, h.sz, fun t c v ht => h.at_ t c v (hs.look t c v ht)⟩
/-! ### Guards -/
inductive Guard (l : Env) (ops : Array Oper) : Option (Nat × Bool) → Bool → Prop where
 | none : Guard l ops .none true
 | yes {j d : Nat} {b : Bool} (hd : (ops[j]?).bind (·.dst) = some d) (h : look l d = some (true, .bool b)) : Guard l ops (some (j, true)) b
 | no {j d : Nat} {b : Bool} (hd : (ops[j]?).bind (·.dst) = some d) (h : look l d = some (true, .bool b)) : Guard l ops (some (j, false)) (!b)
 | cyes {j d : Nat} {c b : Bool} (hd : (ops[j]?).bind (·.dst) = some d) (h : look l d = some (c, .bool b)) : Guard l ops (some (j, true)) (c && b)
 | cno {j d : Nat} {c b : Bool} (hd : (ops[j]?).bind (·.dst) = some d) (h : look l d = some (c, .bool b)) : Guard l ops (some (j, false)) (c && !b)
theorem yielded_of {n : Nat} {l : Env} {a : Act} (hs : Sees n l a) {ops : Array Oper} {j d : Nat} {c b : Bool} (hd : (ops[j]?).bind (·.dst) = some d) (h : look l d = some (c, .bool b)) :
  yielded ops a.tmps j = if c then some b else none := by
 have ht := hs.at_ d c _ h
 unfold yielded
 rw [hd]
 simp only [Option.bind_some, ht]
 cases c <;> simp [undef]
theorem Guard.wanted {n : Nat} {l : Env} {a : Act} (hs : Sees n l a) {ops : Array Oper} {o : Oper} {c : Bool} (h : Guard l ops o.guard c) :
  Region.wanted o (yielded ops a.tmps) = c := by
 unfold Region.wanted
 generalize o.guard = g at h
 cases h with
 | none => rfl
 | @yes j d b hd h => simp only [yielded_of hs hd h, if_true]; cases c <;> rfl
 | @no j d b hd h => simp only [yielded_of hs hd h, if_true]; cases b <;> rfl
 | @cyes j d c b hd h => simp only [yielded_of hs hd h]; cases c <;> cases b <;> rfl
 | @cno j d c b hd h => simp only [yielded_of hs hd h]; cases c <;> cases b <;> rfl
theorem Sub.cons_eq {l l' : Env} {t : Nat} {c : Bool} {v v' : Value} (h : Eng.look l t = some (c, v')) (hv : v' = v) (r : Sub l l') : Sub l ((t, c, v) :: l') := .cons (by rw [h, hv]) r
/-! what a tactic finds by itself, as an argument that is filled in -/
theorem Sub.au {l l' : Env} (h : Sub l l' := by (repeat (first | exact Sub.nil | apply Sub.cons rfl | (refine Sub.cons_eq rfl (congrArg (Value.int .i64) (by first | omega | (simp only; omega))) ?_))); first | done | fail) : Sub l l' := h
theorem Guard.au {l : Env} {ops : Array Oper} {g : Option (Nat × Bool)} {c : Bool} (h : Guard l ops g c := by (first | exact Guard.none | exact Guard.yes rfl rfl | exact Guard.no rfl rfl | exact Guard.cyes rfl rfl | exact Guard.cno rfl rfl); first | done | fail) : Guard l ops g c := h
/-! ### Memory: items and kept worlds -/
structure Item where
 own : Nat → Prop
 holds : World → Prop
 stab : ∀ w w' : World, (∀ k, own k → w'.heap[k]? = w.heap[k]?) → holds w → holds w'
structure Keep (O : Nat → Prop) (s w : World) : Prop where
 os : w.os = s.os
 tape : w.tape = s.tape
 output : w.output = s.output
 size : s.heap.size ≤ w.heap.size
 block : ∀ k, k < s.heap.size → ¬ O k → w.heap[k]? = s.heap[k]?
theorem Keep.refl (O : Nat → Prop) (s : World) : Keep O s s := ⟨rfl, rfl, rfl, Nat.le_refl _, fun _ _ _ => rfl⟩
theorem Keep.trans {O : Nat → Prop} {a b c : World} (h : Keep O a b) (k : Keep O b c) : Keep O a c :=
 ⟨k.os.trans h.os, k.tape.trans h.tape, k.output.trans h.output, Nat.le_trans h.size k.size, fun i hi ho => (k.block i (Nat.lt_of_lt_of_le hi h.size) ho).trans (h.block i hi ho)⟩
theorem Keep.mono {O O' : Nat → Prop} {s w : World} (h : Keep O s w) (ho : ∀ k, k < s.heap.size → O k → O' k) : Keep O' s w :=
 ⟨h.os, h.tape, h.output, h.size, fun k hk hn => h.block k hk fun x => hn (ho k hk x)⟩
abbrev Ext (w w' : World) : Prop := Keep (fun _ => False) w w'
theorem Ext.below {w w' : World} (h : Ext w w') : Below w.heap.size w w' := ⟨h.os, h.tape, h.output, h.size, fun k hk => h.block k hk id⟩
theorem Ext.of_below {w w' : World} (h : Below w.heap.size w w') : Ext w w' := ⟨h.os, h.tape, h.output, h.size, fun k hk _ => h.block k hk⟩
def owned (H : List Item) (k : Nat) : Prop := ∃ i ∈ H, i.own k
structure Cls (H : List Item) (S : List World) (w : World) : Prop where
 holds : ∀ i ∈ H, i.holds w
 lt : ∀ i ∈ H, ∀ k, i.own k → k < w.heap.size
 dj : H.Pairwise fun i j => ∀ k, i.own k → ¬ j.own k
 kp : ∀ s ∈ S, Keep (owned H) s w
theorem Cls.start (w : World) : Cls [] [w] w :=
 {holds := fun i hi => by cases hi
  lt := fun i hi => by cases hi
  dj := List.Pairwise.nil
  kp := fun s hs => by simp only [List.mem_singleton] at hs; subst hs; exact .refl _ _ }
theorem Cls.ext {H : List Item} {S : List World} {w w' : World} (h : Cls H S w) (he : Ext w w') : Cls H S w' :=
 ⟨fun i hi => i.stab w w' (fun k hk => he.block k (h.lt i hi k hk) id) (h.holds i hi), fun i hi k hk => Nat.lt_of_lt_of_le (h.lt i hi k hk) he.size, h.dj,
  fun s hs => (h.kp s hs).trans (he.mono fun _ _ x => x.elim)⟩
theorem Cls.drew {H : List Item} {S : List World} {w : World} (h : Cls H S w) : Cls H S { w with drawn := w.drawn + 1 } :=
 h.ext ⟨rfl, rfl, rfl, Nat.le_refl _, fun _ _ _ => rfl⟩
theorem Cls.forget {H : List Item} {S S' : List World} {w : World} (h : Cls H S w) (hs : ∀ s ∈ S', s ∈ S) : Cls H S' w := ⟨h.holds, h.lt, h.dj, fun s x => h.kp s (hs s x)⟩
theorem Cls.note {H : List Item} {S : List World} {w : World} (h : Cls H S w) : Cls H (w :: S) w :=
 ⟨h.holds, h.lt, h.dj, fun s x => by cases x with | head => exact .refl _ _ | tail _ x => exact h.kp s x⟩
theorem Cls.add {H : List Item} {S : List World} {w w' : World} (h : Cls H S w) (he : Ext w w') (i : Item) (hi : i.holds w') (ho : ∀ k, i.own k → w.heap.size ≤ k ∧ k < w'.heap.size) : Cls (i :: H) S w' := by
 have h' := h.ext he
 refine ⟨fun j hj => ?_, fun j hj => ?_, .cons (fun j hj k hk hk' => ?_) h'.dj, fun s hs => (h'.kp s hs).mono fun k _ ⟨j, hj, x⟩ => ⟨j, .tail _ hj, x⟩⟩
 ·cases hj with
  | head => exact hi
  | tail _ hj => exact h'.holds j hj
 ·cases hj with
  | head => exact fun k hk => (ho k hk).2
  | tail _ hj => exact h'.lt j hj
 ·have := h.lt j hj k hk'; have := (ho k hk).1; omega
theorem Cls.turn {H : List Item} {S : List World} {w w' : World} (h : Cls H S w) (p : Nat) {i j : Item} (hp : H[p]? = some i) (hw : Keep i.own w w') (hj : j.holds w')
  (ho : ∀ k, j.own k → (i.own k ∨ w.heap.size ≤ k) ∧ k < w'.heap.size) (hk : ∀ k, i.own k → j.own k) : Cls (H.set p j) S w' := by
 have hlt : p < H.length := by
  rcases Nat.lt_or_ge p H.length with hl | hl
  ·exact hl
  ·rw [List.getElem?_eq_none hl] at hp; cases hp
 have hpi : H[p] = i := by rw [List.getElem?_eq_getElem hlt] at hp; exact Option.some.inj hp
 have far : ∀ q (hq : q < H.length), q ≠ p → ∀ k, H[q].own k → ¬ i.own k := by
  intro q hq hne k hk hik
  rcases Nat.lt_or_gt_of_ne hne with hl | hl
  ·exact List.pairwise_iff_getElem.1 h.dj q p hq hlt hl k hk (hpi ▸ hik)
  ·exact List.pairwise_iff_getElem.1 h.dj p q hlt hq hl k (hpi ▸ hik) hk
 have mem : ∀ x ∈ H.set p j, x = j ∨ ∃ q, ∃ hq : q < H.length, q ≠ p ∧ x = H[q] := by
  intro x hx
  obtain ⟨q, hq, e⟩ := List.getElem_of_mem hx
  rw [List.getElem_set] at e
  by_cases hqp : p = q
  ·rw [if_pos hqp] at e; exact .inl e.symm
  ·rw [if_neg hqp] at e; exact .inr ⟨q, by simpa using hq, Ne.symm hqp, e.symm⟩
 refine ⟨fun x hx => ?_, fun x hx k hxk => ?_, ?_, fun s hs => ?_⟩
 ·rcases mem x hx with rfl | ⟨q, hq, hne, rfl⟩
  ·exact hj
  ·exact H[q].stab w w' (fun k hk => hw.block k (h.lt _ (List.getElem_mem hq) k hk) (far q hq hne k hk)) (h.holds _ (List.getElem_mem hq))
 ·rcases mem x hx with rfl | ⟨q, hq, hne, rfl⟩
  ·exact (ho k hxk).2
  ·exact Nat.lt_of_lt_of_le (h.lt _ (List.getElem_mem hq) k hxk) hw.size
 ·rw [List.pairwise_iff_getElem]
  intro a b ha hb hab k hka hkb
  rw [List.getElem_set] at hka hkb
  simp only [List.length_set] at ha hb
  by_cases h1 : p = a
  ·subst h1
   rw [if_pos rfl] at hka
   rw [if_neg (by omega)] at hkb
   rcases (ho k hka).1 with h2 | h2
   ·exact far b hb (by omega) k hkb h2
   ·have := h.lt _ (List.getElem_mem hb) k hkb; omega
  ·rw [if_neg h1] at hka
   by_cases h2 : p = b
   ·subst h2
    rw [if_pos rfl] at hkb
    rcases (ho k hkb).1 with h3 | h3
    ·exact far a ha (by omega) k hka h3
    ·have := h.lt _ (List.getElem_mem ha) k hka; omega
   ·rw [if_neg h2] at hkb
    exact List.pairwise_iff_getElem.1 h.dj a b ha hb hab k hka hkb
 ·have hin : ∀ k, i.own k → owned (H.set p j) k := fun k hik => ⟨j, List.mem_of_getElem? (List.getElem?_set_self (by simpa using hlt)), hk k hik⟩
  have hs1 := h.kp s hs
  refine ⟨hw.os.trans hs1.os, hw.tape.trans hs1.tape, hw.output.trans hs1.output, Nat.le_trans hs1.size hw.size, fun k hks hno => ?_⟩
  have h1 : ¬ i.own k := fun x => hno (hin k x)
  refine (hw.block k (Nat.lt_of_lt_of_le hks hs1.size) h1).trans (hs1.block k hks ?_)
  rintro ⟨x, hx, hxk⟩
  obtain ⟨q, hq, rfl⟩ := List.getElem_of_mem hx
  by_cases hqp : q = p
  ·subst hqp; exact h1 (hpi ▸ hxk)
  ·exact hno ⟨H[q], List.mem_of_getElem? (by rw [List.getElem?_set_ne (Ne.symm hqp)]; exact List.getElem?_eq_getElem hq), hxk⟩
/-! ### Blocks -/
def blk (b : Nat) (t : TypeId) (c : List Value) : Item :=
 ⟨fun k => k = b, fun w => w.heap[b]? = some (.cells c.toArray t (0, 0)), fun w w' hk h => (hk b rfl).trans h⟩
theorem blk_cell {w : World} {b o : Nat} {t : TypeId} {c : List Value} (h : (blk b t c).holds w) : w.cell? ⟨b, o, none⟩ = c[o]? := by
 have h' : w.heap[b]? = some (.cells c.toArray t (0, 0)) := h
 simp [World.cell?, h']
theorem ext_alloc (w : World) (o : Obj) : Ext w (w.alloc o) := Ext.of_below ((Below.refl _ _).alloc (Nat.le_refl _) o)
theorem Cls.alloc {H : List Item} {S : List World} {w : World} (h : Cls H S w) (t : TypeId) (c : List Value) :
  Cls (blk w.heap.size t c :: H) S (w.alloc (.cells c.toArray t)) :=
 h.add (ext_alloc w _) _ (heap_alloc_new w _) (fun k hk => by
  have hk' : k = w.heap.size := hk
  subst hk'; simp)
end Go.Eng

/- The rules of the calculus: control flow, pure operations, loads, calls, new blocks, stores. General: any program P. No condition. -/
namespace Go.Eng
open Go.RowKit
/-! ### Judgements -/
structure Pev (P : Program) (n : Nat) (l : Env) (C : World → Prop) (o : Oper) (c : Bool) (v : Value) : Prop where
 run : c = true → ∀ a w, Sees n l a → C w → Oper.quietUpon P C w v ((execOp a.eval o).run P w)
structure QL (P : Program) (n : Nat) (ops : Array Oper) (C : World → Prop) (K : Act → Prop) (rest : List Oper) (l : Env) : Prop where
 run : ∀ a, Sees n l a → wpQuiet P ops C K rest a
structure OL (P : Program) (n : Nat) (ops : Array Oper) (Q : Exit → Act → World → Prop) (rest : List Oper) (l : Env) (C : World → Prop) : Prop where
 run : ∀ a w, Sees n l a → C w → wpList P ops Q rest a w
structure W (P : Program) (n : Nat) (c : Code) (Q : Exit → Act → World → Prop) (l : Env) (C : World → Prop) : Prop where
 run : ∀ a w, Sees n l a → C w → c.wp P Q a w
structure At (n : Nat) (Q : Exit → Act → World → Prop) (e : Exit) (l : Env) (C : World → Prop) : Prop where
 run : ∀ a w, Sees n l a → C w → Q e a w
section
variable {P : Program} {n : Nat} {l l' : Env} {C : World → Prop} {ops : Array Oper} {Q : Exit → Act → World → Prop} {rest : List Oper} {o : Oper} {K : Act → Prop}
/-! ### Control flow -/
theorem W.seq {x y : Code} (h : W P n x (Exit.then (y.wp P Q) Q) l C) : W P n (.seq x y) Q l C := ⟨fun a w hs hc => wp_seq (h.run a w hs hc)⟩
theorem W.reg {id : Nat} {l0 : List Oper} (h : OL P n l0.toArray Q l0 l C) : W P n (.region id l0.toArray false) Q l C := ⟨fun a w hs hc => wp_region_lit (h.run a w hs hc)⟩
theorem W.regd {id : Nat} {l0 : List Oper} (hm : P.follows .mixedOrders = true) (hB : Region.lexB .any l0.toArray = true) (hC : ∀ w, C w → C { w with drawn := w.drawn + 1 })
  (h : QL P n l0.toArray C (fun a' => ∀ w', C w' → Q .normal a' w') l0 l) : W P n (.region id l0.toArray true) Q l C :=
 ⟨fun a w hs hc => wp_region_quiet (C := C) hm hB (hC w hc) (by simpa using h.run a hs)⟩
theorem W.cond {x : Operand} {y z : Code} {b : Bool} (hx : evl l x = some (true, .bool b)) (ht : b = true → W P n y Q l C) (hf : b = false → W P n z Q l C) : W P n (.cond x y z) Q l C :=
 ⟨fun a w hs hc => wp_cond_split (hs.eval hx rfl) (fun h => (ht h).run a w hs hc) (fun h => (hf h).run a w hs hc)⟩
theorem W.block {id : Nat} {c : Code} (h : W P n c (Exit.inBlock id Q) l C) : W P n (.block id c) Q l C := ⟨fun a w hs hc => wp_block (h.run a w hs hc)⟩
theorem W.skip (h : At n Q .normal l C) : W P n .skip Q l C := ⟨fun a w hs hc => wp_skip (h.run a w hs hc)⟩
theorem W.exit {id : Nat} (h : At n Q (.exit id) l C) : W P n (.exit id) Q l C := ⟨fun a w hs hc => wp_exit (h.run a w hs hc)⟩
theorem W.ret (h : At n Q .ret l C) : W P n .ret Q l C := ⟨fun a w hs hc => wp_ret (h.run a w hs hc)⟩
theorem W.sub {c : Code} {C' : World → Prop} (hs : Sub l l') (hc : ∀ w, C w → C' w) (h : W P n c Q l' C') : W P n c Q l C := ⟨fun a w s c => h.run a w (s.sub hs) (hc w c)⟩
theorem At.sub {e : Exit} {C' : World → Prop} (hs : Sub l l') (hc : ∀ w, C w → C' w) (h : At n Q e l' C') : At n Q e l C := ⟨fun a w s c => h.run a w (s.sub hs) (hc w c)⟩
theorem At.next {y : Code} (h : W P n y Q l C) : At n (Exit.then (y.wp P Q) Q) .normal l C := ⟨h.run⟩
theorem At.then_ret {k : Act → World → Prop} (h : At n Q .ret l C) : At n (Exit.then k Q) .ret l C := ⟨h.run⟩
theorem At.then_exit {k : Act → World → Prop} {id : Nat} (h : At n Q (.exit id) l C) : At n (Exit.then k Q) (.exit id) l C := ⟨h.run⟩
theorem At.in_ret {id : Nat} (h : At n Q .ret l C) : At n (Exit.inBlock id Q) .ret l C := ⟨h.run⟩
theorem At.in_normal {id : Nat} (h : At n Q .normal l C) : At n (Exit.inBlock id Q) .normal l C := ⟨h.run⟩
theorem At.in_exit {id : Nat} (h : At n Q .normal l C) : At n (Exit.inBlock id Q) (.exit id) l C := ⟨fun a w hs hc => by
 show if id = id then Q .normal a w else Q (.exit id) a w
 rw [if_pos rfl]; exact h.run a w hs hc⟩
theorem At.in_other {id id' : Nat} (hne : Nat.beq id' id = false) (h : At n Q (.exit id') l C) : At n (Exit.inBlock id Q) (.exit id') l C := ⟨fun a w hs hc => by
 show if id' = id then Q .normal a w else Q (.exit id') a w
 rw [if_neg (fun e => by rw [e, Nat.beq_refl] at hne; cases hne)]; exact h.run a w hs hc⟩
def Again (n : Nat) {G : Type} (Φ : G → Prop) (μ : G → Nat) (lg : G → Env) (Cg : G → World → Prop) (g : G) (a : Act) (w : World) : Prop :=
 ∃ g', Φ g' ∧ μ g' < μ g ∧ Sees n (lg g') a ∧ Cg g' w
theorem W.loop {c : Code} {G : Type} (Φ : G → Prop) (μ : G → Nat) (lg : G → Env) (Cg : G → World → Prop) (g0 : G) (h0 : Φ g0) (hs0 : Sub l (lg g0)) (hc0 : ∀ w, C w → Cg g0 w)
  (body : ∀ g, Φ g → W P n c (Exit.then (Again n Φ μ lg Cg g) Q) (lg g) (Cg g)) : W P n (.loop c) Q l C := by
 have key : ∀ m g, μ g < m → Φ g → ∀ a w, Sees n (lg g) a → Cg g w → Code.rounds P c Q m a w := by
  intro m
  induction m with
  | zero => intro g h; omega
  | succ m ih =>
   intro g hm hg a w hs hc
   rw [rounds_succ]
   refine wp_mono ((body g hg).run a w hs hc) fun e a' w' hq => ?_
   cases e with
   | normal =>
    obtain ⟨g', hg', hlt, hs', hc'⟩ := hq
    exact ih g' (by omega) hg' a' w' hs' hc'
   | _ => exact hq
 exact ⟨fun a w hs hc => wp_loop_rounds _ (key (μ g0 + 1) g0 (by omega) h0 a w (hs.sub hs0) (hc0 w hc))⟩
theorem At.again {G : Type} {Φ : G → Prop} {μ : G → Nat} {lg : G → Env} {Cg : G → World → Prop} {g : G} (g' : G) (hg : Φ g') (hm : μ g' < μ g) (hs : Sub l (lg g')) (hc : ∀ w, C w → Cg g' w) :
  At n (Exit.then (Again n Φ μ lg Cg g) Q) .normal l C := ⟨fun a w s c => ⟨g', hg, hm, s.sub hs, hc w c⟩⟩
/-! ### Entering and leaving a function -/
def argEnv : Nat → List Value → Env
 | _, [] => []
 | i, v :: r => (i, true, v) :: argEnv (i + 1) r
theorem look_argEnv : ∀ (vs : List Value) (i t : Nat) (c : Bool) (v : Value), look (argEnv i vs) t = some (c, v) → c = true ∧ i ≤ t ∧ vs[t - i]? = some v := by
 intro vs
 induction vs with
 | nil => intro i t c v h; cases h
 | cons u r ih =>
  intro i t c v h
  simp only [argEnv, look] at h
  by_cases e : i = t
  ·subst e
   rw [Nat.beq_refl, cond_true] at h
   simp only [Option.some.injEq, Prod.mk.injEq] at h
   exact ⟨h.1.symm, Nat.le_refl _, by simp [h.2]⟩
  ·rw [show Nat.beq i t = false from by rw [Bool.eq_false_iff]; intro hb; exact e (Nat.eq_of_beq_eq_true hb), cond_false] at h
   obtain ⟨h1, h2, h3⟩ := ih (i + 1) t c v h
   refine ⟨h1, by omega, ?_⟩
   rw [show t - i = (t - (i + 1)) + 1 from by omega, List.getElem?_cons_succ]; exact h3
theorem sees_args {n : Nat} {args : Array Value} (h : args.size ≤ n) : Sees n (argEnv 0 args.toList) { tmps := args ++ Array.replicate (n - args.size) undef, defers := [] } := by
 refine ⟨rfl, by simp; omega, fun t c v ht => ?_⟩
 obtain ⟨rfl, _, h3⟩ := look_argEnv _ 0 t c v ht
 have h4 : args[t]? = some v := by simpa using h3
 have h5 : t < args.size := by
  rcases Nat.lt_or_ge t args.size with hl | hl
  ·exact hl
  ·rw [Array.getElem?_eq_none hl] at h4; cases h4
 show (args ++ _)[t]? = some v
 rw [Array.getElem?_append_left h5]; exact h4
theorem enter {f : FuncId} {fn : Func} {c : Code} {args : List Value} {R : Ending → World → Prop} {w : World} {m : Nat} (hf : P.funcs[f]? = some fn) (hb : fn.body = some c) (hn : fn.ntmps = m) (ha : Nat.ble args.length m = true)
  (hC : C w) (h : W P m c (bodyPost P fn R) (argEnv 0 args) C) : Calls P f args.toArray w R := by
 subst hn
 exact calls_of_wp hf hb (h.run _ w (by have := sees_args (args := args.toArray) (n := fn.ntmps) (by simpa using Nat.le_of_ble_eq_true ha); simpa using this) hC)
theorem At.fin0 {fn : Func} {R : Ending → World → Prop} (hr : fn.results = #[]) (h : ∀ w, C w → R (.returned (.tuple #[])) w) : At n (bodyPost P fn R) .ret l C :=
 ⟨fun a w hs hc => ⟨hs.df, .tuple #[], by simp [results, hr], h w hc⟩⟩
theorem At.fin1 {fn : Func} {R : Ending → World → Prop} {t : Nat} {v : Value} (hr : fn.results = #[.tmp t]) (ht : look l t = some (true, v)) (h : ∀ w, C w → R (.returned v) w) : At n (bodyPost P fn R) .ret l C :=
 ⟨fun a w hs hc => ⟨hs.df, v, by have := hs.at_ t true v ht; simp [results, hr, Array.getD_eq_getD_getElem?, this], h w hc⟩⟩
theorem At.fin2 {fn : Func} {R : Ending → World → Prop} {t u : Nat} {v v' : Value} (hr : fn.results = #[.tmp t, .tmp u]) (ht : look l t = some (true, v)) (hu : look l u = some (true, v'))
  (h : ∀ w, C w → R (.returned (.tuple #[v, v'])) w) : At n (bodyPost P fn R) .ret l C :=
 ⟨fun a w hs hc => ⟨hs.df, .tuple #[v, v'], by have h1 := hs.at_ t true v ht; have h2 := hs.at_ u true v' hu; simp [results, hr, Array.getD_eq_getD_getElem?, h1, h2], h w hc⟩⟩
theorem At.end_ {fn : Func} {R : Ending → World → Prop} (h : At n (bodyPost P fn R) .ret l C) : At n (bodyPost P fn R) .normal l C := ⟨h.run⟩
/-! ### Lists of operations -/
theorem QL.nil (h : At n Q .normal l C) : QL P n ops C (fun a' => ∀ w', C w' → Q .normal a' w') [] l := ⟨fun a hs w hc => h.run a w hs hc⟩
theorem OL.nil (h : At n Q .normal l C) : OL P n ops Q [] l C := ⟨fun a w hs hc => h.run a w hs hc⟩
theorem QL.op {d : Nat} {c : Bool} {v : Value} (hg : Guard l ops o.guard c) (hd : o.dst = some d) (hn : Nat.ble (d + 1) n = true) (hv : Pev P n l C o c v)
  (k : QL P n ops C K rest ((d, c, v) :: l)) : QL P n ops C K (o :: rest) l := by
 have hn' := Nat.le_of_ble_eq_true hn
 refine ⟨fun a hs => ?_⟩
 unfold wpQuiet
 rw [hg.wanted hs]
 cases c with
 | true => exact ⟨v, fun w hw => hv.run rfl a w hs hw, by rw [hd]; exact k.run _ (hs.put hn' true v)⟩
 | false => rw [hd]; exact k.run _ (hs.put hn' false v)
theorem OL.op {d : Nat} {c : Bool} {v : Value} (hg : Guard l ops o.guard c) (hd : o.dst = some d) (hn : Nat.ble (d + 1) n = true) (hv : Pev P n l C o c v)
  (k : OL P n ops Q rest ((d, c, v) :: l) C) : OL P n ops Q (o :: rest) l C := by
 have hn' := Nat.le_of_ble_eq_true hn
 refine ⟨fun a w hs hc => ?_⟩
 unfold wpList
 rw [hg.wanted hs]
 cases c with
 | true =>
  refine .inl (Oper.wp_of_quiet (C := C) (K := fun a' => ∀ w', C w' → wpList P ops Q rest a' w') hc (fun a' w' hw' h => h w' hw') ⟨v, fun w hw => hv.run rfl a w hs hw, fun w' hw' => ?_⟩)
  rw [hd]; exact k.run _ w' (hs.put hn' true v) hw'
 | false => rw [hd]; exact k.run _ w (hs.put hn' false v) hc
theorem OL.store_ {C' : World → Prop} (hg : o.guard = none) (hd : o.dst = none) (hv : ∀ a w, Sees n l a → C w → ∃ w', (execOp a.eval o).run P w = .ok .skip w' ∧ C' w')
  (k : OL P n ops Q rest l C') : OL P n ops Q (o :: rest) l C := by
 refine ⟨fun a w hs hc => ?_⟩
 refine wpList_plain hg fun K hK => ?_
 obtain ⟨w', hr, hc'⟩ := hv a w hs hc
 show Oper.upon P o a K Q ((execOp a.eval o).run P w)
 rw [hr]
 show K (a.put o.dst undef) w'
 rw [hd]
 exact hK _ _ (k.run a w' hs hc')
/-! ### Several steps at once -/
theorem OL.nx {y : Code} (h : W P n y Q l C) : OL P n ops (Exit.then (y.wp P Q) Q) [] l C := OL.nil (At.next h)
theorem W.sr {id : Nat} {l0 : List Oper} {y : Code} (h : OL P n l0.toArray (Exit.then (y.wp P Q) Q) l0 l C) : W P n (.seq (.region id l0.toArray false) y) Q l C := W.seq (W.reg h)
theorem OL.nsr {id : Nat} {l0 : List Oper} {y : Code} (h : OL P n l0.toArray (Exit.then (y.wp P Q) Q) l0 l C) : OL P n ops (Exit.then ((Code.seq (.region id l0.toArray false) y).wp P Q) Q) [] l C := OL.nx (W.sr h)
theorem W.sk {y : Code} (h : W P n y Q l C) : W P n .skip (Exit.then (y.wp P Q) Q) l C := W.skip (At.next h)
theorem W.sb {id : Nat} {c y : Code} (h : W P n c (Exit.inBlock id (Exit.then (y.wp P Q) Q)) l C) : W P n (.seq (.block id c) y) Q l C := W.seq (W.block h)
inductive Rch : (Exit → Act → World → Prop) → (Exit → Act → World → Prop) → Prop where
 | nil {Q : Exit → Act → World → Prop} : Rch Q Q
 | th {k : Act → World → Prop} {Q Q' : Exit → Act → World → Prop} (h : Rch Q Q') : Rch (Exit.then k Q) Q'
 | bl {id : Nat} {Q Q' : Exit → Act → World → Prop} (h : Rch Q Q') : Rch (Exit.inBlock id Q) Q'
theorem Rch.ret {Q' : Exit → Act → World → Prop} (h : Rch Q Q') (k : At n Q' .ret l C) : At n Q .ret l C := by
 induction h with
 | nil => exact k
 | th _ ih => exact At.then_ret (ih k)
 | bl _ ih => exact At.in_ret (ih k)
theorem W.rt {Q' : Exit → Act → World → Prop} (h : At n Q' .ret l C) (hr : Rch Q Q' := by (repeat (first | with_reducible apply Rch.th | with_reducible apply Rch.bl | exact Rch.nil)); first | done | fail) : W P n .ret Q l C := W.ret (hr.ret h)
inductive Ech (id : Nat) : (Exit → Act → World → Prop) → (Exit → Act → World → Prop) → Prop where
 | hit {Q : Exit → Act → World → Prop} : Ech id (Exit.inBlock id Q) Q
 | th {k : Act → World → Prop} {Q Q' : Exit → Act → World → Prop} (h : Ech id Q Q') : Ech id (Exit.then k Q) Q'
 | bl {id' : Nat} {Q Q' : Exit → Act → World → Prop} (hne : Nat.beq id id' = false) (h : Ech id Q Q') : Ech id (Exit.inBlock id' Q) Q'
theorem Ech.exit {id : Nat} {Q' : Exit → Act → World → Prop} (h : Ech id Q Q') (k : At n Q' .normal l C) : At n Q (.exit id) l C := by
 induction h with
 | hit => exact At.in_exit k
 | th _ ih => exact At.then_exit (ih k)
 | bl hne _ ih => exact At.in_other hne (ih k)
theorem W.xt {id : Nat} {Q' : Exit → Act → World → Prop} (h : At n Q' .normal l C) (he : Ech id Q Q' := by (repeat (first | with_reducible exact Ech.hit | with_reducible apply Ech.th | (with_reducible apply Ech.bl; rfl))); first | done | fail) : W P n (.exit id) Q l C := W.exit (he.exit h)
theorem W.cnd {x : Operand} {y z : Code} {b : Bool} {p q : Prop} (ht : p → W P n y Q l C) (hf : q → W P n z Q l C) (hx : evl l x = some (true, .bool b) := by rfl)
  (hp : (b = true) = p := by ((try simp only [Bool.and_eq_true, Bool.or_eq_true, Bool.not_eq_true', Bool.and_eq_false_iff, Bool.or_eq_false_iff, Bool.not_eq_false', decide_eq_true_eq, decide_eq_false_iff_not, Int.not_lt, Int.not_le]); rfl))
  (hq : (b = false) = q := by ((try simp only [Bool.and_eq_true, Bool.or_eq_true, Bool.not_eq_true', Bool.and_eq_false_iff, Bool.or_eq_false_iff, Bool.not_eq_false', decide_eq_true_eq, decide_eq_false_iff_not, Int.not_lt, Int.not_le]); rfl)) : W P n (.cond x y z) Q l C :=
 W.cond hx (fun h => ht (hp ▸ h)) (fun h => hf (hq ▸ h))
section
variable {dd : Nat} {v : Value} {b : Bool} {op : Op} {ty : TypeId} {pos : String} {af : Array Edge} {j d : Nat}
theorem oop (hn : Nat.ble (dd + 1) n = true) (hv : Pev P n l C ⟨some dd, op, ty, pos, af, none⟩ true v) (k : OL P n ops Q rest ((dd, true, v) :: l) C) : OL P n ops Q (⟨some dd, op, ty, pos, af, none⟩ :: rest) l C := OL.op Guard.none rfl hn hv k
theorem oy (hd : (ops[j]?).bind (·.dst) = some d) (h : look l d = some (true, .bool b)) (hn : Nat.ble (dd + 1) n = true) (hv : Pev P n l C ⟨some dd, op, ty, pos, af, some (j, true)⟩ b v) (k : OL P n ops Q rest ((dd, b, v) :: l) C) : OL P n ops Q (⟨some dd, op, ty, pos, af, some (j, true)⟩ :: rest) l C := OL.op (Guard.yes hd h) rfl hn hv k
theorem ono (hd : (ops[j]?).bind (·.dst) = some d) (h : look l d = some (true, .bool b)) (hn : Nat.ble (dd + 1) n = true) (hv : Pev P n l C ⟨some dd, op, ty, pos, af, some (j, false)⟩ (!b) v) (k : OL P n ops Q rest ((dd, !b, v) :: l) C) : OL P n ops Q (⟨some dd, op, ty, pos, af, some (j, false)⟩ :: rest) l C := OL.op (Guard.no hd h) rfl hn hv k
theorem qop (hn : Nat.ble (dd + 1) n = true) (hv : Pev P n l C ⟨some dd, op, ty, pos, af, none⟩ true v) (k : QL P n ops C K rest ((dd, true, v) :: l)) : QL P n ops C K (⟨some dd, op, ty, pos, af, none⟩ :: rest) l := QL.op Guard.none rfl hn hv k
theorem qy (hd : (ops[j]?).bind (·.dst) = some d) (h : look l d = some (true, .bool b)) (hn : Nat.ble (dd + 1) n = true) (hv : Pev P n l C ⟨some dd, op, ty, pos, af, some (j, true)⟩ b v) (k : QL P n ops C K rest ((dd, b, v) :: l)) : QL P n ops C K (⟨some dd, op, ty, pos, af, some (j, true)⟩ :: rest) l := QL.op (Guard.yes hd h) rfl hn hv k
theorem qno (hd : (ops[j]?).bind (·.dst) = some d) (h : look l d = some (true, .bool b)) (hn : Nat.ble (dd + 1) n = true) (hv : Pev P n l C ⟨some dd, op, ty, pos, af, some (j, false)⟩ (!b) v) (k : QL P n ops C K rest ((dd, !b, v) :: l)) : QL P n ops C K (⟨some dd, op, ty, pos, af, some (j, false)⟩ :: rest) l := QL.op (Guard.no hd h) rfl hn hv k
end
end
end Go.Eng

/- The rules for operations: moves, arithmetic, comparisons, addresses, loads, calls, new blocks, stores. General: any program P. No condition. -/
namespace Go.Eng
open Go.RowKit
/-! ### What is read off the program's types -/
def lit : Nat → Option Nat
 | 0 => some 0 | 1 => some 1 | 2 => some 2 | 3 => some 3 | 4 => some 4 | 5 => some 5 | 6 => some 6 | 7 => some 7 | 8 => some 8 | 9 => some 9 | 10 => some 10 | 11 => some 11 | 12 => some 12 | 13 => some 13 | 14 => some 14 | 15 => some 15 | 16 => some 16 | 17 => some 17 | 18 => some 18 | 19 => some 19 | 20 => some 20 | 21 => some 21 | 22 => some 22 | 23 => some 23 | 24 => some 24 | 25 => some 25 | 26 => some 26 | 27 => some 27 | 28 => some 28 | 29 => some 29 | 30 => some 30 | 31 => some 31 | 32 => some 32 | 33 => some 33 | 34 => some 34 | 35 => some 35 | 36 => some 36 | 37 => some 37 | 38 => some 38 | 39 => some 39 | 40 => some 40 | 41 => some 41 | 42 => some 42 | 43 => some 43 | 44 => some 44 | 45 => some 45 | 46 => some 46 | 47 => some 47 | 48 => some 48 | 49 => some 49 | 50 => some 50 | 51 => some 51 | 52 => some 52 | 53 => some 53 | 54 => some 54 | 55 => some 55 | 56 => some 56 | 57 => some 57 | 58 => some 58 | 59 => some 59 | 60 => some 60 | 61 => some 61 | 62 => some 62 | 63 => some 63 | 64 => some 64 | 65 => some 65 | 66 => some 66 | 67 => some 67 | 68 => some 68 | 69 => some 69 | 70 => some 70 | 71 => some 71 | 72 => some 72 | 73 => some 73 | 74 => some 74 | 75 => some 75 | 76 => some 76 | 77 => some 77 | 78 => some 78 | 79 => some 79 | 80 => some 80 | 81 => some 81 | 82 => some 82 | 83 => some 83 | 84 => some 84 | 85 => some 85 | 86 => some 86 | 87 => some 87 | 88 => some 88 | 89 => some 89 | 90 => some 90 | 91 => some 91 | 92 => some 92 | 93 => some 93 | 94 => some 94 | 95 => some 95 | 96 => some 96 | 97 => some 97 | 98 => some 98 | 99 => some 99 | 100 => some 100 | 101 => some 101 | 102 => some 102 | 103 => some 103 | 104 => some 104 | 105 => some 105 | 106 => some 106 | 107 => some 107 | 108 => some 108 | 109 => some 109 | 110 => some 110 | 111 => some 111 | 112 => some 112 | 113 => some 113 | 114 => some 114 | 115 => some 115 | 116 => some 116 | 117 => some 117 | 118 => some 118 | 119 => some 119 | 120 => some 120 | 121 => some 121 | 122 => some 122 | 123 => some 123 | 124 => some 124 | 125 => some 125 | 126 => some 126 | 127 => some 127 | 128 => some 128
 | _ => none
theorem lit_eq {a b : Nat} (h : lit a = some b) : a = b := by
 unfold lit at h
 split at h <;> simp_all
def scalB (P : Program) (t : TypeId) : Bool := match P.underlying t with | some (.struct _) => false | some (.array ..) => false | some _ => true | none => false
def sizeN (P : Program) (t : TypeId) : Option Nat := match P.info? t with | some i => lit i.size | none => none
def aggN (P : Program) (t : TypeId) : Option Nat := match P.underlying t with
 | some (.struct _) => sizeN P t
 | some (.array ..) => sizeN P t
 | _ => none
def fldAt (P : Program) (t : TypeId) (i : Nat) : Option Nat := match P.underlying t with
 | some (.struct fs) => match fs[i]? with
  | some f => match sizeN P f.type with
   | some 0 => none
   | some (_ + 1) => lit f.offset
   | none => none
  | none => none
 | _ => none
def slElem (P : Program) (t : TypeId) : Option (TypeId × Nat) := match P.underlying t with
 | some (.slice e) => match sizeN P e with
  | some k => some (e, k)
  | none => none
 | _ => none
def arrElem (P : Program) (t : TypeId) : Option (Nat × Nat) := match P.underlying t with
 | some (.array n e) => match sizeN P e with
  | some k => some (n, k)
  | none => none
 | _ => none
def callable (P : Program) (f : FuncId) : Bool := match P.funcs[f]? with | some fn => !(fn.name == "runtime.NumGoroutine") && fn.body.isSome | none => false
section types
variable {P : Program} {t : TypeId}
theorem run_isAgg_scal (h : scalB P t = true) (w : World) : (isAgg t).run P w = .ok false w := by
 unfold scalB at h
 cases hu : P.underlying t with
 | none => simp [hu] at h
 | some d =>
  unfold isAgg
  rw [Sem.run_bind, run_underlying hu w]
  rw [hu] at h
  cases d <;> simp_all
theorem sizeN_info {k : Nat} (h : sizeN P t = some k) : ∃ i, P.info? t = some i ∧ i.size = k := by
 unfold sizeN at h
 cases hq : P.info? t with
 | none => simp [hq] at h
 | some i => rw [hq] at h; exact ⟨i, rfl, lit_eq h⟩
theorem aggN_info {k : Nat} (h : aggN P t = some k) : ∃ d, P.underlying t = some d ∧ (match d with | .struct _ | .array _ _ => true | _ => false) = true ∧ sizeN P t = some k := by
 unfold aggN at h
 cases hu : P.underlying t with
 | none => simp [hu] at h
 | some d =>
  refine ⟨d, rfl, ?_⟩
  rw [hu] at h
  cases d <;> simp_all
theorem run_isAgg_agg {k : Nat} (h : aggN P t = some k) (w : World) : (isAgg t).run P w = .ok true w := by
 obtain ⟨d, hu, hd, _⟩ := aggN_info h
 unfold isAgg
 rw [Sem.run_bind, run_underlying hu w]
 cases d <;> simp_all
theorem run_sizeN {k : Nat} (h : sizeN P t = some k) (w : World) : (sizeOf t).run P w = .ok k w := by
 obtain ⟨i, hq, hs⟩ := sizeN_info h
 simp [sizeOf, typeInfo, hq, hs]
theorem aggN_size {k : Nat} (h : aggN P t = some k) : sizeN P t = some k := (aggN_info h).choose_spec.2.2
theorem run_loadVar_scal (h : scalB P t = true) {w : World} {a : Addr} {v : Value} (hc : w.cell? a = some v) : (loadVar t a).run P w = .ok v w := by
 simp [loadVar, Sem.run_bind, run_isAgg_scal h, hc]
def CellsAt (w : World) (a : Addr) (vs : List Value) : Prop := ∀ j v, vs[j]? = some v → w.cell? (a.add j) = some v
theorem run_loadVar_agg {vs : List Value} (h : aggN P t = some vs.length) {w : World} {a : Addr} (hc : CellsAt w a vs) : (loadVar t a).run P w = .ok (.agg vs.toArray) w := by
 have hl := run_loadCells_list (P := P) w a vs hc
 simp [loadVar, Sem.run_bind, run_isAgg_agg h, run_sizeN (aggN_size h), hl]
end types
theorem add_zero_ (a : Addr) : a.add 0 = a := rfl
theorem add_mid {b o : Nat} (n : Nat) : (⟨b, o, none⟩ : Addr).add n = ⟨b, o + n, none⟩ := by
 unfold Addr.add; split
 ·subst_vars; rfl
 ·rfl
theorem add_block (a : Addr) (n : Nat) : (a.add n).block = a.block := by unfold Addr.add; split <;> rfl
theorem add_add (a : Addr) (i j : Nat) : (a.add i).add j = a.add (i + j) := by
 unfold Addr.add
 by_cases hi : i = 0 <;> by_cases hj : j = 0 <;> simp [hi, hj, Nat.add_assoc]
/-! ### Values without a look at memory -/
section
variable {P : Program} {n : Nat} {l : Env} {C : World → Prop} {c : Bool} {d : Option Nat} {ty : TypeId} {pos : String} {af : Array Edge} {g : Option (Nat × Bool)}
theorem Pev.of_run {o : Oper} {v : Value} (h : c = true → ∀ a w, Sees n l a → C w → (execOp a.eval o).run P w = .ok (.value v) w) : Pev P n l C o c v :=
 ⟨fun hc a w hs hw => by rw [h hc a w hs hw]; exact ⟨rfl, rfl⟩⟩
theorem Pev.no {o : Oper} : Pev P n l C o false (.bool false) := ⟨fun h => by cases h⟩
theorem Pev.move {x : Operand} {cx : Bool} {v : Value} (hx : evl l x = some (cx, v)) (hc : c = true → cx = true) : Pev P n l C ⟨d, .move x, ty, pos, af, g⟩ c v :=
 .of_run fun h a w hs hw => by show Result.ok (Next.value (a.eval x)) w = _; rw [hs.eval hx (hc h)]
theorem Pev.assign {x : Operand} {cx : Bool} {v : Value} (hx : evl l x = some (cx, v)) (hc : c = true → cx = true) : Pev P n l C ⟨d, .assign x, ty, pos, af, g⟩ c v :=
 .of_run fun h a w hs hw => by show Result.ok (Next.value (a.eval x)) w = _; rw [hs.eval hx (hc h)]
theorem run_pick {a : Act} {w : World} {x y z : Operand} {b : Bool} (hx : a.eval x = .bool b) : (execOp a.eval ⟨d, .pick x y z, ty, pos, af, g⟩).run P w = .ok (.value (bif b then a.eval y else a.eval z)) w := by
 simp only [execOp, hx, asBool]
 cases b <;> rfl
theorem Pev.pick_and {x y : Operand} {cx cy b p : Bool} (hx : evl l x = some (cx, .bool b)) (hc : c = true → cx = true) (hy : evl l y = some (cy, .bool p)) (hcy : (c && b) = true → cy = true) :
  Pev P n l C ⟨d, .pick x y (.const (.bool false)), ty, pos, af, g⟩ c (.bool (b && p)) :=
 .of_run fun h a w hs hw => by
  rw [run_pick (hs.eval hx (hc h))]
  cases b with
  | false => rfl
  | true => rw [cond_true, hs.eval hy (hcy (by simp [h]))]; rfl
theorem Pev.pick_or {x y : Operand} {cx cy b p : Bool} (hx : evl l x = some (cx, .bool b)) (hc : c = true → cx = true) (hy : evl l y = some (cy, .bool p)) (hcy : (c && !b) = true → cy = true) :
  Pev P n l C ⟨d, .pick x (.const (.bool true)) y, ty, pos, af, g⟩ c (.bool (b || p)) :=
 .of_run fun h a w hs hw => by
  rw [run_pick (hs.eval hx (hc h))]
  cases b with
  | true => rfl
  | false => rw [cond_false, hs.eval hy (hcy (by simp [h]))]; rfl
theorem Pev.nil_ptr {x : Operand} {cx : Bool} {q : Addr} (hx : evl l x = some (cx, .pointer (some q))) (hc : c = true → cx = true) : Pev P n l C ⟨d, .nilCheck x, ty, pos, af, g⟩ c (.pointer (some q)) :=
 .of_run fun h a w hs hw => by simp only [execOp, hs.eval hx (hc h)]; rfl
/-! binary operations -/
structure Bin (P : Program) (op : BinOp) (t : TypeId) (u v r : Value) : Prop where
 run : ∀ (x y : Operand) (w : World), (do eqGuard op t x y u v; binOp op t u v : Sem Value).run P w = .ok r w
theorem Pev.bin {op : BinOp} {t yt : TypeId} {x y : Operand} {cx cy : Bool} {u v r : Value} (hx : evl l x = some (cx, u)) (hcx : c = true → cx = true) (hy : evl l y = some (cy, v)) (hcy : c = true → cy = true)
  (hb : c = true → Bin P op t u v r) : Pev P n l C ⟨d, .binOp op t x y yt, ty, pos, af, g⟩ c r :=
 .of_run fun h a w hs hw => by
  have := (hb h).run x y w
  simp only [execOp, hs.eval hx (hcx h), hs.eval hy (hcy h), Sem.run_bind, this, Result.andThen_ok]
  rfl
theorem guard_int {op : BinOp} {t : TypeId} {x y : Operand} {k k' : IntKind} {a b : Int} {w : World} : (eqGuard op t x y (.int k a) (.int k' b)).run P w = .ok () w := by cases op <;> rfl
variable {t : TypeId} {k : IntKind} {a b : Int}
theorem int_beq (a b : Int) : (a == b) = decide (a = b) := by by_cases h : a = b <;> simp [h]
theorem bin_int {op : BinOp} {r : Value} (h : (binOp op t (.int k a) (.int k b) : Sem Value) = pure r) : Bin P op t (.int k a) (.int k b) r := ⟨fun x y w => by
 rw [Sem.run_bind, guard_int, Result.andThen_ok, h]; rfl⟩
theorem Bin.lss : Bin P .lss t (.int k a) (.int k b) (.bool (decide (a < b))) := bin_int (by simp [binOp, Op.intCmp])
theorem Bin.leq : Bin P .leq t (.int k a) (.int k b) (.bool (decide (a ≤ b))) := bin_int (by simp [binOp, Op.intCmp])
theorem Bin.gtr : Bin P .gtr t (.int k a) (.int k b) (.bool (decide (b < a))) := bin_int (by simp [binOp, Op.intCmp])
theorem Bin.geq : Bin P .geq t (.int k a) (.int k b) (.bool (decide (b ≤ a))) := bin_int (by simp [binOp, Op.intCmp])
theorem Bin.eql : Bin P .eql t (.int k a) (.int k b) (.bool (decide (a = b))) := bin_int (by simp only [binOp, Op.intCmp, ne_eq, not_true, if_false, int_beq])
theorem Bin.neq : Bin P .neq t (.int k a) (.int k b) (.bool (!decide (a = b))) := bin_int (by simp only [binOp, Op.intCmp, ne_eq, not_true, if_false, bne, int_beq])
theorem Bin.add : Bin P .add t (.int k a) (.int k b) (.int k (k.wrap (a + b))) := bin_int (by simp [binOp, Op.intArith])
theorem Bin.sub : Bin P .sub t (.int k a) (.int k b) (.int k (k.wrap (a - b))) := bin_int (by simp [binOp, Op.intArith])
theorem Bin.mul : Bin P .mul t (.int k a) (.int k b) (.int k (k.wrap (a * b))) := bin_int (by simp [binOp, Op.intArith])
theorem Bin.add_in (h : -9223372036854775808 ≤ a + b ∧ a + b ≤ 9223372036854775807) : Bin P .add t (.int .i64 a) (.int .i64 b) (.int .i64 (a + b)) := bin_int (by simp [binOp, Op.intArith, IntWalk.i64_in _ h])
theorem Bin.sub_in (h : -9223372036854775808 ≤ a - b ∧ a - b ≤ 9223372036854775807) : Bin P .sub t (.int .i64 a) (.int .i64 b) (.int .i64 (a - b)) := bin_int (by simp [binOp, Op.intArith, IntWalk.i64_in _ h])
theorem Bin.mul_in (h : -9223372036854775808 ≤ a * b ∧ a * b ≤ 9223372036854775807) : Bin P .mul t (.int .i64 a) (.int .i64 b) (.int .i64 (a * b)) := bin_int (by simp [binOp, Op.intArith, IntWalk.i64_in _ h])
theorem Bin.quo (h : b ≠ 0) : Bin P .quo t (.int k a) (.int k b) (.int k (k.wrap (a.tdiv b))) := bin_int (by simp [binOp, Op.intDiv, h])
theorem Bin.rem (h : b ≠ 0) : Bin P .rem t (.int k a) (.int k b) (.int k (a.tmod b)) := bin_int (by simp [binOp, Op.intDiv, h])
theorem Bin.quo_in (h : 0 ≤ a ∧ a ≤ 9223372036854775807 ∧ 1 ≤ b) : Bin P .quo t (.int .i64 a) (.int .i64 b) (.int .i64 (a / b)) := bin_int (by simp [binOp, Op.intDiv, IntWalk.i64_quo _ _ h]; omega)
theorem Bin.rem_in (h : 0 ≤ a ∧ 1 ≤ b) : Bin P .rem t (.int k a) (.int k b) (.int k (a % b)) := bin_int (by simp [binOp, Op.intDiv, Int.tmod_eq_emod_of_nonneg h.1]; omega)
theorem Bin.and : Bin P .and t (.int k a) (.int k b) (.int k (bits .and k a b)) := bin_int (by simp only [binOp, ne_eq, not_true, if_false]; exact intBits_and k a b)
theorem Bin.or : Bin P .or t (.int k a) (.int k b) (.int k (bits .or k a b)) := bin_int (by simp only [binOp, ne_eq, not_true, if_false]; exact intBits_or k a b)
theorem bin_shift {op : BinOp} {yk : IntKind} {r : Value} (h : (binOp op t (.int k a) (.int yk b) : Sem Value) = pure r) : Bin P op t (.int k a) (.int yk b) r := ⟨fun x y w => by
 rw [Sem.run_bind, guard_int, Result.andThen_ok, h]; rfl⟩
theorem Bin.shl {yk : IntKind} (h : 0 ≤ b ∧ b ≤ k.bits) : Bin P .shl t (.int k a) (.int yk b) (.int k (k.wrap (a * 2 ^ b.toNat))) := bin_shift (by simp only [binOp]; exact shift_shl k yk a b h.1 h.2)
theorem Bin.shr {yk : IntKind} (h : 0 ≤ b ∧ b ≤ k.bits) : Bin P .shr t (.int k a) (.int yk b) (.int k (a / 2 ^ b.toNat)) := bin_shift (by simp only [binOp]; exact shift_shr k yk a b h.1 h.2)
theorem bytes_beq (s u : ByteArray) : (s.toList == u.toList) = decide (s = u) := by
 rw [ByteArray.toList_eq, ByteArray.toList_eq]
 by_cases h : s = u
 ·subst h; simp
 ·have h2 : ¬ s.data.toList = u.data.toList := fun e => h (by cases s; cases u; simp_all)
  rw [decide_eq_false h]; exact beq_eq_false_iff_ne.2 h2
theorem Pev.not {t : TypeId} {x : Operand} {cx p : Bool} (hx : evl l x = some (cx, .bool p)) (hc : c = true → cx = true) : Pev P n l C ⟨d, .unOp .not t x, ty, pos, af, g⟩ c (.bool (!p)) :=
 .of_run fun h a w hs hw => by simp only [execOp, hs.eval hx (hc h), Op.unary, Sem.run_bind]; rfl
theorem Pev.extract {x : Operand} {cx : Bool} {vs : List Value} {i : Nat} {v : Value} (hx : evl l x = some (cx, .tuple vs.toArray)) (hc : c = true → cx = true) (hv : vs[i]? = some v) : Pev P n l C ⟨d, .extract x i, ty, pos, af, g⟩ c v :=
 .of_run fun h a w hs hw => by
  have hv' : vs.toArray[i]? = some v := by simpa using hv
  simp only [execOp, hs.eval hx (hc h), Instr.extract, hv', Sem.run_bind]; rfl
theorem run_len_slice {w : World} {t ty : TypeId} {q : Option Addr} {m cp : Nat} {e : TypeId × Nat} (hu : slElem P t = some e) : (Builtin.len_ #[t] ty #[.slice q m cp]).run P w = .ok (.int .i64 m) w := by
 unfold slElem at hu
 cases h : P.underlying t with
 | none => simp [h] at hu
 | some dd =>
  rw [h] at hu
  cases dd <;> simp at hu
  simp [Builtin.len_, run_underlying h, goInt]
theorem run_builtin_len {w : World} {a : Act} {x : Operand} {t : TypeId} {v : Value} (h : (Builtin.len_ #[t] ty #[a.eval x]).run P w = .ok v w) :
  (execOp a.eval ⟨d, .call { callee := .builtin .len, args := #[x], argTypes := #[t] }, ty, pos, af, g⟩).run P w = .ok (.value v) w := by
 simp [execOp, resolve, invoke, builtin, h]
theorem Pev.len_slice {t : TypeId} {x : Operand} {cx : Bool} {q : Option Addr} {m cp : Nat} {e : TypeId × Nat} (hx : evl l x = some (cx, .slice q m cp)) (hc : c = true → cx = true) (hu : slElem P t = some e) :
  Pev P n l C ⟨d, .call { callee := .builtin .len, args := #[x], argTypes := #[t] }, ty, pos, af, g⟩ c (.int .i64 m) :=
 .of_run fun h a w hs hw => run_builtin_len (by rw [hs.eval hx (hc h)]; exact run_len_slice hu)
def bt (s : ByteArray) (m : Nat) : Int := ((s.data.toList.getD m 0).toNat : Int)
end
end Go.Eng

/- The rules for memory: addresses, loads, calls, new blocks, stores. General: any program P. No condition. -/
namespace Go.Eng
open Go.RowKit
inductive NotOwned : List Item → Nat → Prop where
 | nil {k : Nat} : NotOwned [] k
 | blk {b : Nat} {t : TypeId} {c : List Value} {H : List Item} {k : Nat} (h : k ≠ b) (r : NotOwned H k) : NotOwned (blk b t c :: H) k
 | any {i : Item} {H : List Item} {k : Nat} (h : ¬ i.own k) (r : NotOwned H k) : NotOwned (i :: H) k
theorem NotOwned.not {H : List Item} {k : Nat} (h : NotOwned H k) : ¬ owned H k := by
 induction h with
 | nil => rintro ⟨i, hi, _⟩; cases hi
 | @blk b t c H k h r ih =>
  rintro ⟨i, hi, hk⟩
  cases hi with
  | head => exact h hk
  | tail _ hi => exact ih ⟨i, hi, hk⟩
 | @any i H k h r ih =>
  rintro ⟨j, hj, hk⟩
  cases hj with
  | head => exact h hk
  | tail _ hj => exact ih ⟨j, hj, hk⟩
inductive Take : Nat → List Value → List Value → Prop where
 | zero {l : List Value} : Take 0 l []
 | succ {k : Nat} {v : Value} {l r : List Value} (h : Take k l r) : Take (k + 1) (v :: l) (v :: r)
theorem Take.get {k : Nat} {l r : List Value} (h : Take k l r) : r.length = k ∧ ∀ (j : Nat) (v : Value), r[j]? = some v → l[j]? = some v := by
 induction h with
 | zero => exact ⟨rfl, fun j v hv => by simp at hv⟩
 | @succ k v l r _ ih =>
  refine ⟨by simp [ih.1], fun j u hu => ?_⟩
  cases j with
  | zero => simpa using hu
  | succ j => exact ih.2 j u (by simpa using hu)
inductive CellsL : Value → List Value → Prop where
 | one {v : Value} (h : v.cells = #[v]) : CellsL v [v]
 | agg {c : List Value} : CellsL (.agg c.toArray) c
theorem CellsL.eq {v : Value} {cs : List Value} (h : CellsL v cs) : v.cells = cs.toArray := by
 cases h with
 | one h => exact h
 | agg => rfl
inductive Over : List Value → List Value → List Value → Prop where
 | nil {l : List Value} : Over l [] l
 | cons {x v : Value} {l vs r : List Value} (h : Over l vs r) : Over (x :: l) (v :: vs) (v :: r)
inductive Put : List Value → Nat → List Value → List Value → Prop where
 | here {l vs r : List Value} (h : Over l vs r) : Put l 0 vs r
 | skip {x : Value} {l vs r : List Value} {o : Nat} (h : Put l o vs r) : Put (x :: l) (o + 1) vs (x :: r)
def putL : List Value → Nat → List Value → List Value
 | l, _, [] => l
 | l, o, v :: r => putL (l.set o v) (o + 1) r
theorem putL_cons : ∀ (vs : List Value) (x : Value) (l : List Value) (o : Nat), putL (x :: l) (o + 1) vs = x :: putL l o vs
 | [], _, _, _ => rfl
 | v :: vs, x, l, o => by rw [putL, List.set_cons_succ, putL_cons, putL]
theorem Over.eq {l vs r : List Value} (h : Over l vs r) : vs.length ≤ l.length ∧ putL l 0 vs = r := by
 induction h with
 | nil => exact ⟨by simp, rfl⟩
 | @cons x v l vs r h ih => exact ⟨by simp [ih.1], by rw [putL, List.set_cons_zero, putL_cons, ih.2]⟩
theorem Put.eq {l vs r : List Value} {o : Nat} (h : Put l o vs r) : o + vs.length ≤ l.length ∧ putL l o vs = r := by
 induction h with
 | here h => exact ⟨by have := h.eq.1; omega, h.eq.2⟩
 | @skip x l vs r o h ih => exact ⟨by have := ih.1; simp; omega, by rw [putL_cons, ih.2]⟩
inductive Swap : Nat → List Item → Item → Item → List Item → Prop where
 | z {i j : Item} {H : List Item} : Swap 0 (i :: H) i j (j :: H)
 | s {p : Nat} {k i j : Item} {H H' : List Item} (h : Swap p H i j H') : Swap (p + 1) (k :: H) i j (k :: H')
theorem Swap.eq {p : Nat} {H H' : List Item} {i j : Item} (h : Swap p H i j H') : H[p]? = some i ∧ H' = H.set p j := by
 induction h with
 | z => exact ⟨rfl, rfl⟩
 | @s p k i j H H' h ih => exact ⟨by simpa using ih.1, by rw [List.set_cons_succ, ← ih.2]⟩
def AllLe : List World → Nat → Prop
 | [], _ => True
 | s :: r, b => s.heap.size ≤ b ∧ AllLe r b
theorem AllLe.mk {H : List Item} {S : List World} {w : World} (h : Cls H S w) : AllLe S w.heap.size := by
 have := h.kp
 clear h
 induction S with
 | nil => trivial
 | cons s S ih => exact ⟨(this s (.head _)).size, ih fun x hx => this x (.tail _ hx)⟩
/-! what a tactic finds by itself, as an argument that is filled in -/
theorem NotOwned.au {H : List Item} {k : Nat} (h : NotOwned H k := by (focus ((try simp only [add_block]); (repeat (first | exact NotOwned.nil | exact hno _ (by omega) | refine NotOwned.nothing ?_ | refine NotOwned.nds (hlow _ (by omega)) ?_ | refine NotOwned.mapS (by omega) ?_ | apply NotOwned.bif | refine NotOwned.blk (by omega) ?_ | refine NotOwned.row (by omega) ?_ | refine NotOwned.grid (by assumption) (by omega) ?_ | refine NotOwned.pile (by omega) ?_ | refine NotOwned.pool (by omega) ?_ | refine NotOwned.mapI (by omega) ?_ | refine NotOwned.mapX (by omega) ?_ | refine NotOwned.itI (by omega) ?_)); first | done | fail))) : NotOwned H k := h
theorem mau {α : Type} {x : α} {l : List α} (h : x ∈ l := by (repeat (first | exact List.Mem.head _ | apply List.Mem.tail)); first | done | fail) : x ∈ l := h
theorem Take.au {k : Nat} {l r : List Value} (h : Take k l r := by (repeat (first | apply Take.zero | apply Take.succ)); first | done | fail) : Take k l r := h
theorem Put.au {l vs r : List Value} {o : Nat} (h : Put l o vs r := by (repeat (first | apply Over.nil | apply Over.cons | apply Put.here | apply Put.skip)); first | done | fail) : Put l o vs r := h
theorem Swap.au {p : Nat} {H H' : List Item} {i j : Item} (h : Swap p H i j H' := by (repeat (first | apply Swap.z | apply Swap.s)); first | done | fail) : Swap p H i j H' := h
section
variable {P : Program} {n : Nat} {l : Env} {H : List Item} {S : List World} {C : World → Prop} {c : Bool} {d : Option Nat} {ty : TypeId} {pos : String} {af : Array Edge} {g : Option (Nat × Bool)}
variable {t : TypeId} {x y : Operand} {cx cy : Bool}
/-! addresses -/
theorem run_fieldAt {i off : Nat} {a : Addr} {w : World} (hf : fldAt P t i = some off) : (Instr.fieldAt t (.pointer (some a)) i).run P w = .ok (.pointer (some (a.add off))) w := by
 unfold fldAt at hf
 cases hu : P.underlying t with
 | none => simp [hu] at hf
 | some dd =>
  rw [hu] at hf
  cases dd <;> simp only [reduceCtorEq] at hf
  rename_i fs
  cases hq : fs[i]? with
  | none => simp [hq] at hf
  | some f =>
   rw [hq] at hf
   simp only at hf
   cases hz : sizeN P f.type with
   | none => simp [hz] at hf
   | some k =>
    rw [hz] at hf
    cases k with
    | zero => simp at hf
    | succ k =>
     have hf := lit_eq hf
     subst hf
     simp [Instr.fieldAt, run_underlying hu, hq, Instr.sureAddr, fieldPlace, run_sizeN hz]
theorem Pev.fld {i off b o : Nat} (hx : evl l x = some (cx, .pointer (some ⟨b, o, none⟩))) (hc : c = true → cx = true) (hf : fldAt P t i = some off) : Pev P n l C ⟨d, .fieldAddr t x i, ty, pos, af, g⟩ c (.pointer (some ⟨b, o + off, none⟩)) :=
 .of_run fun h a w hs hw => by simp only [execOp, hs.eval hx (hc h), Sem.run_bind, run_fieldAt hf, Result.andThen_ok, add_mid]; rfl
theorem Pev.fldA {i off : Nat} {q : Addr} (hx : evl l x = some (cx, .pointer (some q))) (hc : c = true → cx = true) (hf : fldAt P t i = some off) : Pev P n l C ⟨d, .fieldAddr t x i, ty, pos, af, g⟩ c (.pointer (some (q.add off))) :=
 .of_run fun h a w hs hw => by simp only [execOp, hs.eval hx (hc h), Sem.run_bind, run_fieldAt hf, Result.andThen_ok]; rfl
theorem run_indexAt_slice {e : TypeId} {sz m len cp : Nat} {ki : IntKind} {a : Addr} {w : World} (hu : slElem P t = some (e, sz)) (hm : m < len) : (Instr.indexAt t (.slice (some a) len cp) (.int ki (m : Int))).run P w = .ok (.pointer (some (a.add (m * sz)))) w := by
 unfold slElem at hu
 cases h1 : P.underlying t with
 | none => simp [h1] at hu
 | some dd =>
  rw [h1] at hu
  cases dd <;> simp only [reduceCtorEq] at hu
  rename_i e'
  cases h2 : sizeN P e' with
  | none => simp [h2] at hu
  | some k =>
   rw [h2] at hu
   simp only [Option.some.injEq, Prod.mk.injEq] at hu
   obtain ⟨rfl, rfl⟩ := hu
   simp [Instr.indexAt, asIntOf, run_underlying h1, run_sizeN h2, hm]
theorem Pev.idx {e : TypeId} {sz m len cp : Nat} {ki : IntKind} {i : Int} {q : Addr} (hx : evl l x = some (cx, .slice (some q) len cp)) (hcx : c = true → cx = true) (hy : evl l y = some (cy, .int ki i)) (hcy : c = true → cy = true)
  (hu : slElem P t = some (e, sz)) (hi : i = (m : Int)) (hm : c = true → m < len) : Pev P n l C ⟨d, .indexAddr t x y, ty, pos, af, g⟩ c (.pointer (some (q.add (m * sz)))) :=
 .of_run fun h a w hs hw => by
  subst hi
  simp only [execOp, hs.eval hx (hcx h), hs.eval hy (hcy h), Sem.run_bind, run_indexAt_slice hu (hm h), Result.andThen_ok]; rfl
theorem Pev.idxB {e : TypeId} {sz m len cp b o : Nat} {ki : IntKind} {i : Int} (hx : evl l x = some (cx, .slice (some ⟨b, o, none⟩) len cp)) (hcx : c = true → cx = true) (hy : evl l y = some (cy, .int ki i)) (hcy : c = true → cy = true)
  (hu : slElem P t = some (e, sz)) (hi : c = true → 0 ≤ i ∧ i < len) (hm : i.toNat = m) : Pev P n l C ⟨d, .indexAddr t x y, ty, pos, af, g⟩ c (.pointer (some ⟨b, o + m * sz, none⟩)) :=
 .of_run fun h a w hs hw => by
  obtain ⟨h1, h2⟩ := hi h
  have e : i = (m : Int) := by omega
  subst e
  simp only [execOp, hs.eval hx (hcx h), hs.eval hy (hcy h), Sem.run_bind, run_indexAt_slice hu (show m < len by omega), Result.andThen_ok, add_mid]; rfl
/-! loads -/
theorem run_loadAt {w : World} {a : Addr} {v : Value} (h : (loadVar t a).run P w = .ok v w) : (Instr.loadAt t (.pointer (some a))).run P w = .ok v w := by simp [Instr.loadAt, Instr.sureAddr, h]
theorem Pev.load_of {q : Addr} {v : Value} (hx : evl l x = some (cx, .pointer (some q))) (hcx : c = true → cx = true) (h : c = true → ∀ w, C w → (loadVar t q).run P w = .ok v w) : Pev P n l C ⟨d, .load t x, ty, pos, af, g⟩ c v :=
 .of_run fun hc a w hs hw => by simp only [execOp, hs.eval hx (hcx hc), Sem.run_bind, run_loadAt (h hc w hw), Result.andThen_ok]; rfl
theorem Cls.item {w : World} (h : Cls H S w) {i : Item} (hp : i ∈ H) : i.holds w := h.holds i hp
theorem Pev.load_blk {b o : Nat} {t' : TypeId} {cs : List Value} {v : Value} (hx : evl l x = some (cx, .pointer (some ⟨b, o, none⟩))) (hcx : c = true → cx = true)
  (hp : blk b t' cs ∈ H) (hs : scalB P t = true) (hv : cs[o]? = some v) : Pev P n l (Cls H S) ⟨d, .load t x, ty, pos, af, g⟩ c v :=
 .load_of hx hcx fun _ w hw => run_loadVar_scal hs (by rw [blk_cell (hw.item hp)]; exact hv)
theorem Pev.load_blkA {b o k : Nat} {t' : TypeId} {cs vs : List Value} (hx : evl l x = some (cx, .pointer (some ⟨b, o, none⟩))) (hcx : c = true → cx = true)
  (hp : blk b t' cs ∈ H) (hs : aggN P t = some k) (hv : Take k (cs.drop o) vs) : Pev P n l (Cls H S) ⟨d, .load t x, ty, pos, af, g⟩ c (.agg vs.toArray) :=
 .load_of hx hcx fun _ w hw => run_loadVar_agg (by rw [hv.get.1]; exact hs) fun j v hj => by
  rw [add_mid, blk_cell (hw.item hp)]
  have := hv.get.2 j v hj
  rwa [List.getElem?_drop] at this
theorem Cls.cell {w s : World} (h : Cls H S w) (hq : s ∈ S) {a : Addr} (hlt : a.block < s.heap.size) (hno : NotOwned H a.block) : w.cell? a = s.cell? a :=
 World.cell?_of_block ((h.kp s hq).block a.block hlt hno.not)
theorem Pev.load_kept {s : World} {a : Addr} {v : Value} (hx : evl l x = some (cx, .pointer (some a))) (hcx : c = true → cx = true) (hq : s ∈ S) (hs : scalB P t = true)
  (hv : c = true → s.cell? a = some v) (hlt : c = true → a.block < s.heap.size) (hno : c = true → NotOwned H a.block) : Pev P n l (Cls H S) ⟨d, .load t x, ty, pos, af, g⟩ c v :=
 .load_of hx hcx fun h w hw => run_loadVar_scal hs (by rw [hw.cell hq (hlt h) (hno h)]; exact hv h)
theorem Pev.load_keptA {s : World} {a : Addr} {vs : List Value} {k : Nat} (hx : evl l x = some (cx, .pointer (some a))) (hcx : c = true → cx = true) (hq : s ∈ S) (hs : aggN P t = some k)
  (hv : c = true → CellsAt s a vs) (hk : vs.length = k) (hlt : c = true → a.block < s.heap.size) (hno : c = true → NotOwned H a.block) : Pev P n l (Cls H S) ⟨d, .load t x, ty, pos, af, g⟩ c (.agg vs.toArray) :=
 .load_of hx hcx fun h w hw => run_loadVar_agg (by rw [hk]; exact hs) fun j v hj => by
  rw [hw.cell hq (by rw [add_block]; exact hlt h) (by rw [add_block]; exact hno h)]; exact hv h j v hj
theorem CellsAt.at_ {s : World} {a : Addr} {vs : List Value} (h : CellsAt s a vs) {j : Nat} {v : Value} (hj : vs[j]? = some v) : s.cell? (a.add j) = some v := h j v hj
/-! calls -/
inductive Args (l : Env) (c : Bool) : List Operand → List Value → Prop where
 | nil : Args l c [] []
 | cons {x : Operand} {cx : Bool} {v : Value} {xs : List Operand} {vs : List Value} (hx : evl l x = some (cx, v)) (hc : c = true → cx = true) (r : Args l c xs vs) : Args l c (x :: xs) (v :: vs)
theorem Args.au {l : Env} {c : Bool} {xs : List Operand} {vs : List Value} (h : Args l c xs vs := by (repeat (first | exact Args.nil | (apply Args.cons rfl; (first | exact fun _ => rfl | exact fun h => h | (intro h; simp_all; done))))); first | done | fail) : Args l c xs vs := h
theorem Args.map {a : Act} (hs : Sees n l a) (hc : c = true) {xs : List Operand} {vs : List Value} (h : Args l c xs vs) : xs.map a.eval = vs := by
 induction h with
 | nil => rfl
 | cons hx hcx r ih => rw [List.map_cons, hs.eval hx (hcx hc), ih]
theorem run_callFunc_body {f : FuncId} (h : callable P f = true) (args : Array Value) (w : World) : (callFunc f args).run P w = .ok (.enter f args) w := by
 unfold callable at h
 cases hf : P.funcs[f]? with
 | none => simp [hf] at h
 | some fn =>
  rw [hf] at h
  simp only [Bool.and_eq_true, Bool.not_eq_true', Option.isSome_iff_ne_none] at h
  have hb : fn.body ≠ none := h.2
  have hnm : ¬ fn.name = "runtime.NumGoroutine" := by simpa using h.1
  simp [callFunc, hf, hnm, hb]
theorem run_call {f : FuncId} {args : Array Operand} {ats : Array TypeId} {a : Act} {w : World} (h : callable P f = true) :
  (execOp a.eval ⟨d, .call { callee := .value (.func f), args := args, argTypes := ats }, ty, pos, af, g⟩).run P w = .ok (.enter f (args.map a.eval)) w := by
 simp only [execOp, resolve, Act.eval, Deferred.ofValue, invoke, Sem.run_bind, Sem.run_pure, Result.andThen_ok]
 simpa using run_callFunc_body h (args.map a.eval) w
theorem run_callv {f : FuncId} {first cap : Array Value} {args : Array Operand} {ats : Array TypeId} {a : Act} {w : World} (h : callable P f = true) (hx : a.eval x = .func (.func f) first cap) :
  (execOp a.eval ⟨d, .call { callee := .value x, args := args, argTypes := ats }, ty, pos, af, g⟩).run P w = .ok (.enter f (first ++ args.map a.eval ++ cap)) w := by
 simp only [execOp, resolve, hx, Deferred.ofValue, invoke, Sem.run_bind, Sem.run_pure, Result.andThen_ok]
 exact run_callFunc_body h _ w
theorem Pev.call {f : FuncId} {args : List Operand} {vs : List Value} {ats : Array TypeId} {v : Value} (hf : callable P f = true) (ha : Args l c args vs)
  (h : c = true → ∀ w, C w → Calls P f vs.toArray w fun e w' => e = .returned v ∧ C w') :
  Pev P n l C ⟨d, .call { callee := .value (.func f), args := args.toArray, argTypes := ats }, ty, pos, af, g⟩ c v :=
 ⟨fun hc a w hs hw => by
  rw [run_call hf]
  refine ⟨rfl, ?_⟩
  rw [List.map_toArray, ha.map hs hc]
  exact h hc w hw⟩
theorem Pev.callv {f : FuncId} {first cap : List Value} {args : List Operand} {vs : List Value} {ats : Array TypeId} {v : Value} (hx : evl l x = some (cx, .func (.func f) first.toArray cap.toArray)) (hcx : c = true → cx = true)
  (hf : callable P f = true) (ha : Args l c args vs)
  (h : c = true → ∀ w, C w → Calls P f (first ++ vs ++ cap).toArray w fun e w' => e = .returned v ∧ C w') :
  Pev P n l C ⟨d, .call { callee := .value x, args := args.toArray, argTypes := ats }, ty, pos, af, g⟩ c v :=
 ⟨fun hc a w hs hw => by
  rw [run_callv hf (hs.eval hx (hcx hc))]
  refine ⟨rfl, ?_⟩
  rw [List.map_toArray, ha.map hs hc]
  simpa using h hc w hw⟩
variable {ops : Array Oper} {rest : List Oper} {Q : Exit → Act → World → Prop}
theorem OL.call {f : FuncId} {args : List Operand} {vs : List Value} {ats : Array TypeId} {dd : Nat} (hn : Nat.ble (dd + 1) n = true) (hf : callable P f = true) (ha : Args l true args vs)
  (R : Value → World → Prop) (h : ∀ w, C w → Calls P f vs.toArray w fun e w' => ∃ v, e = .returned v ∧ R v w')
  (k : ∀ v, OL P n ops Q rest ((dd, true, v) :: l) (R v)) : OL P n ops Q (⟨some dd, .call { callee := .value (.func f), args := args.toArray, argTypes := ats }, ty, pos, af, none⟩ :: rest) l C := by
 have hn' := Nat.le_of_ble_eq_true hn
 refine ⟨fun a w hs hc => ?_⟩
 refine wpList_plain rfl fun K hK => ?_
 show Oper.upon P _ a K Q ((execOp a.eval _).run P w)
 rw [run_call hf]
 show Calls P f _ w _
 rw [List.map_toArray, ha.map hs rfl]
 refine (h w hc).mono fun e w' ⟨v, he, hr⟩ => ?_
 subst he
 exact hK _ _ ((k v).run _ w' (hs.put hn' true v) hr)
theorem OL.callF {C' : World → Prop} {f : FuncId} {args : List Operand} {vs : List Value} {ats : Array TypeId} {dd : Nat} {v : Value} (hn : Nat.ble (dd + 1) n = true) (hf : callable P f = true) (ha : Args l true args vs)
  (h : ∀ w, C w → Calls P f vs.toArray w fun e w' => e = .returned v ∧ C' w')
  (k : OL P n ops Q rest ((dd, true, v) :: l) C') : OL P n ops Q (⟨some dd, .call { callee := .value (.func f), args := args.toArray, argTypes := ats }, ty, pos, af, none⟩ :: rest) l C :=
 OL.call hn hf ha (fun u w => u = v ∧ C' w) (fun w hw => (h w hw).mono fun e w' he => ⟨v, he.1, rfl, he.2⟩) (fun u => ⟨fun a w hs hc => by obtain ⟨rfl, hc⟩ := hc; exact k.run a w hs hc⟩)
theorem OL.callE {α : Type} (V : α → Value) (Φ : α → Prop) (C' : α → World → Prop) {f : FuncId} {args : List Operand} {vs : List Value} {ats : Array TypeId} {dd : Nat} (hn : Nat.ble (dd + 1) n = true) (hf : callable P f = true) (ha : Args l true args vs)
  (h : ∀ w, C w → Calls P f vs.toArray w fun e w' => ∃ x, e = .returned (V x) ∧ Φ x ∧ C' x w')
  (k : ∀ x, Φ x → OL P n ops Q rest ((dd, true, V x) :: l) (C' x)) : OL P n ops Q (⟨some dd, .call { callee := .value (.func f), args := args.toArray, argTypes := ats }, ty, pos, af, none⟩ :: rest) l C :=
 OL.call hn hf ha (fun u w => ∃ x, u = V x ∧ Φ x ∧ C' x w) (fun w hw => (h w hw).mono fun e w' ⟨x, he, hx, hc⟩ => ⟨V x, he, x, rfl, hx, hc⟩)
  (fun u => ⟨fun a w hs hc => by obtain ⟨x, rfl, hx, hc⟩ := hc; exact (k x hx).run a w hs hc⟩)
/-! new blocks -/
theorem OL.new {o : Oper} {dd : Nat} {C' : Nat → World → Prop} (hg : o.guard = none) (hd : o.dst = some dd) (hn : Nat.ble (dd + 1) n = true) (V : Nat → Value)
  (hv : ∀ a w, Sees n l a → C w → ∃ b w', (execOp a.eval o).run P w = .ok (.value (V b)) w' ∧ C' b w')
  (k : ∀ b, OL P n ops Q rest ((dd, true, V b) :: l) (C' b)) : OL P n ops Q (o :: rest) l C := by
 have hn' := Nat.le_of_ble_eq_true hn
 refine ⟨fun a w hs hc => ?_⟩
 refine wpList_plain hg fun K hK => ?_
 obtain ⟨b, w', hr, hc'⟩ := hv a w hs hc
 show Oper.upon P o a K Q ((execOp a.eval o).run P w)
 rw [hr]
 show K (a.put o.dst (V b)) w'
 rw [hd]
 exact hK _ _ ((k b).run _ w' (hs.put hn' true _) hc')
theorem OL.box {e : TypeId} {dd : Nat} {v : Value} {cs : List Value} (hn : Nat.ble (dd + 1) n = true) (hx : evl l x = some (true, v)) (hv : CellsL v cs)
  (k : ∀ b, AllLe S b → OL P n ops Q rest ((dd, true, .pointer (some ⟨b, 0, none⟩)) :: l) (Cls (blk b e cs :: H) S)) :
  OL P n ops Q (⟨some dd, .box e x, ty, pos, af, none⟩ :: rest) l (Cls H S) :=
 OL.new (C' := fun b w => AllLe S b ∧ Cls (blk b e cs :: H) S w) rfl rfl hn (fun b => .pointer (some ⟨b, 0, none⟩))
  (fun a w hs hc => ⟨w.heap.size, w.alloc (.cells v.cells e), by simp only [execOp, hs.eval hx rfl]; rfl, AllLe.mk hc, by rw [hv.eq]; exact hc.alloc e cs⟩)
  (fun b => ⟨fun a w hs hc => (k b hc.1).run a w hs hc.2⟩)
def zeroV (P : Program) (t : TypeId) : Option Value := match P.info? t with | some i => i.zero | none => none
theorem run_zeroV {v : Value} {w : World} (h : zeroV P t = some v) : (zeroValue t).run P w = .ok v w := by
 unfold zeroV at h
 cases hi : P.info? t with
 | none => simp [hi] at h
 | some i =>
  rw [hi] at h
  simp only at h
  simp [zeroValue, typeInfo, hi, h]
theorem OL.alloc {e : TypeId} {dd : Nat} {v : Value} {cs : List Value} (hn : Nat.ble (dd + 1) n = true) (hz : zeroV P e = some v) (hv : CellsL v cs)
  (k : ∀ b, AllLe S b → OL P n ops Q rest ((dd, true, .pointer (some ⟨b, 0, none⟩)) :: l) (Cls (blk b e cs :: H) S)) :
  OL P n ops Q (⟨some dd, .alloc e, ty, pos, af, none⟩ :: rest) l (Cls H S) :=
 OL.new (C' := fun b w => AllLe S b ∧ Cls (blk b e cs :: H) S w) rfl rfl hn (fun b => .pointer (some ⟨b, 0, none⟩))
  (fun a w hs hc => ⟨w.heap.size, w.alloc (.cells v.cells e), by
   simp only [execOp, Instr.alloc, Sem.run_bind, run_zeroV hz, Result.andThen_ok]; rfl, AllLe.mk hc, by rw [hv.eq]; exact hc.alloc e cs⟩)
  (fun b => ⟨fun a w hs hc => (k b hc.1).run a w hs hc.2⟩)
theorem Pev.idxArr {m len sz b o : Nat} {ki : IntKind} {i : Int} (hx : evl l x = some (cx, .pointer (some ⟨b, o, none⟩))) (hcx : c = true → cx = true) (hy : evl l y = some (cy, .int ki i)) (hcy : c = true → cy = true)
  (hu : arrElem P t = some (len, sz)) (hi : c = true → 0 ≤ i ∧ i < len) (hm : i.toNat = m) : Pev P n l C ⟨d, .indexAddr t x y, ty, pos, af, g⟩ c (.pointer (some ⟨b, o + m * sz, none⟩)) :=
 .of_run fun h a w hs hw => by
  obtain ⟨h1, h2⟩ := hi h
  unfold arrElem at hu
  cases hq : P.underlying t with
  | none => simp [hq] at hu
  | some d1 =>
   rw [hq] at hu
   cases d1 <;> simp only [reduceCtorEq] at hu
   rename_i len' e'
   cases h3 : sizeN P e' with
   | none => simp [h3] at hu
   | some k' =>
    rw [h3] at hu
    simp only [Option.some.injEq, Prod.mk.injEq] at hu
    obtain ⟨rfl, rfl⟩ := hu
    subst hm
    simp only [execOp, hs.eval hx (hcx h), hs.eval hy (hcy h), Instr.indexAt, asIntOf, Instr.sureAddr, Sem.run_bind, Sem.run_pure, Result.andThen_ok, run_underlying hq, run_sizeN h3]
    rw [if_pos ⟨h1, h2⟩]
    simp only [Sem.run_bind, run_sizeN h3, Result.andThen_ok, Sem.run_pure, add_mid]
/-! stores into a block that is known whole -/
def oneL : List Value → Bool
 | [] => true
 | v :: r => v.oneCell' && oneL r
theorem putL_length' : ∀ (vs l : List Value) (o : Nat), (putL l o vs).length = l.length
 | [], l, o => rfl
 | v :: r, l, o => by rw [putL, putL_length']; simp
theorem run_storeCells_blk {b o : Nat} {t : TypeId} : ∀ (vs : List Value) (i : Nat) (cs : List Value) (w : World), w.heap[b]? = some (.cells cs.toArray t (0, 0)) → o + i + vs.length ≤ cs.length → oneL vs = true →
  ∃ w', (storeCells ⟨b, o, none⟩ vs i).run P w = .ok () w' ∧ w'.heap[b]? = some (.cells (putL cs (o + i) vs).toArray t (0, 0)) ∧ Keep (fun k => k = b) w w'
 | [], i, cs, w, hg, _, _ => ⟨w, rfl, hg, .refl _ _⟩
 | v :: r, i, cs, w, hg, hl, h1 => by
  simp only [oneL, Bool.and_eq_true] at h1
  simp only [List.length_cons] at hl
  have hcell : w.cell? ⟨b, o + i, none⟩ = some (cs[o + i]'(by omega)) := by simp [World.cell?, hg]
  have hfro : w.frozen? ⟨b, o + i, none⟩ = false := by simp [World.frozen?, hg]
  have hst : (store ((⟨b, o, none⟩ : Addr).add i) v).run P w = .ok () (w.setCell ⟨b, o + i, none⟩ v) := by
   rw [add_mid, run_store P w _ v _ h1.1, hcell]
   simp [hfro]
  have hg' : (w.setCell ⟨b, o + i, none⟩ v).heap[b]? = some (.cells (cs.set (o + i) v).toArray t (0, 0)) := by
   simp [World.setCell, Array.getElem?_modify, hg]
  obtain ⟨w', hr, hh, hk⟩ := run_storeCells_blk (o := o) r (i + 1) (cs.set (o + i) v) (w.setCell ⟨b, o + i, none⟩ v) hg' (by simp; omega) h1.2
  refine ⟨w', ?_, hh, ?_⟩
  ·simp only [storeCells, Sem.run_bind, hst, Result.andThen_ok, hr]
  ·exact Keep.trans (b := w.setCell ⟨b, o + i, none⟩ v) ⟨rfl, rfl, rfl, by simp [World.setCell], fun k _ hne => Below.heap_setCell _ _ _ _ (fun e => hne e)⟩ hk
theorem run_storeAt_blk {b o : Nat} {t' : TypeId} {v : Value} {k : Nat} {cs vs : List Value} {w : World} (hw : w.heap[b]? = some (.cells cs.toArray t' (0, 0))) (hs : sizeN P t = some k) (hv : v.cells = vs.toArray) (hk : vs.length = k)
  (hl : o + vs.length ≤ cs.length) (h1 : oneL vs = true) :
  ∃ w', (Instr.storeAt t (.pointer (some ⟨b, o, none⟩)) v).run P w = .ok () w' ∧ w'.heap[b]? = some (.cells (putL cs o vs).toArray t' (0, 0)) ∧ Keep (fun k => k = b) w w' := by
 obtain ⟨w', hr, hh, hkp⟩ := run_storeCells_blk (P := P) (o := o) vs 0 cs w hw (by omega) h1
 refine ⟨w', ?_, hh, hkp⟩
 have hsz : v.cells.size = k := by rw [hv]; simpa using hk
 simp only [Instr.storeAt, Instr.sureAddr, storeVar, Sem.run_bind, Sem.run_pure, Result.andThen_ok, run_sizeN hs, hsz, ne_eq, not_true, if_false]
 rw [hv]
 exact hr
theorem OL.storeL {p : Nat} {b o k : Nat} {t' : TypeId} {cs cs' vs : List Value} {v : Value} {H' : List Item} (hx : evl l x = some (true, .pointer (some ⟨b, o, none⟩))) (hy : evl l y = some (true, v)) (hv : v.cells = vs.toArray)
  (hs : sizeN P t = some k) (hk : vs.length = k) (h1 : oneL vs = true) (hcs : o + vs.length ≤ cs.length ∧ putL cs o vs = cs')
  (hH : Swap p H (blk b t' cs) (blk b t' cs') H') (kk : OL P n ops Q rest l (Cls H' S)) : OL P n ops Q (⟨none, .store t x y, ty, pos, af, none⟩ :: rest) l (Cls H S) := by
 obtain ⟨hl, rfl⟩ := hcs
 obtain ⟨hp, rfl⟩ := hH.eq
 refine OL.store_ (C' := Cls (H.set p (blk b t' (putL cs o vs))) S) rfl rfl (fun a w hs' hc => ?_) kk
 obtain ⟨w', hr, hh, hkp⟩ := run_storeAt_blk (P := P) (hc.item (List.mem_of_getElem? hp)) hs hv hk hl h1
 refine ⟨w', ?_, hc.turn p hp (j := blk b t' (putL cs o vs)) hkp hh (fun q hq => ?_) (fun q hq => hq)⟩
 ·simp only [execOp, hs'.eval hx rfl, hs'.eval hy rfl, Sem.run_bind, hr, Result.andThen_ok]; rfl
 ·have hq' : q = b := hq
  subst hq'
  exact ⟨.inl rfl, Nat.lt_of_lt_of_le (hc.lt _ (List.mem_of_getElem? hp) q rfl) hkp.size⟩
theorem OL.storeB {p : Nat} {b o k : Nat} {t' : TypeId} {cs cs' vs : List Value} {v : Value} {H' : List Item} (hx : evl l x = some (true, .pointer (some ⟨b, o, none⟩))) (hy : evl l y = some (true, v)) (hv : CellsL v vs)
  (hs : sizeN P t = some k) (hk : vs.length = k) (h1 : oneL vs = true) (hH : Swap p H (blk b t' cs) (blk b t' cs') H') (hcs : Put cs o vs cs')
  (kk : OL P n ops Q rest l (Cls H' S)) : OL P n ops Q (⟨none, .store t x y, ty, pos, af, none⟩ :: rest) l (Cls H S) :=
 OL.storeL hx hy hv.eq hs hk h1 hcs.eq hH kk
theorem OL.storeI {p : Nat} {b o : Nat} {t' : TypeId} {cs : List Value} {v : Value} {H' : List Item} (hx : evl l x = some (true, .pointer (some ⟨b, o, none⟩))) (hy : evl l y = some (true, v)) (hv : v.cells = #[v])
  (hs : sizeN P t = some 1) (h1 : oneL [v] = true) (hH : Swap p H (blk b t' cs) (blk b t' (cs.set o v)) H') (hl : o < cs.length)
  (kk : OL P n ops Q rest l (Cls H' S)) : OL P n ops Q (⟨none, .store t x y, ty, pos, af, none⟩ :: rest) l (Cls H S) :=
 OL.storeL (vs := [v]) hx hy hv hs rfl h1 ⟨by simp; omega, rfl⟩ hH kk
/-! literals -/
theorem fold_put (off : Nat) : ∀ (c : List Value) (j : Nat) (cells : Array Value),
  ((c.zipIdx j).foldl (fun (cs : Array Value) (x : Value × Nat) => cs.setIfInBounds (off + x.2) x.1) cells) = (putL cells.toList (off + j) c).toArray
 | [], _, _ => rfl
 | v :: c, j, cells => by
  rw [List.zipIdx_cons, List.foldl_cons, fold_put off c (j + 1), putL]
  congr 1
  simp [Nat.add_assoc]
theorem fold_put_array (off : Nat) (c : List Value) (cells : Array Value) :
  (c.toArray.zipIdx.foldl (fun (cs : Array Value) (x : Value × Nat) => cs.setIfInBounds (off + x.2) x.1) cells) = (putL cells.toList off c).toArray := by
 rw [← Array.foldl_toList]
 have := fold_put off c 0 cells
 simpa using this
inductive Fill (l : Env) (place : Nat → Option (Nat × Nat)) : List Value → List (Nat × Operand) → List Value → Prop where
 | nil {cs : List Value} : Fill l place cs [] cs
 | cons {cs cs' cs'' vs : List Value} {i off sz : Nat} {x : Operand} {v : Value} {ps : List (Nat × Operand)} (hx : evl l x = some (true, v)) (hv : CellsL v vs) (hp : place i = some (off, sz)) (hs : vs.length = sz)
   (hput : Put cs off vs cs') (r : Fill l place cs' ps cs'') : Fill l place cs ((i, x) :: ps) cs''
theorem Fill.au {l : Env} {place : Nat → Option (Nat × Nat)} {cs cs' : List Value} {ps : List (Nat × Operand)} (h : Fill l place cs ps cs' := by (repeat (first | exact Fill.nil | (apply Fill.cons rfl; (first | exact CellsL.one rfl | exact CellsL.agg); rfl; rfl; exact Put.au))); first | done | fail) : Fill l place cs ps cs' := h
theorem Fill.run {a : Act} (hs : Sees n l a) {place : Nat → Option (Nat × Nat)} {cs cs' : List Value} {ps : List (Nat × Operand)} (h : Fill l place cs ps cs') :
  Instr.fill place cs.toArray (ps.map fun p => (p.1, a.eval p.2)) = some cs'.toArray := by
 induction h with
 | nil => rfl
 | @cons cs cs' cs'' vs i off sz x v ps hx hv hp hsz hput r ih =>
  simp only [List.map_cons, Instr.fill, hp, hs.eval hx rfl, hv.eq]
  rw [if_neg (by
   have := hput.eq.1
   simp [hsz]; omega)]
  rw [fold_put_array]
  simp only [hput.eq.2]
  exact ih
def structPlaces (P : Program) (t : TypeId) (i : Nat) : Option (Nat × Nat) := match P.underlying t with
 | some (.struct fs) => match fs[i]? with
  | some f => match sizeN P f.type with
   | some k => match lit f.offset with
    | some o => some (o, k)
    | none => none
   | none => none
  | none => none
 | _ => none
theorem mapM_places {w : World} : ∀ (fs : List Field), (∀ f ∈ fs, (sizeN P f.type).isSome = true) →
  ((fs.mapM fun f => do pure (f.offset, ← sizeOf f.type) : Sem (List (Nat × Nat))).run P w) = .ok (fs.map fun f => (f.offset, (sizeN P f.type).getD 0)) w
 | [], _ => rfl
 | f :: fs, h => by
  have h0 := h f (.head _)
  cases hz : sizeN P f.type with
  | none => simp [hz] at h0
  | some k =>
   have ih := mapM_places (w := w) fs (fun g hg => h g (.tail _ hg))
   simp only [List.mapM_cons, Sem.run_bind, run_sizeN hz, Result.andThen_ok, Sem.run_pure, ih, List.map_cons, hz, Option.getD_some]
def sizedB (P : Program) (t : TypeId) : Bool := match P.underlying t with | some (.struct fs) => fs.toList.all fun f => (sizeN P f.type).isSome && (lit f.offset).isSome | _ => false
theorem Pev.build {parts : List (Nat × Operand)} {z : Value} {cs cs' : List Value} (hz : zeroV P t = some z) (hcs : CellsL z cs) (hb : sizedB P t = true) (hf : Fill l (structPlaces P t) cs parts cs') (hc : c = true) :
  Pev P n l C ⟨d, .build t parts.toArray, ty, pos, af, g⟩ c (.agg cs'.toArray) :=
 .of_run fun h a w hs hw => by
  unfold sizedB at hb
  cases hu : P.underlying t with
  | none => simp [hu] at hb
  | some dd =>
   rw [hu] at hb
   cases dd <;> simp only [Bool.false_eq_true] at hb
   rename_i fs
   have hb2 : ∀ f ∈ fs.toList, (sizeN P f.type).isSome = true ∧ (lit f.offset).isSome = true := fun f hf => by simpa using List.all_eq_true.1 hb f hf
   have hb' : ∀ f ∈ fs.toList, (sizeN P f.type).isSome = true := fun f hf => (hb2 f hf).1
   have hm := mapM_places (P := P) (w := w) fs.toList hb'
   have hrun := hf.run hs
   have hpl : (fun i => (fs.map fun f => (f.offset, (sizeN P f.type).getD 0))[i]?) = structPlaces P t := by
    funext i
    unfold structPlaces
    rw [hu]
    simp only [Array.getElem?_map]
    cases hi : fs[i]? with
    | none => rfl
    | some f =>
     have h1 := hb' f (by simpa using Array.mem_of_getElem? hi)
     have h2 := (hb2 f (by simpa using Array.mem_of_getElem? hi)).2
     cases hz : sizeN P f.type with
     | none => simp [hz] at h1
     | some k =>
      cases ho : lit f.offset with
      | none => simp [ho] at h2
      | some o =>
       simp only [Option.map_some, hz, ho, Option.getD_some]
       rw [lit_eq ho]
   have hm2 : (fs.mapM fun f => do pure (f.offset, ← sizeOf f.type) : Sem (Array (Nat × Nat))).run P w = .ok (fs.map fun f => (f.offset, (sizeN P f.type).getD 0)) w := by
    rw [Array.mapM_eq_mapM_toList, Sem.run_map, hm]
    simp only [Result.andThen_ok]
    congr 1
    rw [← Array.toList_map]
   simp only [execOp, Instr.build, Sem.run_bind, run_zeroV hz, Result.andThen_ok, run_underlying hu, hm2, hcs.eq]
   have hparts : (parts.toArray.map fun p => (p.1, a.eval p.2)).toList = parts.map fun p => (p.1, a.eval p.2) := by simp
   rw [hparts, hpl, hrun]
   rfl
inductive App : List Value → List Value → List Value → Prop where
 | nil {l : List Value} : App [] l l
 | cons {x : Value} {c l r : List Value} (h : App c l r) : App (x :: c) l (x :: r)
theorem App.au {c l r : List Value} (h : App c l r := by (repeat (first | apply App.nil | apply App.cons)); first | done | fail) : App c l r := h
theorem App.eq {c l r : List Value} (h : App c l r) : c ++ l = r := by
 induction h with
 | nil => rfl
 | cons _ ih => rw [List.cons_append, ih]
inductive Elems (l : Env) (sz : Nat) : Nat → List (Nat × Operand) → List Value → Prop where
 | nil {i : Nat} : Elems l sz i [] []
 | cons {i : Nat} {x : Operand} {v : Value} {vs cs cs' : List Value} {ps : List (Nat × Operand)} (hx : evl l x = some (true, v)) (hv : CellsL v vs) (hs : vs.length = sz) (r : Elems l sz (i + 1) ps cs) (ha : App vs cs cs') :
   Elems l sz i ((i, x) :: ps) cs'
theorem Elems.au {l : Env} {sz i : Nat} {ps : List (Nat × Operand)} {cs : List Value} (h : Elems l sz i ps cs := by (repeat (first | exact Elems.nil | (apply Elems.cons rfl; (first | exact CellsL.one rfl | exact CellsL.agg); rfl) | exact App.au)); first | done | fail) : Elems l sz i ps cs := h
theorem putL_eq : ∀ (vs l : List Value) (o : Nat), o + vs.length ≤ l.length → putL l o vs = l.take o ++ vs ++ l.drop (o + vs.length)
 | [], l, o, _ => by simp [putL]
 | v :: vs, l, o, h => by
  simp only [List.length_cons] at h
  rw [putL, putL_eq vs _ _ (by simp; omega)]
  have ho : o < l.length := by omega
  rw [List.take_set, List.drop_set]
  simp only [List.length_cons]
  rw [show (if o < o + 1 + vs.length then List.drop (o + 1 + vs.length) l else (List.drop (o + 1 + vs.length) l).set (o - (o + 1 + vs.length)) v) = List.drop (o + (vs.length + 1)) l from by rw [if_pos (by omega)]; congr 1; omega]
  have : (List.take (o + 1) l).set o v = List.take o l ++ [v] := by
   rw [List.take_succ_eq_append_getElem ho, List.set_append_right _ _ (by simp; omega)]
   simp [Nat.min_eq_left (Nat.le_of_lt ho)]
  rw [this]
  simp
theorem Elems.run {a : Act} (hs : Sees n l a) {sz : Nat} {i : Nat} {ps : List (Nat × Operand)} {cs : List Value} (h : Elems l sz i ps cs) :
  ∀ (cells : Array Value), cells.size = (i + ps.length) * sz →
  Instr.fill (fun j => some (j * sz, sz)) cells (ps.map fun p => (p.1, a.eval p.2)) = some (cells.toList.take (i * sz) ++ cs).toArray := by
 induction h with
 | @nil i =>
  intro cells hc
  simp only [List.length_nil, Nat.add_zero] at hc
  rw [← hc, List.take_of_length_le (by simp)]
  simp [Instr.fill]
 | @cons i x v vs cs cs' ps hx hv hsz r ha ih =>
  intro cells hc
  obtain rfl := ha.eq
  simp only [List.length_cons] at hc
  have hle : i * sz + sz ≤ cells.size := by
   rw [hc, ← Nat.succ_mul]
   exact Nat.mul_le_mul_right _ (by omega)
  simp only [List.map_cons, Instr.fill, hs.eval hx rfl, hv.eq]
  rw [if_neg (by simp [hsz]; omega), fold_put_array]
  rw [ih _ (by rw [List.size_toArray, putL_length', Array.length_toList, hc]; congr 1; omega)]
  congr 2
  rw [putL_eq _ _ _ (by simp [hsz]; omega)]
  simp only [hsz]
  have e1 : (cells.toList.take (i * sz)).length = i * sz := by simp; omega
  rw [show (i + 1) * sz = i * sz + sz from by rw [Nat.succ_mul]]
  rw [List.take_append_of_le_length (by simp [hsz]; omega), List.take_append]
  simp [hsz, Nat.min_eq_left (show i * sz ≤ cells.size by omega), List.take_of_length_le]
theorem range_map_size {m : Nat} {f : Nat → Value} : ((Array.range m).map f).size = m := by simp
theorem OL.buildSlice {e : TypeId} {sz len dd : Nat} {parts : List (Nat × Operand)} {cs : List Value} (hn : Nat.ble (dd + 1) n = true) (hu : slElem P t = some (e, sz)) (hz : (zeroV P e).isSome = true)
  (hp : Elems l sz 0 parts cs) (hlen : parts.length = len) (hl : Nat.ble (len * sz) 16777216 = true)
  (k : ∀ b, AllLe S b → OL P n ops Q rest ((dd, true, .slice (some ⟨b, 0, none⟩) len len) :: l) (Cls (blk b e cs :: H) S)) :
  OL P n ops Q (⟨some dd, .buildSlice t len parts.toArray, ty, pos, af, none⟩ :: rest) l (Cls H S) :=
 OL.new (C' := fun b w => AllLe S b ∧ Cls (blk b e cs :: H) S w) rfl rfl hn (fun b => .slice (some ⟨b, 0, none⟩) len len)
  (fun a w hs hc => ⟨w.heap.size, w.alloc (.cells cs.toArray e), by
   unfold slElem at hu
   cases h1 : P.underlying t with
   | none => simp [h1] at hu
   | some d1 =>
    rw [h1] at hu
    cases d1 <;> simp only [reduceCtorEq] at hu
    rename_i e'
    cases h2 : sizeN P e' with
    | none => simp [h2] at hu
    | some k' =>
     rw [h2] at hu
     simp only [Option.some.injEq, Prod.mk.injEq] at hu
     obtain ⟨rfl, rfl⟩ := hu
     cases hzz : zeroV P e' with
     | none => simp [hzz] at hz
     | some z =>
      have hle := Nat.le_of_ble_eq_true hl
      have hparts : (parts.toArray.map fun p => (p.1, a.eval p.2)).toList = parts.map fun p => (p.1, a.eval p.2) := by simp
      have hfill := fun (cells : Array Value) (hc : cells.size = len * k') => hp.run hs cells (by rw [hlen, Nat.zero_add]; exact hc)
      simp only [execOp, Instr.buildSlice, Sem.run_bind, run_underlying h1, run_sizeN h2, Result.andThen_ok]
      rw [if_neg (by omega)]
      by_cases h0 : len * k' = 0
      ·simp only [h0, if_true, Sem.run_pure, Sem.run_bind, Result.andThen_ok, hparts]
       rw [hfill _ (by rw [range_map_size, h0])]
       simp [newRow]
      ·simp only [h0, if_false, Sem.run_bind, run_zeroV hzz, Sem.run_pure, Result.andThen_ok, hparts]
       rw [hfill _ range_map_size]
       simp [newRow], AllLe.mk hc, hc.alloc e cs⟩)
  (fun b => ⟨fun a w hs hc => (k b hc.1).run a w hs hc.2⟩)
/-! short forms -/
theorem yes {p : Prop} : p → true = true := fun _ => rfl
section
variable {dd : Nat} {v u r : Value} {K : Act → Prop}
theorem omv (hn : Nat.ble (dd + 1) n = true) (hx : evl l x = some (true, v)) (k : OL P n ops Q rest ((dd, true, v) :: l) C) : OL P n ops Q (⟨some dd, .move x, ty, pos, af, none⟩ :: rest) l C := OL.op Guard.none rfl hn (Pev.move hx yes) k
theorem oas (hn : Nat.ble (dd + 1) n = true) (hx : evl l x = some (true, v)) (k : OL P n ops Q rest ((dd, true, v) :: l) C) : OL P n ops Q (⟨some dd, .assign x, ty, pos, af, none⟩ :: rest) l C := OL.op Guard.none rfl hn (Pev.assign hx yes) k
theorem obn {op : BinOp} {yt : TypeId} (hn : Nat.ble (dd + 1) n = true) (hx : evl l x = some (true, u)) (hy : evl l y = some (true, v)) (hb : Bin P op t u v r) (k : OL P n ops Q rest ((dd, true, r) :: l) C) : OL P n ops Q (⟨some dd, .binOp op t x y yt, ty, pos, af, none⟩ :: rest) l C := OL.op Guard.none rfl hn (Pev.bin hx (fun _ => rfl) hy (fun _ => rfl) (fun _ => hb)) k
theorem ofa {i off b o : Nat} (hn : Nat.ble (dd + 1) n = true) (hx : evl l x = some (true, .pointer (some ⟨b, o, none⟩))) (hf : fldAt P t i = some off) (k : OL P n ops Q rest ((dd, true, .pointer (some ⟨b, o + off, none⟩)) :: l) C) : OL P n ops Q (⟨some dd, .fieldAddr t x i, ty, pos, af, none⟩ :: rest) l C := OL.op Guard.none rfl hn (Pev.fld hx (fun _ => rfl) hf) k
theorem old {b o : Nat} {t' : TypeId} {cs : List Value} (hn : Nat.ble (dd + 1) n = true) (hx : evl l x = some (true, .pointer (some ⟨b, o, none⟩))) (hp : blk b t' cs ∈ H) (hs : scalB P t = true) (hv : cs[o]? = some v) (k : OL P n ops Q rest ((dd, true, v) :: l) (Cls H S)) : OL P n ops Q (⟨some dd, .load t x, ty, pos, af, none⟩ :: rest) l (Cls H S) := OL.op Guard.none rfl hn (Pev.load_blk hx (fun _ => rfl) hp hs hv) k
theorem oex {vs : List Value} {i : Nat} (hn : Nat.ble (dd + 1) n = true) (hx : evl l x = some (true, .tuple vs.toArray)) (hv : vs[i]? = some v) (k : OL P n ops Q rest ((dd, true, v) :: l) C) : OL P n ops Q (⟨some dd, .extract x i, ty, pos, af, none⟩ :: rest) l C := OL.op Guard.none rfl hn (Pev.extract hx (fun _ => rfl) hv) k
theorem qmv (hn : Nat.ble (dd + 1) n = true) (hx : evl l x = some (true, v)) (k : QL P n ops C K rest ((dd, true, v) :: l)) : QL P n ops C K (⟨some dd, .move x, ty, pos, af, none⟩ :: rest) l := QL.op Guard.none rfl hn (Pev.move hx yes) k
theorem qas (hn : Nat.ble (dd + 1) n = true) (hx : evl l x = some (true, v)) (k : QL P n ops C K rest ((dd, true, v) :: l)) : QL P n ops C K (⟨some dd, .assign x, ty, pos, af, none⟩ :: rest) l := QL.op Guard.none rfl hn (Pev.assign hx yes) k
theorem qbn {op : BinOp} {yt : TypeId} (hn : Nat.ble (dd + 1) n = true) (hx : evl l x = some (true, u)) (hy : evl l y = some (true, v)) (hb : Bin P op t u v r) (k : QL P n ops C K rest ((dd, true, r) :: l)) : QL P n ops C K (⟨some dd, .binOp op t x y yt, ty, pos, af, none⟩ :: rest) l := QL.op Guard.none rfl hn (Pev.bin hx (fun _ => rfl) hy (fun _ => rfl) (fun _ => hb)) k
theorem qfa {i off b o : Nat} (hn : Nat.ble (dd + 1) n = true) (hx : evl l x = some (true, .pointer (some ⟨b, o, none⟩))) (hf : fldAt P t i = some off) (k : QL P n ops C K rest ((dd, true, .pointer (some ⟨b, o + off, none⟩)) :: l)) : QL P n ops C K (⟨some dd, .fieldAddr t x i, ty, pos, af, none⟩ :: rest) l := QL.op Guard.none rfl hn (Pev.fld hx (fun _ => rfl) hf) k
theorem qld {b o : Nat} {t' : TypeId} {cs : List Value} (hn : Nat.ble (dd + 1) n = true) (hx : evl l x = some (true, .pointer (some ⟨b, o, none⟩))) (hp : blk b t' cs ∈ H) (hs : scalB P t = true) (hv : cs[o]? = some v) (k : QL P n ops (Cls H S) K rest ((dd, true, v) :: l)) : QL P n ops (Cls H S) K (⟨some dd, .load t x, ty, pos, af, none⟩ :: rest) l := QL.op Guard.none rfl hn (Pev.load_blk hx (fun _ => rfl) hp hs hv) k
end
end
end Go.Eng

/- Types as trees: how a value of type api.Type lies in memory. General. No condition. -/
namespace Go.Eng
open Go.RowKit
def I64 (x : Int) : Prop := -9223372036854775808 ≤ x ∧ x ≤ 9223372036854775807
inductive Ty where
 | mk (kind : Int) (name : ByteArray) (var : Int) (args : List Ty)
def Ty.kind : Ty → Int | .mk k _ _ _ => k
def Ty.name : Ty → ByteArray | .mk _ n _ _ => n
def Ty.var : Ty → Int | .mk _ _ v _ => v
def Ty.args : Ty → List Ty | .mk _ _ _ a => a
mutual
def Ty.sz : Ty → Nat
 | .mk _ _ _ «as» => Ty.szs «as» + 1
def Ty.szs : List Ty → Nat
 | [] => 0
 | t :: r => Ty.sz t + Ty.szs r
end
mutual
/-- the four cells of a type; what they lead to lies below block B -/
def TyC (s : World) (B : Nat) : Ty → List Value → Prop
 | .mk k nm v «as», cs => ∃ (q : Option Addr) (cap : Nat), cs = [.int .i64 k, .string nm, .int .i64 v, .slice q «as».length cap] ∧ I64 k ∧ I64 v ∧ («as».length : Int) ≤ 9223372036854775807 ∧
   (0 < «as».length → ∃ a, q = some a ∧ a.block < B ∧ TyAll s B «as» a)
def TyAll (s : World) (B : Nat) : List Ty → Addr → Prop
 | [], _ => True
 | t :: r, a => (∃ cs, CellsAt s a cs ∧ TyC s B t cs) ∧ TyAll s B r (a.add 4)
end
theorem TyAll.get {s : World} {B : Nat} : ∀ {«as» : List Ty} {a : Addr} {i : Nat} {t : Ty}, TyAll s B «as» a → «as»[i]? = some t → ∃ cs, CellsAt s (a.add (i * 4)) cs ∧ TyC s B t cs
 | [], _, _, _, _, h => by simp at h
 | u :: r, a, 0, t, h, hi => by
  simp only [TyAll] at h
  simp at hi; subst hi
  obtain ⟨cs, h1, h2⟩ := h.1
  exact ⟨cs, h1, h2⟩
 | u :: r, a, i + 1, t, h, hi => by
  simp only [TyAll] at h
  obtain ⟨cs, h1, h2⟩ := TyAll.get (i := i) h.2 (by simpa using hi)
  rw [add_add] at h1
  exact ⟨cs, by rwa [show 4 + i * 4 = (i + 1) * 4 from by omega] at h1, h2⟩
theorem CellsAt.keep {s s' : World} {a : Addr} {cs : List Value} {B : Nat} (hk : ∀ p : Addr, p.block < B → s'.cell? p = s.cell? p) (hb : a.block < B) (h : CellsAt s a cs) : CellsAt s' a cs :=
 fun j v hj => by rw [hk _ (by rw [add_block]; exact hb)]; exact h j v hj
mutual
theorem TyC.keep {s s' : World} {B B' : Nat} (hk : ∀ p : Addr, p.block < B → s'.cell? p = s.cell? p) (hB : B ≤ B') : ∀ {t : Ty} {cs : List Value}, TyC s B t cs → TyC s' B' t cs
 | .mk k nm v «as», cs, h => by
  simp only [TyC] at h ⊢
  obtain ⟨q, cap, h1, h2, h3, h5, h4⟩ := h
  refine ⟨q, cap, h1, h2, h3, h5, fun hl => ?_⟩
  obtain ⟨a, ha, hb, hall⟩ := h4 hl
  exact ⟨a, ha, by omega, TyAll.keep hk hB hb hall⟩
theorem TyAll.keep {s s' : World} {B B' : Nat} (hk : ∀ p : Addr, p.block < B → s'.cell? p = s.cell? p) (hB : B ≤ B') : ∀ {«as» : List Ty} {a : Addr}, a.block < B → TyAll s B «as» a → TyAll s' B' «as» a
 | [], _, _, _ => by simp only [TyAll]
 | t :: r, a, hb, h => by
  simp only [TyAll] at h ⊢
  obtain ⟨⟨cs, h1, h2⟩, h3⟩ := h
  exact ⟨⟨cs, h1.keep hk hb, TyC.keep hk hB h2⟩, TyAll.keep hk hB (by rw [add_block]; exact hb) h3⟩
end
theorem TyC.len {s : World} {B : Nat} {t : Ty} {cs : List Value} (h : TyC s B t cs) : cs.length = 4 := by
 cases t
 simp only [TyC] at h
 obtain ⟨q, cap, rfl, _⟩ := h
 rfl
theorem Cls.below {H : List Item} {S : List World} {w s : World} (h : Cls H S w) (hs : s ∈ S) {B : Nat} (hB : B ≤ s.heap.size) (hno : ∀ k, k < B → NotOwned H k) : ∀ p : Addr, p.block < B → w.cell? p = s.cell? p :=
 fun p hp => h.cell hs (by omega) (hno _ hp)
inductive Thin (S : List World) : List Item → List Item → Prop where
 | nil : Thin S [] []
 | keep {i : Item} {H H' : List Item} (h : Thin S H H') : Thin S (i :: H) (i :: H')
 | blk {b : Nat} {t : TypeId} {c : List Value} {H H' : List Item} (hb : AllLe S b) (h : Thin S H H') : Thin S (blk b t c :: H) H'
 | any {i : Item} {H H' : List Item} (hb : ∀ k, i.own k → AllLe S k) (h : Thin S H H') : Thin S (i :: H) H'
theorem Thin.au {S : List World} {H H' : List Item} (h : Thin S H H' := by (repeat (first | exact Thin.nil | exact Thin.same | apply Thin.keep | (refine Thin.blk (by assumption) ?_) | (refine Thin.blk (by simp only [AllLe, and_true]; omega) ?_))); first | done | fail) : Thin S H H' := h
theorem AllLe.mem {S : List World} {k : Nat} (h : AllLe S k) : ∀ s ∈ S, s.heap.size ≤ k := by
 induction S with
 | nil => intro s hs; cases hs
 | cons x S ih =>
  intro s hs
  cases hs with
  | head => exact h.1
  | tail _ hs => exact ih h.2 s hs
theorem Thin.spec {S : List World} {H H' : List Item} (h : Thin S H H') : H'.Sublist H ∧ ∀ i ∈ H, i ∈ H' ∨ ∀ k, i.own k → AllLe S k := by
 induction h with
 | nil => exact ⟨.slnil, fun i hi => by cases hi⟩
 | @keep i H H' h ih =>
  refine ⟨ih.1.cons_cons _, fun j hj => ?_⟩
  cases hj with
  | head => exact .inl (.head _)
  | tail _ hj => exact (ih.2 j hj).imp (.tail _) id
 | @blk b t c H H' hb h ih =>
  refine ⟨ih.1.cons _, fun j hj => ?_⟩
  cases hj with
  | head => exact .inr fun k hk => by have hk' : k = b := hk; subst hk'; exact hb
  | tail _ hj => exact ih.2 j hj
 | @any i H H' hb h ih =>
  refine ⟨ih.1.cons _, fun j hj => ?_⟩
  cases hj with
  | head => exact .inr hb
  | tail _ hj => exact ih.2 j hj
theorem Cls.thin {H H' : List Item} {S : List World} {w : World} (h : Cls H S w) (ht : Thin S H H') : Cls H' S w := by
 obtain ⟨hs, hd⟩ := ht.spec
 refine ⟨fun i hi => h.holds i (hs.subset hi), fun i hi => h.lt i (hs.subset hi), h.dj.sublist hs, fun s hms => ?_⟩
 have hk := h.kp s hms
 refine ⟨hk.os, hk.tape, hk.output, hk.size, fun k hks hno => hk.block k hks ?_⟩
 rintro ⟨i, hi, hik⟩
 rcases hd i hi with h1 | h1
 ·exact hno ⟨i, h1, hik⟩
 ·have := (h1 k hik).mem s hms; omega
theorem Cls.toExt {H : List Item} {S : List World} {w s : World} (h : Cls H S w) (hs : s ∈ S) (hno : ∀ k, k < s.heap.size → NotOwned H k) : Ext s w :=
 (h.kp s hs).mono fun k hk ho => (hno k hk).not ho
theorem Cls.fr {H : List Item} {S : List World} {w s : World} (h : Cls H S w) (hs : s ∈ S := by exact mau) (hno : ∀ k, k < s.heap.size → NotOwned H k := by exact fun k hk => NotOwned.au) : Ext s w := h.toExt hs hno
end Go.Eng

/- Plain: graphs of blocks: what is reached from block 0, what stands over what. No program in sight. No condition. -/
namespace Go.Ss
def Edge (G : List (List Int)) (a b : Nat) : Prop := ∃ l, G[a]? = some l ∧ (b : Int) ∈ l
theorem Edge.lt {G : List (List Int)} {a b : Nat} (h : Edge G a b) : a < G.length := by
 obtain ⟨l, h1, _⟩ := h
 exact (List.getElem?_eq_some_iff.1 h1).1
inductive Rc (G : List (List Int)) (v : Int) : Nat → Prop where
 | zero (h : v ≠ 0) (h0 : 0 < G.length) : Rc G v 0
 | step {a b : Nat} (h : Rc G v a) (he : Edge G a b) (hv : (b : Int) ≠ v) (hl : b < G.length) : Rc G v b
theorem Rc.lt {G : List (List Int)} {v : Int} {b : Nat} (h : Rc G v b) : b < G.length := by
 cases h with
 | zero _ h0 => exact h0
 | step _ _ _ hl => exact hl
theorem Rc.all {G : List (List Int)} {v : Int} {b : Nat} (h : Rc G v b) : Rc G (-1) b := by
 induction h with
 | zero _ h0 => exact .zero (by decide) h0
 | step _ he _ hl ih => exact .step ih he (by omega) hl
def cntT (B : List Bool) : Nat := B.count true
def Closed (G : List (List Int)) (v : Int) (B : List Bool) : Prop := ∀ a b : Nat, Edge G a b → (b : Int) ≠ v → b < G.length → B[a]? = some true → B[b]? = some true
def Le (B C : List Bool) : Prop := B.length = C.length ∧ ∀ i : Nat, B[i]? = some true → C[i]? = some true
theorem Le.refl (B : List Bool) : Le B B := ⟨rfl, fun _ h => h⟩
theorem Le.trans {B C D : List Bool} (h : Le B C) (h' : Le C D) : Le B D := ⟨h.1.trans h'.1, fun i hi => h'.2 i (h.2 i hi)⟩
theorem Le.set {B : List Bool} (i : Nat) : Le B (B.set i true) := ⟨by simp, fun j hj => by
 rw [List.getElem?_set]
 split
 ·rename_i e
  subst e
  rw [if_pos (List.getElem?_eq_some_iff.1 hj).1]
 ·exact hj⟩
theorem le_count : ∀ {B C : List Bool}, Le B C → cntT B ≤ cntT C ∧ (cntT B = cntT C → B = C)
 | [], [], _ => ⟨Nat.le_refl _, fun _ => rfl⟩
 | [], c :: C, h => by have := h.1; simp at this
 | b :: B, [], h => by have := h.1; simp at this
 | b :: B, c :: C, h => by
  have h1 : Le B C := ⟨by have := h.1; simpa using this, fun i hi => by have := h.2 (i + 1) (by simpa using hi); simpa using this⟩
  obtain ⟨h2, h3⟩ := le_count h1
  have h0 := h.2 0
  unfold cntT at *
  cases b <;> cases c <;> simp_all
  omega
theorem cntT_le (B : List Bool) : cntT B ≤ B.length := List.count_le_length
structure Rnd (G : List (List Int)) (v : Int) (B0 B : List Bool) (i j : Nat) : Prop where
 len : B.length = G.length
 le : Le B0 B
 snd : ∀ b : Nat, B[b]? = some true → Rc G v b
 dn : ∀ (a m : Nat) (l : List Int) (b : Nat), G[a]? = some l → l[m]? = some (b : Int) → (a < i ∨ (a = i ∧ m < j)) → (b : Int) ≠ v → b < G.length → B0[a]? = some true → B[b]? = some true
theorem Rnd.start {G : List (List Int)} {v : Int} {B : List Bool} (hl : B.length = G.length) (h : ∀ b : Nat, B[b]? = some true → Rc G v b) : Rnd G v B B 0 0 := ⟨hl, .refl B, h, fun a m l b _ _ hc => by omega⟩
theorem Rnd.skip {G : List (List Int)} {v : Int} {B0 B : List Bool} {i j : Nat} {l : List Int} {t : Int} (h : Rnd G v B0 B i j) (hl : G[i]? = some l) (ht : l[j]? = some t) (hs : ¬ B[i]? = some true ∨ t = v ∨ ¬ (0 ≤ t ∧ t < (G.length : Int))) : Rnd G v B0 B i (j + 1) :=
 ⟨h.len, h.le, h.snd, fun a m l' b h1 h2 h3 h4 h5 h6 => by
  by_cases hc : a < i ∨ (a = i ∧ m < j)
  ·exact h.dn a m l' b h1 h2 hc h4 h5 h6
  ·have e1 : a = i := by omega
   have e2 : m = j := by omega
   subst e1
   subst e2
   rw [hl] at h1
   obtain rfl := Option.some.inj h1
   rw [ht] at h2
   obtain rfl := Option.some.inj h2
   rcases hs with hs | hs | hs
   ·exact absurd (h.le.2 _ h6) hs
   ·exact absurd hs h4
   ·omega⟩
theorem Rnd.mark {G : List (List Int)} {v : Int} {B0 B : List Bool} {i j : Nat} {l : List Int} {t : Int} (h : Rnd G v B0 B i j) (hl : G[i]? = some l) (ht : l[j]? = some t) (hi : B[i]? = some true) (hv : t ≠ v) (h0 : 0 ≤ t ∧ t < (G.length : Int)) : Rnd G v B0 (B.set t.toNat true) i (j + 1) := by
 have htt : ((t.toNat : Nat) : Int) = t := by omega
 refine ⟨by rw [List.length_set, h.len], h.le.trans (.set _), fun b hb => ?_, fun a m l' b h1 h2 h3 h4 h5 h6 => ?_⟩
 ·rw [List.getElem?_set] at hb
  split at hb
  ·rename_i e
   subst e
   exact .step (h.snd i hi) ⟨l, hl, by rw [htt]; exact List.mem_of_getElem? ht⟩ (by omega) (by omega)
  ·exact h.snd b hb
 ·by_cases hc : a < i ∨ (a = i ∧ m < j)
  ·exact (Le.set t.toNat).2 b (h.dn a m l' b h1 h2 hc h4 h5 h6)
  ·have e1 : a = i := by omega
   have e2 : m = j := by omega
   subst e1
   subst e2
   rw [hl] at h1
   obtain rfl := Option.some.inj h1
   rw [ht] at h2
   have h7 := Option.some.inj h2
   have h8 : t.toNat = b := by omega
   have h11 : b < B.length := by rw [h.len]; omega
   rw [List.getElem?_set, if_pos h8, if_pos (by omega)]
theorem Rnd.next {G : List (List Int)} {v : Int} {B0 B : List Bool} {i : Nat} {l : List Int} (h : Rnd G v B0 B i l.length) (hl : G[i]? = some l) : Rnd G v B0 B (i + 1) 0 :=
 ⟨h.len, h.le, h.snd, fun a m l' b h1 h2 h3 h4 h5 h6 => h.dn a m l' b h1 h2 (by
  by_cases e : a = i
  ·subst e
   rw [hl] at h1
   obtain rfl := Option.some.inj h1
   have := (List.getElem?_eq_some_iff.1 h2).1
   omega
  ·omega) h4 h5 h6⟩
theorem Rnd.done {G : List (List Int)} {v : Int} {B0 B : List Bool} (h : Rnd G v B0 B G.length 0) : Closed G v B ∨ cntT B0 + 1 ≤ cntT B := by
 obtain ⟨h1, h2⟩ := le_count h.le
 by_cases hc : cntT B0 = cntT B
 ·left
  have := h2 hc
  subst this
  rintro a b ⟨l, hl, hb⟩ hv hlt ha
  obtain ⟨m, hm⟩ := List.getElem?_of_mem hb
  exact h.dn a m l b hl hm (.inl (List.getElem?_eq_some_iff.1 hl).1) hv hlt ha
 ·right
  omega
theorem Rnd.closed {G : List (List Int)} {v : Int} {B0 B : List Bool} {i j : Nat} (h : Rnd G v B0 B i j) (hc : Closed G v B0) (h0 : v ≠ 0 → 0 < G.length → B0[0]? = some true) : Closed G v B := by
 have key : ∀ b, Rc G v b → B0[b]? = some true := by
  intro b hb
  induction hb with
  | zero hv hl => exact h0 hv hl
  | step _ he hv hl ih => exact hc _ _ he hv hl ih
 intro a b he hv hl ha
 exact h.le.2 b (key b (.step (h.snd a ha) he hv hl))
theorem closed_all {G : List (List Int)} {v : Int} {B : List Bool} (hc : Closed G v B) (hs : ∀ b : Nat, B[b]? = some true → Rc G v b) (h0 : v ≠ 0 → 0 < G.length → B[0]? = some true) (b : Nat) : B[b]? = some true ↔ Rc G v b := by
 refine ⟨hs b, fun h => ?_⟩
 induction h with
 | zero hv hl => exact h0 hv hl
 | step _ he hv hl ih => exact hc _ _ he hv hl ih
def Ovr (G : List (List Int)) (a b : Nat) : Prop := a = b ∨ ¬ Rc G (a : Int) b
theorem Ovr.refl (G : List (List Int)) (a : Nat) : Ovr G a a := .inl rfl
theorem Ovr.pred {G : List (List Int)} {a k b : Nat} (h : Ovr G a b) (he : Edge G k b) (hb : b < G.length) (hne : a ≠ b) : Ovr G a k := by
 rcases h with h | h
 ·exact absurd h hne
 ·exact .inr fun hk => h (.step hk he (by omega) hb)
end Go.Ss

/- Rows that a function grows by append: an item for the slice with its cells and the blocks that it has owned. General. No condition. -/
namespace Go.Eng
open Go.RowKit
theorem ownsRow_stab {w w' : World} {base n size : Nat} {e : TypeId} {v : Value} {xs : List Value} (hk : ∀ k, v.ownBlock = some k → w'.heap[k]? = w.heap[k]?) (h : w.ownsRow base e size v n xs) : w'.ownsRow base e size v n xs := by
 refine ⟨h.1, ?_⟩
 rcases h.2 with h2 | ⟨g, cap, cur, rfl, hb, hg, hr⟩
 ·exact .inl h2
 ·exact .inr ⟨g, cap, cur, rfl, hb, by rw [hk g rfl]; exact hg, hr⟩
def row (base : Nat) (O : Nat → Prop) (q : Option Addr) (n cap : Nat) (e : TypeId) (size : Nat) (xs : List Value) : Item :=
 ⟨fun k => base ≤ k ∧ O k, fun w => (∀ a, q = some a → O a.block) ∧ w.ownsRow base e size (.slice q n cap) n xs, fun w w' hk h => ⟨h.1, by
  refine ownsRow_stab (fun k hk' => ?_) h.2
  cases q with
  | none => simp [Value.ownBlock] at hk'
  | some a =>
   simp only [Value.ownBlock, Option.some.injEq] at hk'
   subst hk'
   rcases h.2.2 with ⟨h3, _⟩ | ⟨g, cap', cur, h3, hb, _⟩
   ·cases h3
   ·simp only [Value.slice.injEq, Option.some.injEq] at h3
    obtain ⟨rfl, _⟩ := h3
    exact hk _ ⟨hb, h.1 _ rfl⟩⟩⟩
section
variable {P : Program} {n : Nat} {l : Env} {H : List Item} {S : List World} {C : World → Prop} {c : Bool} {d : Option Nat} {ty : TypeId} {pos : String} {af : Array Edge} {g : Option (Nat × Bool)}
variable {ops : Array Oper} {rest : List Oper} {Q : Exit → Act → World → Prop}
variable {t : TypeId} {x y z : Operand} {cx cy cz : Bool}
theorem NotOwned.row {base m cap size k : Nat} {O : Nat → Prop} {q : Option Addr} {e : TypeId} {xs : List Value} (h : k < base) (r : NotOwned H k) : NotOwned (Eng.row base O q m cap e size xs :: H) k :=
 NotOwned.any (fun ho => Nat.not_le_of_lt h ho.1) r
theorem Cls.row_nil {w : World} (h : Cls H S w) (base : Nat) (e : TypeId) (size : Nat) : Cls (row base (fun _ => False) none 0 0 e size [] :: H) S w :=
 h.add (Keep.refl _ w) _ ⟨fun a ha => (by cases ha), World.ownsRow_nil w base e size⟩ (fun k hk => hk.2.elim)
theorem row_cell {w : World} {base m cap size o g0 : Nat} {O : Nat → Prop} {e : TypeId} {xs : List Value} {v : Value} (h : (row base O (some ⟨g0, 0, none⟩) m cap e size xs).holds w) (hv : xs[o]? = some v) : w.cell? ⟨g0, o, none⟩ = some v := by
 rcases h.2.2 with ⟨h3, _⟩ | ⟨g, cap', cur, h3, hb, hg, h4, h5, h6, h7⟩
 ·cases h3
 ·simp only [Value.slice.injEq, Option.some.injEq, Addr.mk.injEq] at h3
  obtain ⟨⟨rfl, _⟩, _⟩ := h3
  have : cur[o]? = some v := by
   rw [← h7] at hv
   have hl := (List.getElem?_eq_some_iff.1 hv).1
   rw [List.length_take] at hl
   rw [List.getElem?_take_of_lt (by omega)] at hv
   simpa using hv
  simp [World.cell?, hg, this]
theorem OL.newT {α : Type} {o : Oper} {dd : Nat} {C' : α → World → Prop} (hg : o.guard = none) (hd : o.dst = some dd) (hn : Nat.ble (dd + 1) n = true) (V : α → Value)
  (hv : ∀ a w, Sees n l a → C w → ∃ b w', (execOp a.eval o).run P w = .ok (.value (V b)) w' ∧ C' b w')
  (k : ∀ b, OL P n ops Q rest ((dd, true, V b) :: l) (C' b)) : OL P n ops Q (o :: rest) l C := by
 have hn' := Nat.le_of_ble_eq_true hn
 refine ⟨fun a w hs hc => ?_⟩
 refine wpList_plain hg fun K hK => ?_
 obtain ⟨b, w', hr, hc'⟩ := hv a w hs hc
 show Oper.upon P o a K Q ((execOp a.eval o).run P w)
 rw [hr]
 show K (a.put o.dst (V b)) w'
 rw [hd]
 exact hK _ _ ((k b).run _ w' (hs.put hn' true _) hc')
def rowElem (P : Program) (t : TypeId) : Option (TypeId × Nat × Nat) := match P.underlying t with
 | some (.slice e) => match P.info? e with
  | some i => match i.zero with
   | some z => match Nat.beq z.cells.size i.size && !Nat.beq i.size 0 with
    | true => match lit i.size, lit i.bytes with
     | some a, some b => some (e, a, b)
     | _, _ => none
    | false => none
   | none => none
  | none => none
 | _ => none
theorem oneL_mem : ∀ {vs : List Value}, oneL vs = true → ∀ u ∈ vs, u.oneCell' = true
 | [], _, u, hu => by cases hu
 | v :: r, h, u, hu => by
  simp only [oneL, Bool.and_eq_true] at h
  rcases List.mem_cons.1 hu with rfl | hu
  ·exact h.1
  ·exact oneL_mem h.2 u hu
theorem rowElem_spec {t e : TypeId} {sz by' : Nat} (h : rowElem P t = some (e, sz, by')) : ∃ i z, P.underlying t = some (.slice e) ∧ P.info? e = some i ∧ i.zero = some z ∧ i.size = sz ∧ i.bytes = by' ∧ z.cells.size = sz ∧ 0 < sz := by
 unfold rowElem at h
 split at h
 ·rename_i e' he
  split at h
  ·rename_i i hi
   split at h
   ·rename_i z hz
    split at h
    ·rename_i hb
     split at h
     ·rename_i a b ha hb'
      simp only [Option.some.injEq, Prod.mk.injEq] at h
      obtain ⟨rfl, rfl, rfl⟩ := h
      simp only [Bool.and_eq_true, Nat.beq_eq, Bool.not_eq_true'] at hb
      have h1 := lit_eq ha
      have h2 := lit_eq hb'
      refine ⟨i, z, he, hi, hz, h1, h2, by rw [hb.1, h1], ?_⟩
      rw [← h1]
      rcases Nat.eq_zero_or_pos i.size with h0 | h0
      ·rw [h0] at hb; simp at hb
      ·exact h0
     ·cases h
    ·cases h
   ·cases h
  ·cases h
 ·cases h
inductive Hole : Nat → List Item → Item → (Item → List Item) → Prop where
 | z {i : Item} {H : List Item} : Hole 0 (i :: H) i (fun j => j :: H)
 | s {p : Nat} {k i : Item} {H : List Item} {F : Item → List Item} (h : Hole p H i F) : Hole (p + 1) (k :: H) i (fun j => k :: F j)
theorem Hole.au {p : Nat} {H : List Item} {i : Item} {F : Item → List Item} (h : Hole p H i F := by (repeat (first | apply Hole.z | apply Hole.s)); first | done | fail) : Hole p H i F := h
theorem Hole.eq {p : Nat} {H : List Item} {i : Item} {F : Item → List Item} (h : Hole p H i F) : H[p]? = some i ∧ ∀ j, F j = H.set p j := by
 induction h with
 | z => exact ⟨rfl, fun j => rfl⟩
 | s h ih => exact ⟨ih.1, fun j => by show _ :: _ = _ :: _; rw [ih.2 j]⟩
theorem OL.append {F : Item → List Item} {e : TypeId} {dd sz bb p m cap cap2 o b m2 : Nat} {base : Nat} {O : Nat → Prop} {q : Option Addr} {xs cs news : List Value} {t' : TypeId}
  (hx : evl l x = some (true, .slice q m cap)) (hy : evl l y = some (true, .slice (some ⟨b, o, none⟩) m2 cap2)) (hn : Nat.ble (dd + 1) n = true)
  (hu : rowElem P t = some (e, sz, bb)) (hp' : Hole p H (row base O q m cap e sz xs) F) (hb : blk b t' cs ∈ H) (ht : Take (m2 * sz) (cs.drop o) news) (h1 : oneL news = true) (hm2 : Nat.ble 1 m2 = true)
  (hs : ∃ s ∈ S, base ≤ s.heap.size) (hlim : (m + m2) ≤ 9223372036854775807 ∧ (m + m2) * bb ≤ 140737488355328)
  (k : ∀ (O' : Nat → Prop) (g' cap' : Nat), OL P n ops Q rest ((dd, true, .slice (some ⟨g', 0, none⟩) (m + m2) cap') :: l) (Cls (F (row base O' (some ⟨g', 0, none⟩) (m + m2) cap' e sz (xs ++ news))) S)) :
  OL P n ops Q (⟨some dd, .call { callee := .builtin .append, args := #[x, y], argTypes := #[t, t] }, ty, pos, af, none⟩ :: rest) l (Cls H S) := by
 have hp := hp'.eq.1
 have hF := hp'.eq.2
 refine OL.newT (α := (Nat → Prop) × Nat × Nat) (C' := fun r w => Cls (H.set p (row base r.1 (some ⟨r.2.1, 0, none⟩) (m + m2) r.2.2 e sz (xs ++ news))) S w) rfl rfl hn (fun r => .slice (some ⟨r.2.1, 0, none⟩) (m + m2) r.2.2) (fun a w hs' hc => ?_) (fun r => by rw [← hF]; exact k r.1 r.2.1 r.2.2)
 obtain ⟨i, z, g1, g2, g3, g4, g5, g6, g7⟩ := rowElem_spec hu
 obtain ⟨s, hsm, hsb⟩ := hs
 have hbw : base ≤ w.heap.size := Nat.le_trans hsb (hc.kp s hsm).size
 have hi := hc.item (List.mem_of_getElem? hp)
 have hnews : ∀ j u, news[j]? = some u → w.cell? ((⟨b, o, none⟩ : Addr).add j) = some u := fun j u hj => by
  rw [add_mid, blk_cell (hc.item hb)]
  have := ht.get.2 j u hj
  rwa [List.getElem?_drop] at this
 obtain ⟨v', w', hr, h2, h3, h4, h5⟩ := run_append_own_at (P := P) (w := w) base t ty e i z sz bb g1 g2 g3 g4 g5 g6 g7 _ m xs hi.2 ⟨b, o, none⟩ m2 cap2 news ht.get.1 hnews (fun u hu => oneL_mem h1 u hu) hlim.1 hlim.2 hbw
 have hpos : 1 ≤ m2 := Nat.le_of_ble_eq_true hm2
 rcases h2.2 with ⟨rfl, h0⟩ | ⟨g', cap', cur, rfl, hb', hg', hrest⟩
 ·omega
 ·refine ⟨(fun k => O k ∨ k = g', g', cap'), w', ?_, ?_⟩
  ·simp only [execOp, resolve, invoke, builtin, Sem.run_bind, Sem.run_pure, Result.andThen_ok, List.map_toArray, List.map_cons, List.map_nil, hs'.eval hx rfl, hs'.eval hy rfl, hr]
  ·have hown : ∀ k, some k = (Value.slice q m cap).ownBlock → base ≤ k ∧ O k := fun k hk => by
    cases q with
    | none => simp [Value.ownBlock] at hk
    | some a =>
     simp only [Value.ownBlock, Option.some.injEq] at hk
     subst hk
     exact ⟨(World.ownsRow.lt hi.2 _ rfl).1, hi.1 _ rfl⟩
   refine hc.turn p hp (j := row base (fun k => O k ∨ k = g') (some ⟨g', 0, none⟩) (m + m2) cap' e sz (xs ++ news)) ⟨h3.os, h3.tape, h3.output, h3.size, fun k hk hO => h3.block k hk (fun e => hO (hown k e))⟩ ?_ ?_ ?_
   ·exact ⟨fun a ha => by cases ha; exact .inr rfl, h2⟩
   ·intro k hk
    have hlt : g' < w'.heap.size := (Array.getElem?_eq_some_iff.1 hg').1
    rcases hk.2 with h | h
    ·exact ⟨.inl ⟨hk.1, h⟩, Nat.lt_of_lt_of_le (hc.lt _ (List.mem_of_getElem? hp) k ⟨hk.1, h⟩) h3.size⟩
    ·subst h
     refine ⟨?_, hlt⟩
     rcases h5 with h5 | h5
     ·exact .inl (hown k (by rw [← h5]; rfl))
     ·simp only [Value.ownBlock, Option.some.injEq] at h5
      exact .inr (by omega)
   ·exact fun k hk => ⟨hk.1, .inl hk.2⟩
theorem Pev.load_row {b o base m cap size : Nat} {O : Nat → Prop} {e : TypeId} {xs : List Value} {v : Value} (hx : evl l x = some (cx, .pointer (some ⟨b, o, none⟩))) (hcx : c = true → cx = true)
  (hp : row base O (some ⟨b, 0, none⟩) m cap e size xs ∈ H) (hs : scalB P t = true) (hv : xs[o]? = some v) : Pev P n l (Cls H S) ⟨d, .load t x, ty, pos, af, g⟩ c v :=
 .load_of hx hcx fun _ w hw => run_loadVar_scal hs (row_cell (hw.item hp) hv)
end
end Go.Eng

/- Slices that are read: their cells in a world; slices of strings. General. No condition. -/
namespace Go.Eng
open Go.RowKit
def SlAt (w : World) (B : Nat) (q : Option Addr) (vs : List Value) : Prop := 0 < vs.length → ∃ a, q = some a ∧ a.block < B ∧ CellsAt w a vs
theorem SlAt.nil {w : World} {B : Nat} {q : Option Addr} : SlAt w B q [] := fun h => by simp at h
theorem SlAt.keep {w w' : World} {B B' : Nat} {q : Option Addr} {vs : List Value} (h : SlAt w B q vs) (hb : ∀ p : Addr, p.block < B → w'.cell? p = w.cell? p) (hB : B ≤ B') : SlAt w' B' q vs := fun hv => by
 obtain ⟨a, rfl, hab, hc⟩ := h hv
 exact ⟨a, rfl, by omega, fun j v hj => (hb (a.add j) (by simpa [add_block] using hab)).trans (hc j v hj)⟩
theorem SlAt.ext {w w' : World} {B : Nat} {q : Option Addr} {vs : List Value} (h : SlAt w B q vs) (hx : Ext w w') (hB : B ≤ w.heap.size) : SlAt w' w'.heap.size q vs :=
 h.keep (fun p hp => World.cell?_of_block (hx.below.block p.block (by omega))) (Nat.le_trans hB hx.size)
theorem SlAt.up {w : World} {B B' : Nat} {q : Option Addr} {vs : List Value} (h : SlAt w B q vs) (hB : B ≤ B') : SlAt w B' q vs := fun hv => by
 obtain ⟨a, rfl, hab, hc⟩ := h hv
 exact ⟨a, rfl, by omega, hc⟩
theorem blk_lt {w : World} {b : Nat} {t : TypeId} {cs : List Value} (h : (blk b t cs).holds w) : b < w.heap.size := by
 have h' : w.heap[b]? = some (.cells cs.toArray t (0, 0)) := h
 exact (Array.getElem?_eq_some_iff.1 h').1
theorem SlAt.of_row {w : World} {base n cap size : Nat} {O : Nat → Prop} {q : Option Addr} {e : TypeId} {xs : List Value} (h : (row base O q n cap e size xs).holds w) : SlAt w w.heap.size q xs := fun hx => by
 have h2 := h.2
 rcases h2.2 with ⟨h3, h4⟩ | ⟨g, cap', cur, h3, hb, hg, h4, h5, h6, h7⟩
 ·have := h2.1
  rw [h4] at this
  omega
 ·simp only [Value.slice.injEq] at h3
  obtain ⟨rfl, _⟩ := h3
  have hlt : g < w.heap.size := (Array.getElem?_eq_some_iff.1 hg).1
  refine ⟨_, rfl, hlt, fun j v hj => ?_⟩
  rw [add_mid, Nat.zero_add]
  have h' : (row base O (some ⟨g, 0, none⟩) n cap e size xs).holds w := h
  exact row_cell h' hj
end Go.Eng

/- Parts of slices, function values, stores into rows, made rows. General. No condition. -/
namespace Go.Eng
open Go.RowKit
section
variable {P : Program} {n : Nat} {l : Env} {H : List Item} {S : List World} {C : World → Prop} {c : Bool} {d : Option Nat} {ty : TypeId} {pos : String} {af : Array Edge} {g : Option (Nat × Bool)}
variable {ops : Array Oper} {rest : List Oper} {Q : Exit → Act → World → Prop}
variable {t : TypeId} {x y z : Operand} {cx cy cz : Bool}
theorem Pev.slice_hi {e : TypeId} {sz len cp i : Nat} {k : IntKind} {j : Int} {q : Option Addr} (hx : evl l x = some (cx, .slice q len cp)) (hcx : c = true → cx = true) (hz : evl l z = some (cz, .int k j)) (hcz : c = true → cz = true)
  (hu : slElem P t = some (e, sz)) (hj : j = (i : Int)) (hb : c = true → i ≤ cp) : Pev P n l C ⟨d, .slice t x none (some z) none, ty, pos, af, g⟩ c (.slice q i cp) :=
 .of_run fun h a w hs hw => by
  subst hj
  have hb' := hb h
  unfold slElem at hu
  cases h1 : P.underlying t with
  | none => simp [h1] at hu
  | some d1 =>
   rw [h1] at hu
   cases d1 <;> simp only [reduceCtorEq] at hu
   rename_i e'
   cases h2 : sizeN P e' with
   | none => simp [h2] at hu
   | some k' =>
    simp only [execOp, hs.eval hx (hcx h), Option.map_some, Option.map_none, hs.eval hz (hcz h), Instr.sliceAt, Instr.slice, Sem.run_bind, run_underlying h1, Result.andThen_ok, Instr.sliceBounds, Instr.sliceBound, asIntOf, Sem.run_pure, run_sizeN h2]
    simp [hb', add_zero_]
theorem Pev.idxI {e : TypeId} {sz len cp : Nat} {ki : IntKind} {i : Int} {q : Addr} (hx : evl l x = some (cx, .slice (some q) len cp)) (hcx : c = true → cx = true) (hy : evl l y = some (cy, .int ki i)) (hcy : c = true → cy = true)
  (hu : slElem P t = some (e, sz)) (hi : c = true → 0 ≤ i ∧ i < len) : Pev P n l C ⟨d, .indexAddr t x y, ty, pos, af, g⟩ c (.pointer (some (q.add (i.toNat * sz)))) :=
 .of_run fun h a w hs hw => by
  obtain ⟨h1, h2⟩ := hi h
  obtain ⟨m, rfl⟩ := Int.eq_ofNat_of_zero_le h1
  simp only [execOp, hs.eval hx (hcx h), hs.eval hy (hcy h), Sem.run_bind, run_indexAt_slice hu (show m < len by omega), Result.andThen_ok]; rfl
theorem Pev.makeFunc {f : FuncId} {first caps : List Operand} {us vs : List Value} (h1 : Args l c first us) (h2 : Args l c caps vs) : Pev P n l C ⟨d, .makeFunc (.func f) first.toArray caps.toArray, ty, pos, af, g⟩ c (.func (.func f) us.toArray vs.toArray) :=
 .of_run fun h a w hs hw => by
  simp only [execOp, Instr.makeFunc]
  rw [List.map_toArray, List.map_toArray, h1.map hs h, h2.map hs h]
  rfl
end
end Go.Eng

/- From a law's walk to its row: the arguments read behind the call as before, where nothing that was there has turned; types as trees out of a reading. General. No condition. -/
namespace Go.Eng
open Go.RowKit Go.ChangeShapes Go.WideShapes Go.ChangeAt
section
variable {H : Type} {enc : TypeId × Value → H} {P : Program}
def readableB (P : Program) (ts : List TypeId) : Bool := ts.all fun t => P.readableRec t && Nat.blt t P.types.size
theorem trodAll_stays (hl : laidOutB P = true) {W W' : World} (hb : Below W.heap.size W W') {sp : Nat → Bool} :
  ∀ {ts : List TypeId} {vs : List Value} {ds : List (DataW H)} {ps : List MemPlace}, readableB P ts = true → DataW.TrodAll enc P W 0 (fun _ => true) true ts vs ds ps →
   (∀ x ∈ ps, x.block < W.heap.size) → (∀ x ∈ ps, sp x.block = true) → DataW.TrodAll enc P W' 0 sp true ts vs ds ps
 | [], vs, ds, ps, _, h, _, _ => by
  obtain ⟨rfl, rfl, rfl⟩ := trodAll_nil h
  exact trodAll_mk0
 | t :: ts, vs, ds, ps, hr, h, hlt, hsp => by
  obtain ⟨v, vs', d, ds', p, q, rfl, rfl, rfl, h0, h1⟩ := trodAll_cons h
  simp only [readableB, List.all_cons, Bool.and_eq_true] at hr
  have hrow : t < P.types.size := Nat.le_of_ble_eq_true hr.1.2
  exact trodAll_cons_mk (Go.WideElems.Trod_stays hl hr.1.1 hrow h0 (fun x hx => hb.same (hlt x (List.mem_append_left _ hx))) (fun x hx => hsp x (List.mem_append_left _ hx)))
   (trodAll_stays hl hb (by simpa [readableB] using hr.2) h1 (fun x hx => hlt x (List.mem_append_right _ hx)) (fun x hx => hsp x (List.mem_append_right _ hx)))
theorem law_post {f : Func} {s : ChangeSpec} {W W' : World} {args : Array Value} {ds : List (DataW H)} {p : List MemPlace} {tb : TypeId} (hl : laidOutB P = true) (hrd : readableB P f.params.toList = true)
  (hv : s.vars = []) (hrt : f.resultTypes = #[tb]) (hu : P.underlying tb = some .bool) (hfn : s.fn H ds = { results := [.lit (.bool true)], args := ds })
  (hW : DataW.Whole enc P f.params.toList s.vars false W args.toList ds [] p) (hA : DataW.TrodAll enc P W 0 (fun _ => true) true f.params.toList args.toList ds p) (hb : Below W.heap.size W W') :
  s.post enc P f false true false false W args (.bool true) W' := by
 have hlt : ∀ x ∈ p, x.block < W.heap.size := fun x hx => hW.lt x hx
 have hargs : ∀ sp : Nat → Bool, (∀ x ∈ p, sp x.block = true) → DataW.TrodAll enc P W' 0 sp true f.params.toList args.toList ds p := fun sp hsp => trodAll_stays hl hb hrd hA hlt hsp
 have hres : ∀ (b : Nat) (sp : Nat → Bool) (hd : Bool), DataW.TrodAll enc P W' b sp hd f.resultTypes.toList ((Value.bool true).resultList f.resultTypes.size) [.lit (.bool true)] [] := by
  intro b sp hd
  rw [hrt]
  exact trodAll_cons_mk (shut_bool hu _) trodAll_mk0
 have hold : ∀ x ∈ p, (fun b => decide (b < W.heap.size)) x.block = true := fun x hx => by simpa using hlt x hx
 have hok : ∀ (j : Nat) (t : TypeId) (r : Value), f.resultTypes[j]? = some t → ((Value.bool true).resultList f.resultTypes.size)[j]? = some r → Value.okWide P W' .any 0 t r :=
  ok_one hrt rfl (okWide_bool_mk hu _)
 have hfn' : s.fn H (ds ++ []) = { results := [.lit (.bool true)], args := ds } := by rw [List.append_nil]; exact hfn
 have hvars : ∀ sp : Nat → Bool, DataW.TrodVars enc P W' sp s.vars (s.fn H (ds ++ [])).vars [] := fun sp => by rw [hv, hfn']; rfl
 refine ⟨ds, [], p, [], p, [], hW, ?_, ?_, ?_, World.keptBut_mono (fun x hx => ⟨hx, ?_⟩) (hb.frame (· ∈ p)), fun _ => ?_⟩
 ·rw [hfn']; exact hres _ _ _
 ·rw [hfn']; exact hargs _ hold
 ·exact hvars _
 ·exact .inr (by simpa using hx)
 ·obtain ⟨_, _, _, _, _, hz, hn⟩ := hW
  refine ⟨hok, _, _, ([] ++ p) ++ [], ⟨[] ++ p, [], trodAll_append (hargs _ (fun _ _ => rfl)) (hres _ _ _), hvars _, rfl, ?_, ?_⟩, ?_⟩
  ·intro b off hp
   have hin : MemPlace.cell b off ∈ p := by simpa using hp
   rw [hb.frozen (hlt _ hin)]
   exact hz b off hin
  ·intro ha; cases ha
  ·intro x hx _
   simpa using hx
/-! ### readings -/
variable {w : World} {spare : Nat → Bool} {held : Bool}
theorem cell_lt {a : Addr} {v : Value} (h : w.cell? a = some v) : a.block < w.heap.size := by
 unfold World.cell? at h
 rcases Nat.lt_or_ge a.block w.heap.size with hl | hl
 ·exact hl
 ·rw [Array.getElem?_eq_none hl] at h; cases h
theorem cellsAt_of {a : Addr} {n : Nat} {cs : List Value} (h : w.cells? 0 a n = some cs) : CellsAt w a cs ∧ cs.length = n := by
 obtain ⟨_, hl, hc⟩ := World.cells?_some h
 refine ⟨fun j v hj => ?_, hl⟩
 have hjl : j < n := by
  rw [← hl]
  exact (List.getElem?_eq_some_iff.1 hj).1
 rw [hc j hjl]; exact hj
theorem wf_i64 {m : Int} (h : (Lit.int .i64 m).wf = true) : I64 m := by
 simp only [Lit.wf, IntKind.min, IntKind.max, IntKind.signed, IntKind.bits, Bool.and_eq_true, decide_eq_true_eq] at h
 unfold I64
 have h1 := h.1; have h2 := h.2
 simp at h1 h2
 omega
end
end Go.Eng

/- Slices whose elements take several cells: the cells of a list of things, element by element; in-place append and clear; slices in three numbers. General. No condition. -/
namespace Go.Eng
open Go.RowKit
theorem list_of {α : Type} (R : Nat → α → Prop) : ∀ (n : Nat), (∀ i, i < n → ∃ x, R i x) → ∃ l : List α, l.length = n ∧ ∀ i x, l[i]? = some x → R i x
 | 0, _ => ⟨[], rfl, fun i x h => by simp at h⟩
 | n + 1, h => by
  obtain ⟨l, hl, hr⟩ := list_of R n (fun i hi => h i (by omega))
  obtain ⟨x, hx⟩ := h n (by omega)
  refine ⟨l ++ [x], by simp [hl], fun i y hy => ?_⟩
  rcases Nat.lt_or_ge i l.length with hi | hi
  ·rw [List.getElem?_append_left hi] at hy
   exact hr i y hy
  ·rw [List.getElem?_append_right hi] at hy
   have h0 : i - l.length = 0 := by
    have := (List.getElem?_eq_some_iff.1 hy).1
    simpa using this
   rw [h0] at hy
   simp only [List.getElem?_cons_zero, Option.some.injEq] at hy
   subst hy
   obtain rfl : i = n := by omega
   exact hx
def cat {α : Type} (f : α → List Value) : List α → List Value
 | [] => []
 | x :: l => f x ++ cat f l
section
variable {α : Type} {f : α → List Value} {sz : Nat}
theorem cat_append (f : α → List Value) : ∀ (a b : List α), cat f (a ++ b) = cat f a ++ cat f b
 | [], b => rfl
 | x :: a, b => by rw [List.cons_append, cat, cat_append f a b, cat, List.append_assoc]
theorem cat_one (f : α → List Value) (x : α) : cat f [x] = f x := by simp [cat]
theorem cat_length (hf : ∀ x, (f x).length = sz) : ∀ (l : List α), (cat f l).length = l.length * sz
 | [] => by simp [cat]
 | x :: l => by rw [cat, List.length_append, cat_length hf l, hf, List.length_cons, Nat.succ_mul, Nat.add_comm]
theorem cat_take (hf : ∀ x, (f x).length = sz) : ∀ (l : List α) (i : Nat), (cat f l).take (i * sz) = cat f (l.take i)
 | l, 0 => by simp [cat]
 | [], i + 1 => by simp [cat]
 | x :: l, i + 1 => by
  rw [cat, List.take_succ_cons, cat, ← cat_take hf l i, Nat.succ_mul, Nat.add_comm, List.take_append, hf, List.take_of_length_le (by rw [hf]; omega)]
  congr 2
  omega
theorem cat_drop (hf : ∀ x, (f x).length = sz) : ∀ (l : List α) (i : Nat), (cat f l).drop (i * sz) = cat f (l.drop i)
 | l, 0 => by simp [cat]
 | [], i + 1 => by simp [cat]
 | x :: l, i + 1 => by
  rw [cat, List.drop_succ_cons, ← cat_drop hf l i, Nat.succ_mul, Nat.add_comm, List.drop_append, hf, List.drop_of_length_le (by rw [hf]; omega), List.nil_append]
  congr 1
  omega
theorem cat_get (hf : ∀ x, (f x).length = sz) {l : List α} {i : Nat} {x : α} (h : l[i]? = some x) : ∀ (j : Nat) (v : Value), (f x)[j]? = some v → (cat f l)[i * sz + j]? = some v := by
 intro j v hj
 have hi := (List.getElem?_eq_some_iff.1 h).1
 have hd := cat_drop hf l i
 rw [List.drop_eq_getElem_cons hi, cat] at hd
 have hx : l[i] = x := by
  rw [List.getElem?_eq_getElem hi] at h
  exact Option.some.inj h
 rw [hx] at hd
 have : ((cat f l).drop (i * sz))[j]? = some v := by
  rw [hd, List.getElem?_append_left (List.getElem?_eq_some_iff.1 hj).1]; exact hj
 rwa [List.getElem?_drop] at this
theorem cat_map {β : Type} (f : α → List Value) (g : β → α) : ∀ (l : List β), cat f (l.map g) = cat (fun x => f (g x)) l
 | [] => rfl
 | x :: l => by rw [List.map_cons, cat, cat_map f g l, cat]
end
section
variable {α : Type} {f : α → List Value} {sz : Nat}
end
end Go.Eng

/- Made slices of one-cell elements, and a square of rows. General. No condition. -/
namespace Go.Eng
open Go.RowKit
section
variable {P : Program} {n : Nat} {l : Env} {H : List Item} {S : List World} {C : World → Prop} {ty : TypeId} {pos : String} {af : Array Edge}
variable {ops : Array Oper} {rest : List Oper} {Q : Exit → Act → World → Prop} {t : TypeId} {x y : Operand}
theorem madeCells_one (z0 : Value) (m : Nat) : madeCells #[z0] m = (List.replicate m z0).toArray := by
 apply Array.ext
 ·simp [madeCells]
 ·intro i h1 h2
  simp [madeCells, Nat.mod_one]
def zeroCell (P : Program) (e : TypeId) : Option Value := match P.info? e with
 | some i => match i.zero with
  | some z => match z.cells.toList with
   | [z0] => some z0
   | _ => none
  | none => none
 | none => none
theorem OL.makeSlice {e : TypeId} {dd m bb : Nat} {z0 : Value} {k1 k2 : IntKind} {a1 a2 : Int} (hx : evl l x = some (true, .int k1 a1)) (hy : evl l y = some (true, .int k2 a2)) (hn : Nat.ble (dd + 1) n = true)
  (hu : rowElem P t = some (e, 1, bb)) (hz : zeroCell P e = some z0) (h1 : a1 = (m : Int)) (h2 : a2 = (m : Int)) (hlim : m ≤ 9223372036854775807 ∧ m * bb ≤ 140737488355328)
  (k : ∀ b, AllLe S b → OL P n ops Q rest ((dd, true, .slice (some ⟨b, 0, none⟩) m m) :: l) (Cls (blk b e (List.replicate m z0) :: H) S)) :
  OL P n ops Q (⟨some dd, .makeSlice t x y, ty, pos, af, none⟩ :: rest) l (Cls H S) := by
 obtain ⟨i, z, g1, g2, g3, g4, g5, g6, g7⟩ := rowElem_spec hu
 subst h1
 subst h2
 have hcell : z.cells = #[z0] := by
  unfold zeroCell at hz
  rw [g2] at hz
  simp only [g3] at hz
  split at hz
  ·rename_i z1 he
   obtain rfl := Option.some.inj hz
   apply Array.ext'
   exact he
  ·cases hz
 refine OL.new (C' := fun b w => AllLe S b ∧ Cls (blk b e (List.replicate m z0) :: H) S w) rfl rfl hn (fun b => .slice (some ⟨b, 0, none⟩) m m) (fun a w hs hc => ⟨w.heap.size, w.alloc (.cells (List.replicate m z0).toArray e), ?_, AllLe.mk hc, hc.alloc e (List.replicate m z0)⟩) (fun b => ⟨fun a w hs hc => (k b hc.1).run a w hs hc.2⟩)
 have hb : (i.bytes : Int) * (m : Int) ≤ 281474976710656 := by
  have h3 := hlim.2
  rw [← g5, Nat.mul_comm] at h3
  have h5 : ((i.bytes * m : Nat) : Int) ≤ ((140737488355328 : Nat) : Int) := Int.ofNat_le.2 h3
  rw [Int.natCast_mul] at h5
  exact Int.le_trans h5 (by decide)
 have hr := run_make (P := P) w t e i z g1 g2 g3 k1 k2 (m : Int) (m : Int) (by omega) (by omega) hb (by omega)
 rw [hcell, g4, Nat.mul_one, Int.toNat_natCast, madeCells_one] at hr
 simp only [execOp, hs.eval hx rfl, hs.eval hy rfl, Sem.run_bind, hr, Result.andThen_ok]
 rfl
end
end Go.Eng

/- A square of rows: blocks of one element type, told as a list of rows. General. No condition. -/
namespace Go.Eng
open Go.RowKit
def grid (bs : List Nat) (t : TypeId) (rows : List (List Value)) : Item :=
 ⟨fun k => k ∈ bs, fun w => bs.length = rows.length ∧ bs.Nodup ∧ ∀ (i b : Nat) (r : List Value), bs[i]? = some b → rows[i]? = some r → w.heap[b]? = some (.cells r.toArray t (0, 0)),
  fun w w' hk h => ⟨h.1, h.2.1, fun i b r hb hr => (hk b (List.mem_of_getElem? hb)).trans (h.2.2 i b r hb hr)⟩⟩
theorem NotOwned.grid {H : List Item} {bs : List Nat} {t : TypeId} {rows : List (List Value)} {k B : Nat} (h : ∀ b, b ∈ bs → B ≤ b) (hk : k < B) (r : NotOwned H k) : NotOwned (Eng.grid bs t rows :: H) k :=
 NotOwned.any (fun hm => Nat.not_le_of_lt hk (h k hm)) r
section
variable {P : Program} {n : Nat} {l : Env} {H : List Item} {S : List World} {C : World → Prop} {c : Bool} {d : Option Nat} {ty : TypeId} {pos : String} {af : Array Edge} {g : Option (Nat × Bool)}
variable {ops : Array Oper} {rest : List Oper} {Q : Exit → Act → World → Prop} {t : TypeId} {x y : Operand} {cx cy : Bool}
theorem Pev.load_cls {a : Addr} {v : Value} (hx : evl l x = some (cx, .pointer (some a))) (hcx : c = true → cx = true) (hs : scalB P t = true) (hv : c = true → ∀ w, C w → w.cell? a = some v) : Pev P n l C ⟨d, .load t x, ty, pos, af, g⟩ c v :=
 .load_of hx hcx fun h w hw => run_loadVar_scal hs (hv h w hw)
end
end Go.Eng

/- A guard that is known to hold is put away; slices held against nil; readings of slices of strings. General. No condition. -/
namespace Go.Eng
open Go.RowKit
section
variable {P : Program} {n : Nat} {l : Env} {H : List Item} {S : List World} {C : World → Prop} {c : Bool} {d : Option Nat} {op : Op} {ty : TypeId} {pos : String} {af : Array Edge} {g : Option (Nat × Bool)}
variable {ops : Array Oper} {rest : List Oper} {Q : Exit → Act → World → Prop} {x y : Operand} {cx cy : Bool} {t : TypeId}
theorem OL.ungate (hg : Guard l ops g c) (hc : c = true) (h : OL P n ops Q (⟨d, op, ty, pos, af, none⟩ :: rest) l C) : OL P n ops Q (⟨d, op, ty, pos, af, g⟩ :: rest) l C := by
 refine ⟨fun a w hs hw => ?_⟩
 have h1 := h.run a w hs hw
 have hwant := Guard.wanted (o := ⟨d, op, ty, pos, af, g⟩) hs hg
 rw [hc] at hwant
 unfold wpList at h1 ⊢
 rw [if_pos hwant]
 rw [if_pos (by simp [Region.wanted])] at h1
 exact h1
theorem OL.gateOff {dd : Nat} (hg : Guard l ops g c) (hc : c = false) (hn : Nat.ble (dd + 1) n = true) (h : OL P n ops Q rest ((dd, false, undef) :: l) C) : OL P n ops Q (⟨some dd, op, ty, pos, af, g⟩ :: rest) l C := by
 refine ⟨fun a w hs hw => ?_⟩
 have hwant := Guard.wanted (o := ⟨some dd, op, ty, pos, af, g⟩) hs hg
 rw [hc] at hwant
 unfold wpList
 rw [if_neg (by simp [hwant])]
 exact h.run _ w (hs.put (Nat.le_of_ble_eq_true hn) false undef) hw
end
/-! readings -/
section
variable {H : Type} {enc : TypeId × Value → H} {P : Program} {w : World} {spare : Nat → Bool} {held : Bool}
end
end Go.Eng

/- A region that draws its order, whose first operations are quiet and whose last ones write memory, one behind another. General. No condition. -/
namespace Go.Eng
open Go.RowKit
section
variable {P : Program} {ops : Array Oper} {C : World → Prop} {Q : Exit → Act → World → Prop} {m : Nat}
def allB (m : Nat) (listed : Array Bool) : Bool := (List.range m).all fun j => listed.getD j false
theorem allB_no {m i : Nat} {listed : Array Bool} (hi : i < m) (h : listed.getD i true = false) : allB m listed = false := by
 rw [Bool.eq_false_iff]
 intro ht
 have := List.all_eq_true.1 ht i (List.mem_range.2 hi)
 rcases Nat.lt_or_ge i listed.size with h' | h'
 ·simp [h'] at h this; rw [h] at this; cases this
 ·simp [Array.getElem?_eq_none h'] at h
def wpH (P : Program) (ops : Array Oper) (C : World → Prop) (Q : Exit → Act → World → Prop) (m : Nat) : Nat → Array Bool → Act → Prop
 | 0, listed, a => allB m listed = true ∧ ∀ w, C w → wpAny P .any ops Q 0 listed a w
 | f + 1, listed, a => (allB m listed = true → ∀ w, C w → wpAny P .any ops Q (f + 1) listed a w) ∧
   (allB m listed = false → Region.ready .any ops listed ≠ [] ∧ ∀ i ∈ Region.ready .any ops listed, qOp P ops C i (wpH P ops C Q m f (listed.setIfInBounds i true)) a)
theorem wpH_all {f : Nat} {listed : Array Bool} {a : Act} (ht : allB m listed = true) (h : ∀ w, C w → wpAny P .any ops Q f listed a w) : wpH P ops C Q m f listed a := by
 cases f with
 | zero => exact ⟨ht, h⟩
 | succ f => exact ⟨fun _ => h, fun h0 => by rw [ht] at h0; cases h0⟩
theorem wpAny_of_H : ∀ (f : Nat) (listed : Array Bool) (a : Act) (w : World), C w → wpH P ops C Q m f listed a → wpAny P .any ops Q f listed a w
 | 0, _, _, w, hw, h => h.2 w hw
 | f + 1, listed, a, w, hw, h => by
  cases ht : allB m listed with
  | true => exact h.1 ht w hw
  | false => exact ⟨fun h0 => absurd h0 (h.2 ht).1, fun i hi => wpOp_of_qOp hw (fun a' w' hw' => wpAny_of_H f _ a' w' hw') ((h.2 ht).2 i hi)⟩
def waitsB (ops : Array Oper) : Nat → Nat → Nat → Bool
 | 0, _, _ => false
 | f + 1, j, i => match ops[j]? with
  | some o => o.after.any fun e => Region.binds .any e && (Nat.beq e.on i || waitsB ops f e.on i)
  | none => false
def waitB (ops : Array Oper) (m : Nat) : Bool := (List.range ops.size).all fun j => Nat.blt j m || (List.range m).all fun i => waitsB ops ops.size j i
theorem waitB_spec (h : waitB ops m = true) {j : Nat} {o : Oper} (hj : ops[j]? = some o) (hm : m ≤ j) {i : Nat} (hi : i < m) : waitsB ops ops.size j i = true := by
 have hlt := (Array.getElem?_eq_some_iff.1 hj).1
 have h1 := List.all_eq_true.1 h j (List.mem_range.2 hlt)
 simp only [Bool.or_eq_true] at h1
 rcases h1 with h1 | h1
 ·have : j < m := Nat.le_of_ble_eq_true h1
  omega
 ·exact List.all_eq_true.1 h1 i (List.mem_range.2 hi)
def Dn (ops : Array Oper) (listed : Array Bool) : Prop := ∀ j o, ops[j]? = some o → listed.getD j false = true → ∀ e ∈ o.after, Region.binds .any e = true → listed.getD e.on false = true
theorem getD_ft {listed : Array Bool} {i : Nat} (h : listed.getD i true = false) : listed.getD i false = false := by
 rcases Nat.lt_or_ge i listed.size with h' | h'
 ·simp [h'] at h ⊢; exact h
 ·simp [Array.getElem?_eq_none h'] at h
theorem waits_done {listed : Array Bool} (hD : Dn ops listed) {i : Nat} : ∀ (f j : Nat) (o : Oper), ops[j]? = some o → (∀ e ∈ o.after, Region.binds .any e = true → listed.getD e.on false = true) → waitsB ops f j i = true → listed.getD i false = true
 | 0, _, _, _, _, h => by cases h
 | f + 1, j, o, hj, hall, h => by
  rw [waitsB, hj] at h
  simp only at h
  rw [Array.any_eq_true] at h
  obtain ⟨k, hk, h3⟩ := h
  simp only [Bool.and_eq_true, Bool.or_eq_true, Nat.beq_eq] at h3
  have h4 := hall _ (Array.getElem_mem hk) h3.1
  rcases h3.2 with h5 | h5
  ·rw [← h5]; exact h4
  ·cases ho : ops[(o.after[k]).on]? with
   | none =>
    cases f with
    | zero => cases h5
    | succ f => rw [waitsB, ho] at h5; cases h5
   | some o2 => exact waits_done hD f _ o2 ho (fun e he hb => hD _ o2 ho h4 e he hb) h5
theorem Dn.set {listed : Array Bool} (hD : Dn ops listed) {j : Nat} (hj : j ∈ Region.ready .any ops listed) : Dn ops (listed.setIfInBounds j true) := by
 obtain ⟨hjun, oj, hoj, hall⟩ := mem_ready.1 hj
 have hjlt : j < listed.size := by
  rcases Nat.lt_or_ge j listed.size with h' | h'
  ·exact h'
  ·simp [Array.getElem?_eq_none h'] at hjun
 have up : ∀ k, listed.getD k false = true → (listed.setIfInBounds j true).getD k false = true := fun k hk => by
  by_cases e : j = k
  ·subst e
   simp [Array.getElem?_setIfInBounds, hjlt]
  ·rw [getD_set_ne false e]; exact hk
 intro k o ho hk e he hb
 by_cases ek : j = k
 ·subst ek
  rw [hoj] at ho
  obtain rfl := Option.some.inj ho
  exact up _ (hall e he hb)
 ·rw [getD_set_ne false ek] at hk
  exact up _ (hD k o ho hk e he hb)
theorem wpH_first {i : Nat} {oi : Oper} {v : Value} (hi : ops[i]? = some oi) (him : i < m) (hwait : waitB ops m = true) (hsel : ∀ (j : Nat) (o : Oper) cs b, ops[j]? = some o → o.op ≠ .select cs b) :
  ∀ (fuel : Nat) (listed : Array Bool) (a : Act),
   Dn ops listed → (∀ j oj, ops[j]? = some oj → j ≠ i → listed.getD j true = false → (∀ e ∈ oj.after, Region.binds .any e = true → e.on ≠ i) → oi.apart ops oj = true) →
   i ∈ Region.ready .any ops listed → YieldsIn P ops C oi v a →
   wpH P ops C Q m fuel (listed.setIfInBounds i true) (a.put oi.dst v) → wpH P ops C Q m (fuel + 1) listed a := by
 intro fuel
 induction fuel with
 | zero =>
  intro listed a hD _ hr hy H
  have hT := allB_no him (mem_ready.1 hr).1
  refine ⟨fun h => (by rw [hT] at h; cases h), fun _ => ⟨fun h => (by rw [h] at hr; cases hr), fun j hj => ?_⟩⟩
  by_cases hji : j = i
  ·subst hji; exact hy.qOp hi H
  ·exfalso
   obtain ⟨hjun, oj, hoj, hall⟩ := mem_ready.1 hj
   have hjm : j < m := by
    rcases Nat.lt_or_ge j m with h | h
    ·exact h
    ·have h1 := waits_done hD _ j oj hoj hall (waitB_spec hwait hoj h him)
     rw [getD_ft (mem_ready.1 hr).1] at h1
     cases h1
   have := allB_no hjm (by rw [getD_set_ne true (Ne.symm hji)]; exact hjun : (listed.setIfInBounds i true).getD j true = false)
   rw [H.1] at this
   cases this
 | succ fuel ih =>
  intro listed a hD hfree hr hy H
  have hT := allB_no him (mem_ready.1 hr).1
  refine ⟨fun h => (by rw [hT] at h; cases h), fun _ => ⟨fun h => (by rw [h] at hr; cases hr), fun j hj => ?_⟩⟩
  by_cases hji : j = i
  ·subst hji; exact hy.qOp hi H
  ·obtain ⟨hjun, oj, hoj, hall⟩ := mem_ready.1 hj
   have hnot : ∀ e ∈ oj.after, Region.binds .any e = true → e.on ≠ i := fun e he hb heq => by
    have h1 := hall e he hb
    have h0 := (mem_ready.1 hr).1
    rw [heq] at h1
    rcases Nat.lt_or_ge i listed.size with h' | h'
    ·simp [h'] at h0 h1; rw [h0] at h1; cases h1
    ·simp [Array.getElem?_eq_none h'] at h1
   have hjm : j < m := by
    rcases Nat.lt_or_ge j m with h | h
    ·exact h
    ·have h1 := waits_done hD _ j oj hoj hall (waitB_spec hwait hoj h him)
     rw [getD_ft (mem_ready.1 hr).1] at h1
     cases h1
   have hT' := allB_no hjm (by rw [getD_set_ne true (Ne.symm hji)]; exact hjun : (listed.setIfInBounds i true).getD j true = false)
   have h1 := (H.2 hT').2 j (ready_mono hj hji)
   have h2 := qOp_put hoj (hfree j oj hoj hji hjun hnot) (fun cs b => hsel i oi cs b hi) (fun cs b => hsel j oj cs b hoj) hy h1
   have hfree' : ∀ k ok, ops[k]? = some ok → k ≠ i → (listed.setIfInBounds j true).getD k true = false →
     (∀ e ∈ ok.after, Region.binds .any e = true → e.on ≠ i) → oi.apart ops ok = true := fun k ok hk hki hun hno => by
    refine hfree k ok hk hki ?_ hno
    by_cases hjk : j = k
    ·subst hjk; exact hjun
    ·rw [getD_set_ne true hjk] at hun; exact hun
   refine qOp_mono (fun a' h3 => ih (listed.setIfInBounds j true) a' (hD.set hj) hfree' (ready_mono hr (Ne.symm hji)) h3.1 ?_) h2
   rw [Array.setIfInBounds_comm _ _ hji]
   exact h3.2
theorem getD_rep (n j : Nat) : (Array.replicate n false).getD j false = false := by
 rw [Array.getD_eq_getD_getElem?, Array.getElem?_replicate]
 split <;> rfl
def runL : Nat → Nat → Array Bool → Array Bool
 | 0, _, li => li
 | n + 1, k, li => runL n (k + 1) (li.setIfInBounds k true)
def preB (ops : Array Oper) : Nat → Nat → Array Bool → Bool
 | 0, _, _ => true
 | n + 1, k, li => (Region.ready .any ops li).contains k && Region.free .any ops li k && preB ops n (k + 1) (li.setIfInBounds k true)
def seqB (ops : Array Oper) : Nat → Nat → Array Bool → Bool
 | 0, _, li => (Region.ready .any ops li).isEmpty
 | n + 1, k, li => (Region.ready .any ops li == [k]) && seqB ops n (k + 1) (li.setIfInBounds k true)
theorem wpAny_seq : ∀ (l : List Oper) (k : Nat) (li : Array Bool) (a : Act) (w : World), (∀ j, l[j]? = ops[k + j]?) → seqB ops l.length k li = true → wpList P ops Q l a w → wpAny P .any ops Q l.length li a w
 | [], k, li, a, w, _, hB, h => ⟨by simpa [seqB] using hB, h⟩
 | o :: l, k, li, a, w, hl, hB, h => by
  simp only [List.length_cons, seqB, Bool.and_eq_true, beq_iff_eq] at hB
  have h0 : ops[k]? = some o := by simpa using (hl 0).symm
  refine ⟨fun h' => (by rw [hB.1] at h'; cases h'), fun i hi => ?_⟩
  rw [hB.1, List.mem_singleton] at hi
  subst hi
  have h2 : wpOp P ops Q i (wpList P ops Q l) a w := by unfold wpOp; simp only [h0]; exact h
  exact wpOp_mono (fun a' w' h3 => wpAny_seq l (i + 1) _ a' w' (fun j => by have := hl (j + 1); simpa [Nat.add_assoc, Nat.add_comm 1 j] using this) hB.2 h3) h2
theorem wpH_lex (hs : Region.noSelect ops = true) (hwait : waitB ops m = true) {K : Act → Prop} {f : Nat} : ∀ (l : List Oper) (k : Nat) (li : Array Bool) (a : Act), Dn ops li → k + l.length = m → (∀ j, j < l.length → l[j]? = ops[k + j]?) →
  preB ops l.length k li = true → allB m (runL l.length k li) = true → wpQuiet P ops C K l a → (∀ a, K a → ∀ w, C w → wpAny P .any ops Q f (runL l.length k li) a w) → wpH P ops C Q m (l.length + f) li a
 | [], k, li, a, _, _, _, _, hA, h, hK => by
  rw [List.length_nil, Nat.zero_add]
  exact wpH_all hA (hK a h)
 | o :: l, k, li, a, hD, hk, hl, hB, hA, h, hK => by
  have h0 : ops[k]? = some o := by simpa using (hl 0 (by simp)).symm
  simp only [List.length_cons, preB, Bool.and_eq_true] at hB
  obtain ⟨⟨hr, hf⟩, hB'⟩ := hB
  have hst : qOp P ops C k (wpQuiet P ops C K l) a := by unfold qOp; simp only [h0]; exact h
  obtain ⟨v, hy, hK'⟩ := yieldsIn_of_qOp h0 hst
  rw [List.length_cons, show l.length + 1 + f = (l.length + f) + 1 by omega]
  exact wpH_first h0 (by simp only [List.length_cons] at hk; omega) hwait (Region.noSelect_spec hs) _ li a hD (Region.free_spec h0 hf) (by simpa using hr) hy
   (wpH_lex hs hwait l (k + 1) _ _ (hD.set (by simpa using hr)) (by simp only [List.length_cons] at hk; omega) (fun j hj => by have := hl (j + 1) (by simp only [List.length_cons]; omega); simpa [Nat.add_assoc, Nat.add_comm 1 j] using this) hB' hA hK' hK)
def tailB (ops : Array Oper) (m t : Nat) : Bool := Region.noSelect ops && (waitB ops m && (preB ops m 0 (Array.replicate ops.size false) && (allB m (runL m 0 (Array.replicate ops.size false)) && (seqB ops t m (runL m 0 (Array.replicate ops.size false)) && Nat.beq (m + t) ops.size))))
theorem wp_region_tail {id : Nat} {l0 l1 : List Oper} {a : Act} {w : World} (hm : P.follows .mixedOrders = true) (hB : tailB (l0 ++ l1).toArray l0.length l1.length = true) (hC : C { w with drawn := w.drawn + 1 })
  (h : wpQuiet P (l0 ++ l1).toArray C (fun a' => ∀ w', C w' → wpList P (l0 ++ l1).toArray Q l1 a' w') l0 a) : (Code.region id (l0 ++ l1).toArray true).wp P Q a w := by
 simp only [tailB, Bool.and_eq_true] at hB
 obtain ⟨h1, h2, h3, h4, h5, h6⟩ := hB
 refine wp_region_any hm (wpAny_of_H (m := l0.length) _ _ _ _ hC ?_)
 have key := wpH_lex (Q := Q) (f := l1.length) h1 h2 l0 0 (Array.replicate (l0 ++ l1).toArray.size false) a (fun j o _ hj => by rw [getD_rep] at hj; cases hj) (by omega) (fun j hj => by simp [List.getElem?_append_left hj]) h3 h4 h (fun a' hK w' hw' => wpAny_seq l1 l0.length _ a' w' (fun j => by simp [List.getElem?_append_right]) h5 (hK w' hw'))
 have e : l0.length + l1.length = (l0 ++ l1).toArray.size := by simp
 exact (congrArg (fun s => wpH P (l0 ++ l1).toArray C Q l0.length s (Array.replicate (l0 ++ l1).toArray.size false) a) e).mp key
end
def memB (o : Oper) : Bool := match o.op with
 | .store .. => true
 | .alloc .. => true
 | .box .. => true
 | .buildSlice .. => true
 | .makeSlice .. => true
 | .makeMap .. => true
 | .mapUpdate .. => true
 | .call c => match c.callee with
  | .builtin .append => true
  | .builtin .delete => true
  | _ => false
 | _ => false
inductive Split : List Oper → List Oper → List Oper → Prop where
 | z {o : Oper} {r : List Oper} (h : memB o = true) : Split (o :: r) [] (o :: r)
 | s {o : Oper} {r x y : List Oper} (h : memB o = false) (k : Split r x y) : Split (o :: r) (o :: x) y
theorem Split.eq {l x y : List Oper} (h : Split l x y) : l = x ++ y := by
 induction h with
 | z h => rfl
 | s h k ih => rw [List.cons_append, ih]
section
variable {P : Program} {n : Nat} {l : Env} {C : World → Prop} {Q : Exit → Act → World → Prop}
theorem W.regq {id : Nat} {l0 x y : List Oper} (hs : Split l0 x y) (hm : P.follows .mixedOrders = true) (hB : tailB (x ++ y).toArray x.length y.length = true) (hC : ∀ w, C w → C { w with drawn := w.drawn + 1 })
  (h : QL P n l0.toArray C (fun a' => ∀ w', C w' → wpList P l0.toArray Q y a' w') x l) : W P n (.region id l0.toArray true) Q l C := ⟨fun a w hs' hc => by
 have := hs.eq
 subst this
 exact wp_region_tail (C := C) hm hB (hC w hc) (h.run a hs')⟩
inductive SplitN : Nat → List Oper → List Oper → List Oper → Prop where
 | z {r : List Oper} : SplitN 0 r [] r
 | s {k : Nat} {o : Oper} {r x y : List Oper} (h : SplitN k r x y) : SplitN (k + 1) (o :: r) (o :: x) y
theorem SplitN.eq {k : Nat} {l x y : List Oper} (h : SplitN k l x y) : l = x ++ y := by
 induction h with
 | z => rfl
 | s h ih => rw [List.cons_append, ih]
theorem W.regn (k : Nat) {id : Nat} {l0 x y : List Oper} (hs : SplitN k l0 x y) (hm : P.follows .mixedOrders = true) (hB : tailB (x ++ y).toArray x.length y.length = true) (hC : ∀ w, C w → C { w with drawn := w.drawn + 1 })
  (h : QL P n l0.toArray C (fun a' => ∀ w', C w' → wpList P l0.toArray Q y a' w') x l) : W P n (.region id l0.toArray true) Q l C := ⟨fun a w hs' hc => by
 have := hs.eq
 subst this
 exact wp_region_tail (C := C) hm hB (hC w hc) (h.run a hs')⟩
theorem W.regd0 {id : Nat} {l0 : List Oper} (hq : (l0.all fun o => !memB o) = true) (hm : P.follows .mixedOrders = true) (hB : Region.lexB .any l0.toArray = true) (hC : ∀ w, C w → C { w with drawn := w.drawn + 1 })
  (h : QL P n l0.toArray C (fun a' => ∀ w', C w' → Q .normal a' w') l0 l) : W P n (.region id l0.toArray true) Q l C := W.regd hm hB hC h
theorem QL.tail {ops : Array Oper} {y : List Oper} (h : OL P n ops Q y l C) : QL P n ops C (fun a' => ∀ w', C w' → wpList P ops Q y a' w') [] l := ⟨fun a hs w hc => h.run a w hs hc⟩
end
end Go.Eng

/- Slices over a block of the call's own that is changed in place: append within its room, clear; slices in two and three numbers; min; loads of several cells that the class tells. General. No condition. -/
namespace Go.Eng
open Go.RowKit
section
variable {P : Program} {n : Nat} {l : Env} {H : List Item} {S : List World} {C : World → Prop} {c : Bool} {d : Option Nat} {ty : TypeId} {pos : String} {af : Array Edge} {g : Option (Nat × Bool)}
variable {ops : Array Oper} {rest : List Oper} {Q : Exit → Act → World → Prop} {t : TypeId} {x y z u : Operand} {cx cy cz cu : Bool}
theorem Pev.max2 {k k' : IntKind} {a b : Int} {ats : Array TypeId} (hx : evl l x = some (cx, .int k a)) (hcx : c = true → cx = true) (hy : evl l y = some (cy, .int k' b)) (hcy : c = true → cy = true) :
  Pev P n l C ⟨d, .call { callee := .builtin .max, args := #[x, y], argTypes := ats }, ty, pos, af, g⟩ c (.int k (if a < b then b else a)) :=
 .of_run fun h ac w hs hw => by
  have hr := run_max_int2 (P := P) w ats ty k k' a b
  simp [execOp, resolve, invoke, builtin, hs.eval hx (hcx h), hs.eval hy (hcy h), hr]
theorem Pev.buildArr {parts : List (Nat × Operand)} {zv : Value} {cs cs' : List Value} {len k : Nat} (hz : zeroV P t = some zv) (hcs : CellsL zv cs) (hu : arrElem P t = some (len, k)) (hf : Fill l (fun i => some (i * k, k)) cs parts cs') (hc : c = true) :
  Pev P n l C ⟨d, .build t parts.toArray, ty, pos, af, g⟩ c (.agg cs'.toArray) :=
 .of_run fun h a w hs hw => by
  unfold arrElem at hu
  cases h1 : P.underlying t with
  | none => simp [h1] at hu
  | some d1 =>
   rw [h1] at hu
   cases d1 <;> simp only [reduceCtorEq] at hu
   rename_i len' e'
   cases h2 : sizeN P e' with
   | none => simp [h2] at hu
   | some k' =>
    rw [h2] at hu
    simp only [Option.some.injEq, Prod.mk.injEq] at hu
    obtain ⟨rfl, rfl⟩ := hu
    have hrun := hf.run hs
    have hparts : (parts.toArray.map fun p => (p.1, a.eval p.2)).toList = parts.map fun p => (p.1, a.eval p.2) := by simp
    simp only [execOp, Instr.build, Sem.run_bind, run_zeroV hz, Result.andThen_ok, run_underlying h1, run_sizeN h2, hcs.eq]
    rw [hparts, hrun]
    rfl
theorem set_same {α : Type} {H : List α} {p : Nat} {i : α} (h : H[p]? = some i) : H.set p i = H := by
 obtain ⟨hlt, rfl⟩ := List.getElem?_eq_some_iff.1 h
 exact List.set_getElem_self hlt
end
end Go.Eng

/- A region that draws its order and whose operations write memory beside one another: an invariant over the set of operations that are done. General. No condition. -/
namespace Go.Eng
open Go.RowKit
inductive SubO (l : Env) (n : Nat) (old : Nat → Value) : Env → Prop where
 | nil : SubO l n old []
 | cons {t : Nat} {c : Bool} {v : Value} {l' : Env} (h : look l t = some (c, v)) (r : SubO l n old l') : SubO l n old ((t, c, v) :: l')
 | old {t : Nat} {l' : Env} (h : Nat.ble (t + 1) n = true) (r : SubO l n old l') : SubO l n old ((t, true, old t) :: l')
theorem Sees.subO {n : Nat} {l l' : Env} {a : Act} {old : Nat → Value} (h : Sees n l a) (ho : ∀ t, t < n → a.tmps[t]? = some (old t)) (hs : SubO l n old l') : Sees n l' a := by
 refine ⟨h.df, h.sz, ?_⟩
 induction hs with
 | nil => intro t c v ht; cases ht
 | @cons t0 c0 v0 l0 h0 _ ih =>
  intro t c v ht
  simp only [Eng.look] at ht
  by_cases e : t0 = t
  ·subst e
   rw [Nat.beq_refl, cond_true] at ht
   exact h.at_ t0 c v (by rw [h0]; exact ht)
  ·rw [show Nat.beq t0 t = false from by rw [Bool.eq_false_iff]; intro hb; exact e (Nat.eq_of_beq_eq_true hb), cond_false] at ht
   exact ih t c v ht
 | @old t0 l0 h0 _ ih =>
  intro t c v ht
  simp only [Eng.look] at ht
  by_cases e : t0 = t
  ·subst e
   rw [Nat.beq_refl, cond_true] at ht
   simp only [Option.some.injEq, Prod.mk.injEq] at ht
   obtain ⟨rfl, rfl⟩ := ht
   exact ho t0 (Nat.le_of_ble_eq_true h0)
  ·rw [show Nat.beq t0 t = false from by rw [Bool.eq_false_iff]; intro hb; exact e (Nat.eq_of_beq_eq_true hb), cond_false] at ht
   exact ih t c v ht
def upd (e : Nat → Bool) (i : Nat) : Nat → Bool := fun j => Nat.beq j i || e j
def cnt (e : Nat → Bool) : Nat → Nat
 | 0 => 0
 | n + 1 => cnt e n + (if e n then 0 else 1)
theorem upd_ne {e : Nat → Bool} {i j : Nat} (h : j ≠ i) : upd e i j = e j := by
 have : Nat.beq j i = false := by
  rw [Bool.eq_false_iff]; intro hb; exact h (Nat.eq_of_beq_eq_true hb)
 simp [upd, this]
theorem upd_eq {e : Nat → Bool} {i : Nat} : upd e i i = true := by simp [upd, Nat.beq_refl]
theorem cnt_upd {e : Nat → Bool} {i : Nat} (h : e i = false) : ∀ n, cnt (upd e i) n = if i < n then cnt e n - 1 else cnt e n
 | 0 => by simp [cnt]
 | n + 1 => by
  have ih := cnt_upd h n
  have hpos : ∀ n, i < n → 1 ≤ cnt e n := by
   intro n
   induction n with
   | zero => intro h; omega
   | succ n ih =>
    intro hn
    rw [cnt]
    by_cases hin : i = n
    ·subst hin; rw [h]; simp
    ·have := ih (by omega); omega
  rw [cnt, cnt, ih]
  by_cases hin : i = n
  ·subst hin
   rw [upd_eq, h]; simp
  ·rw [upd_ne (Ne.symm hin)]
   by_cases hl : i < n
   ·have := hpos n hl
    have h3 : i < n + 1 := by omega
    rw [if_pos hl, if_pos h3]; omega
   ·have h3 : ¬ i < n + 1 := by omega
    rw [if_neg hl, if_neg h3]
theorem cnt_zero {e : Nat → Bool} : ∀ {n}, cnt e n = 0 → ∀ i, i < n → e i = true
 | 0, _, i, hi => by omega
 | n + 1, h, i, hi => by
  rw [cnt] at h
  by_cases hin : i = n
  ·subst hin
   cases he : e i
   ·rw [he] at h; simp at h
   ·rfl
  ·exact cnt_zero (n := n) (by omega) i (by omega)
theorem cnt_pos {e : Nat → Bool} : ∀ {n}, (∀ i, i < n → e i = true) → cnt e n = 0
 | 0, _ => rfl
 | n + 1, h => by rw [cnt, cnt_pos (fun i hi => h i (by omega)), h n (by omega)]; rfl
section
variable {P : Program} {ops : Array Oper} {Q : Exit → Act → World → Prop}
def backB (ops : Array Oper) : Bool := (List.range ops.size).all fun j => match ops[j]? with
 | some o => o.after.all fun e => !Region.binds .any e || Nat.blt e.on j
 | none => true
theorem backB_spec (h : backB ops = true) {j : Nat} {o : Oper} (hj : ops[j]? = some o) {e : Edge} (he : e ∈ o.after) (hbd : Region.binds .any e = true) : e.on < j := by
 have h1 := List.all_eq_true.1 h j (List.mem_range.2 (Array.getElem?_eq_some_iff.1 hj).1)
 simp only [hj] at h1
 have h2 := Array.all_eq_true_iff_forall_mem.1 h1 e he
 rw [hbd, Bool.not_true, Bool.false_or] at h2
 exact Nat.le_of_ble_eq_true h2
theorem ready_some (hb : backB ops = true) {li : Array Bool} {e : Nat → Bool} (hl : ∀ i, i < ops.size → e i = li.getD i false) (hs : li.size = ops.size) {k : Nat} (hk : k < ops.size) (hk' : e k = false) : Region.ready .any ops li ≠ [] := by
 -- the least one that is not done is ready
 obtain ⟨i, hi, hmin⟩ : ∃ i, (i < ops.size ∧ e i = false) ∧ ∀ j, j < i → ¬ (j < ops.size ∧ e j = false) := by
  induction k using Nat.strongRecOn with
  | _ k ih =>
   by_cases hex : ∃ j, j < k ∧ (j < ops.size ∧ e j = false)
   ·obtain ⟨j, hj, h1, h2⟩ := hex
    exact ih j hj h1 h2
   ·exact ⟨k, ⟨hk, hk'⟩, fun j hj h => hex ⟨j, hj, h⟩⟩
 have hmem : i ∈ Region.ready .any ops li := by
  rw [mem_ready]
  refine ⟨?_, ops[i], Array.getElem?_eq_getElem hi.1, fun d hd hbd => ?_⟩
  ·have := hl i hi.1
   rw [hi.2] at this
   have hlt : i < li.size := by omega
   simp [hlt] at this ⊢
   first | exact this | exact this.symm
  ·have h1 := backB_spec hb (Array.getElem?_eq_getElem hi.1) hd hbd
   have h2 : e d.on = true := by
    cases hd' : e d.on
    ·exact absurd ⟨by omega, hd'⟩ (hmin d.on h1)
    ·rfl
   rw [← hl d.on (by omega)]; exact h2
 intro h0
 rw [h0] at hmem
 cases hmem
theorem wpAny_inv (hb : backB ops = true) (I : (Nat → Bool) → Act → World → Prop)
  (hstep : ∀ e i o a w, I e a w → ops[i]? = some o → e i = false → (∀ d ∈ o.after, Region.binds .any d = true → e d.on = true) → wpOp P ops Q i (I (upd e i)) a w)
  (hend : ∀ e a w, I e a w → (∀ i, i < ops.size → e i = true) → Q .normal a w) :
  ∀ (f : Nat) (li : Array Bool) (e : Nat → Bool) (a : Act) (w : World), (∀ i, i < ops.size → e i = li.getD i false) → li.size = ops.size → cnt e ops.size = f → I e a w → wpAny P .any ops Q f li a w
 | 0, li, e, a, w, hl, hs, hc, hI => by
  have hall := cnt_zero hc
  refine ⟨?_, hend e a w hI hall⟩
  rw [List.eq_nil_iff_forall_not_mem]
  intro i hi
  obtain ⟨h1, o, ho, _⟩ := mem_ready.1 hi
  have hlt := (Array.getElem?_eq_some_iff.1 ho).1
  have h2 := hl i hlt
  rw [hall i hlt] at h2
  have hlt' : i < li.size := by omega
  simp [hlt'] at h1 h2
  rw [h1] at h2
  cases h2
 | f + 1, li, e, a, w, hl, hs, hc, hI => by
  refine ⟨fun h0 => ?_, fun i hi => ?_⟩
  ·exfalso
   have : ∃ k, k < ops.size ∧ e k = false := by
    refine Classical.byContradiction fun hn => ?_
    have := cnt_pos (e := e) (n := ops.size) (fun i hi => by
     cases he : e i
     ·exact absurd ⟨i, hi, he⟩ hn
     ·rfl)
    omega
   obtain ⟨k, hk, hk'⟩ := this
   exact ready_some hb hl hs hk hk' h0
  ·obtain ⟨h1, o, ho, hall⟩ := mem_ready.1 hi
   have hlt := (Array.getElem?_eq_some_iff.1 ho).1
   have hlt' : i < li.size := by omega
   have hei : e i = false := by
    rw [hl i hlt]
    simp [hlt'] at h1 ⊢
    exact h1
   refine wpOp_mono (fun a' w' hI' => wpAny_inv hb I hstep hend f (li.setIfInBounds i true) (upd e i) a' w' (fun j hj => ?_) (by simp [hs]) ?_ hI') (hstep e i o a w hI ho hei (fun d hd hb' => ?_))
   ·by_cases hji : j = i
    ·subst hji; rw [upd_eq]; simp [hlt']
    ·rw [upd_ne hji, getD_set_ne false (Ne.symm hji)]; exact hl j hj
   ·rw [cnt_upd hei, if_pos hlt]; omega
   ·have h2 := hall d hd hb'
    rw [← hl d.on (Nat.lt_trans (backB_spec hb ho hd hb') hlt)] at h2
    exact h2
end
section
variable {P : Program} {n : Nat} {l : Env} {C : World → Prop} {Q : Exit → Act → World → Prop} {S : List World}
def Beside (n : Nat) (S : List World) {X : Type} (E : X → (Nat → Bool) → Env) (H : X → (Nat → Bool) → List Item) (e : Nat → Bool) (Q : Exit → Act → World → Prop) : Exit → Act → World → Prop := fun ex a w => match ex with
 | .normal => ∃ x, Sees n (E x e) a ∧ Cls (H x e) S w
 | ex => Q ex a w
def Closed (l0 : List Oper) (e : Nat → Bool) : Prop := ∀ j o, l0[j]? = some o → e j = true → ∀ d ∈ o.after, Region.binds .any d = true → e d.on = true
theorem upd_mono {e : Nat → Bool} {i j : Nat} (h : e j = true) : upd e i j = true := by simp [Eng.upd, h]
theorem Closed.upd {l0 : List Oper} {e : Nat → Bool} (h : Closed l0 e) {i : Nat} {o : Oper} (ho : l0[i]? = some o) (hd : ∀ d ∈ o.after, Region.binds .any d = true → e d.on = true) : Closed l0 (Eng.upd e i) := fun j o' ho' hj d hd' hb => by
 by_cases hji : j = i
 ·subst hji
  rw [ho] at ho'
  obtain rfl := Option.some.inj ho'
  exact upd_mono (hd d hd' hb)
 ·rw [upd_ne hji] at hj
  exact upd_mono (h j o' ho' hj d hd' hb)
theorem Closed.not {l0 : List Oper} {e : Nat → Bool} (h : Closed l0 e) {i j : Nat} {o : Oper} (ho : l0[j]? = some o) (hi : e i = false) (hd : (o.after.any fun d => Nat.beq d.on i && Region.binds .any d) = true) : e j = false := by
 cases hj : e j
 ·rfl
 ·rw [Array.any_eq_true] at hd
  obtain ⟨k, hk, h3⟩ := hd
  simp only [Bool.and_eq_true, Nat.beq_eq] at h3
  have := h j o ho hj _ (Array.getElem_mem hk) h3.2
  rw [h3.1, hi] at this
  exact this.symm
theorem At.beside {X : Type} {E : X → (Nat → Bool) → Env} {H : X → (Nat → Bool) → List Item} {e : Nat → Bool} (x : X) (hs : Sub l (E x e)) (hc : ∀ w, C w → Cls (H x e) S w) : At n (Beside n S E H e Q) .normal l C :=
 ⟨fun a w s c => ⟨x, s.sub hs, hc w c⟩⟩
theorem upon_Q {o : Oper} {a : Act} {K : Act → World → Prop} {Q Q' : Exit → Act → World → Prop} (hp : ∀ e a w, e ≠ .normal → Q e a w → Q' e a w) {r : Result Next} (h : Oper.upon P o a K Q r) : Oper.upon P o a K Q' r := by
 have hlet : LetsOut Q → LetsOut Q' := fun ⟨a, w, hq⟩ => ⟨a, w, hp _ _ _ (by simp) hq⟩
 cases r with
 | ok n w' =>
  cases n <;> simp only [Oper.upon] at h ⊢ <;>
   first
    | exact h
    | exact Calls.mono h (fun e w'' he => by cases e <;> first | exact he | exact hp _ _ _ (by simp) he | exact hlet he)
 | halt x w' =>
  cases x <;> simp only [Oper.upon] at h ⊢ <;> first | exact h | exact hp _ _ _ (by simp) h
theorem wpOp_of_one {ops : Array Oper} {i : Nat} {o : Oper} {a : Act} {w : World} {X : Type} {E : X → (Nat → Bool) → Env} {H : X → (Nat → Bool) → List Item} {e : Nat → Bool} (ho : ops[i]? = some o)
  (h : wpList P ops (Beside n S E H e Q) [o] a w) : wpOp P ops Q i (fun a w => ∃ x, Sees n (E x e) a ∧ Cls (H x e) S w) a w := by
 have hp : ∀ ex a w, ex ≠ .normal → Beside n S E H e Q ex a w → Q ex a w := fun ex a w hne h => by
  cases ex <;> first | exact h | exact absurd rfl hne
 unfold wpOp
 simp only [ho]
 unfold wpList at h
 split
 ·rename_i hw
  rw [if_pos hw] at h
  rcases h with h | ⟨h, a', w', hq⟩
  ·refine .inl ?_
   unfold Oper.wp at h ⊢
   exact upon_Q hp h
  ·exact .inr ⟨h, a', w', hp _ _ _ (by simp) hq⟩
 ·rename_i hw
  rw [if_neg hw] at h
  exact h
theorem W.regany {id : Nat} {l0 : List Oper} {X : Type} (E : X → (Nat → Bool) → Env) (H : X → (Nat → Bool) → List Item) (x0 : (Nat → Value) → X) (hm : P.follows .mixedOrders = true) (hb : backB l0.toArray = true) (hC : ∀ w, C w → C { w with drawn := w.drawn + 1 })
  (h0 : ∀ old, SubO l n old (E (x0 old) (fun _ => false))) (hc0 : ∀ old w, C w → Cls (H (x0 old) (fun _ => false)) S w)
  (step : ∀ x e i o, l0[i]? = some o → e i = false → (∀ d ∈ o.after, Region.binds .any d = true → e d.on = true) → Closed l0 e → OL P n l0.toArray (Beside n S E H (upd e i) Q) [o] (E x e) (Cls (H x e) S))
  (fin : ∀ x e, (∀ i, i < l0.length → e i = true) → At n Q .normal (E x e) (Cls (H x e) S)) : W P n (.region id l0.toArray true) Q l C := ⟨fun a w hs hc => by
 refine wp_region_any hm (wpAny_inv hb (fun e a w => Closed l0 e ∧ ∃ x, Sees n (E x e) a ∧ Cls (H x e) S w) ?_ ?_ _ _ (fun _ => false) a _ ?_ (by simp) ?_ ⟨fun j o _ h => (by cases h), x0 (fun t => (a.tmps[t]?).getD undef), hs.subO (fun t ht => (by rw [Array.getElem?_eq_getElem (by rw [hs.sz]; exact ht)]; rfl)) (h0 _), hc0 _ _ (hC w hc)⟩)
 ·rintro e i o a w ⟨hcl, x, hs, hc⟩ ho hei hd
  have ho' : l0[i]? = some o := by simpa using ho
  exact wpOp_mono (fun a w h => ⟨hcl.upd ho' hd, h⟩) (wpOp_of_one (by simpa using ho) ((step x e i o ho' hei hd hcl).run a w hs hc))
 ·rintro e a w ⟨_, x, hs, hc⟩ hall
  exact (fin x e (fun i hi => hall i (by simpa using hi))).run a w hs hc
 ·intro i hi
  simp at hi
  simp [hi]
 ·have : ∀ n, cnt (fun _ => false) n = n := by
   intro n; induction n with
   | zero => rfl
   | succ n ih => rw [cnt, ih]; rfl
  rw [this]⟩
end
def nothing : Item := ⟨fun _ => False, fun _ => True, fun _ _ _ _ => trivial⟩
theorem NotOwned.nothing {H : List Item} {k : Nat} (r : NotOwned H k) : NotOwned (Eng.nothing :: H) k := NotOwned.any (fun h => h) r
theorem NotOwned.bif {c : Bool} {i j : Item} {H : List Item} {k : Nat} (hi : NotOwned [i] k) (hj : NotOwned [j] k) (r : NotOwned H k) : NotOwned ((bif c then i else j) :: H) k := by
 refine NotOwned.any (fun h => ?_) r
 cases c
 ·exact hj.not ⟨j, by simp, h⟩
 ·exact hi.not ⟨i, by simp, h⟩
theorem Hole.parts {p : Nat} {H : List Item} {i : Item} {F : Item → List Item} (h : Hole p H i F) : ∃ H1 H2, H = H1 ++ i :: H2 ∧ ∀ j, F j = H1 ++ j :: H2 := by
 induction h with
 | z => exact ⟨[], _, rfl, fun j => rfl⟩
 | s h ih =>
  obtain ⟨H1, H2, h1, h2⟩ := ih
  exact ⟨_ :: H1, H2, by rw [h1]; rfl, fun j => by show _ :: _ = _; rw [h2 j]; rfl⟩
theorem Cls.fill {p : Nat} {H : List Item} {S : List World} {j : Item} {F : Item → List Item} {w : World} (hh : Hole p H nothing F) (h : Cls (j :: H) S w) : Cls (F j) S w := by
 obtain ⟨H1, H2, rfl, hF⟩ := hh.parts
 rw [hF]
 have hsub : ∀ i, i ∈ H1 ++ j :: H2 → i ∈ j :: (H1 ++ nothing :: H2) := fun i hi => by
  simp only [List.mem_append, List.mem_cons] at hi ⊢
  rcases hi with h | h | h
  ·exact .inr (.inl h)
  ·exact .inl h
  ·exact .inr (.inr (.inr h))
 have hd := h.dj
 rw [List.pairwise_cons, List.pairwise_append, List.pairwise_cons] at hd
 obtain ⟨hj, h1, ⟨_, h2⟩, h12⟩ := hd
 refine ⟨fun i hi => h.holds i (hsub i hi), fun i hi => h.lt i (hsub i hi), ?_, fun s hs => (h.kp s hs).mono fun k _ ⟨i, hi, hk⟩ => ?_⟩
 ·rw [List.pairwise_append, List.pairwise_cons]
  refine ⟨h1, ⟨fun b hb => hj b (by simp [hb]), h2⟩, fun a ha b hb => ?_⟩
  rcases List.mem_cons.1 hb with rfl | hb
  ·exact fun k hk hk' => hj a (by simp [ha]) k hk' hk
  ·exact h12 a ha b (by simp [hb])
 ·simp only [List.mem_cons, List.mem_append] at hi
  rcases hi with rfl | h | rfl | h
  ·exact ⟨_, by simp, hk⟩
  ·exact ⟨i, by simp [h], hk⟩
  ·exact hk.elim
  ·exact ⟨i, by simp [h], hk⟩
theorem Cls.add_nothing {H : List Item} {S : List World} {w : World} (h : Cls H S w) : Cls (H ++ [nothing]) S w := by
 refine ⟨fun i hi => ?_, fun i hi => ?_, ?_, fun s hs => (h.kp s hs).mono fun k _ ⟨i, hi, hk⟩ => ⟨i, by simp [hi], hk⟩⟩
 ·rcases List.mem_append.1 hi with h' | h'
  ·exact h.holds i h'
  ·rw [List.mem_singleton.1 h']; trivial
 ·rcases List.mem_append.1 hi with h' | h'
  ·exact h.lt i h'
  ·rw [List.mem_singleton.1 h']; exact fun k hk => hk.elim
 ·rw [List.pairwise_append]
  exact ⟨h.dj, List.pairwise_singleton _ _, fun a _ b hb k _ hk => by rw [List.mem_singleton.1 hb] at hk; exact hk⟩
end Go.Eng

/- More rules: what a class tells, calls of function values that change the class, a store into a grown row, forgetting ahead of an unknown rest. General. No condition. -/
namespace Go.Eng
open Go.RowKit
section
variable {P : Program} {n : Nat} {l : Env} {H : List Item} {S : List World} {C : World → Prop} {c : Bool} {d : Option Nat} {ty : TypeId} {pos : String} {af : Array Edge} {g : Option (Nat × Bool)}
variable {ops : Array Oper} {rest : List Oper} {Q : Exit → Act → World → Prop} {t : TypeId} {x y z : Operand} {cx cy cz : Bool}
theorem W.fact {code : Code} {φ : Prop} (h : ∀ w, C w → φ) (k : φ → W P n code Q l C) : W P n code Q l C := ⟨fun a w hs hc => (k (h w hc)).run a w hs hc⟩
theorem OL.fact {φ : Prop} (h : ∀ w, C w → φ) (k : φ → OL P n ops Q rest l C) : OL P n ops Q rest l C := ⟨fun a w hs hc => (k (h w hc)).run a w hs hc⟩
theorem At.fact {e : Exit} {φ : Prop} (h : ∀ w, C w → φ) (k : φ → At n Q e l C) : At n Q e l C := ⟨fun a w hs hc => (k (h w hc)).run a w hs hc⟩
theorem OL.sub {l' : Env} {C' : World → Prop} (hs : Sub l l') (hc : ∀ w, C w → C' w) (h : OL P n ops Q rest l' C') : OL P n ops Q rest l C := ⟨fun a w s c => h.run a w (s.sub hs) (hc w c)⟩
theorem OL.callvE {α : Type} (V : α → Value) (Φ : α → Prop) (C' : α → World → Prop) {f : FuncId} {first cap : List Value} {args : List Operand} {vs : List Value} {ats : Array TypeId} {dd : Nat} (hx : evl l x = some (true, .func (.func f) first.toArray cap.toArray)) (hn : Nat.ble (dd + 1) n = true) (hf : callable P f = true) (ha : Args l true args vs)
  (h : ∀ w, C w → Calls P f (first ++ vs ++ cap).toArray w fun e w' => ∃ u, e = .returned (V u) ∧ Φ u ∧ C' u w')
  (k : ∀ u, Φ u → OL P n ops Q rest ((dd, true, V u) :: l) (C' u)) : OL P n ops Q (⟨some dd, .call { callee := .value x, args := args.toArray, argTypes := ats }, ty, pos, af, none⟩ :: rest) l C := by
 have hn' := Nat.le_of_ble_eq_true hn
 refine ⟨fun a w hs hc => ?_⟩
 refine wpList_plain rfl fun K hK => ?_
 show Oper.upon P _ a K Q ((execOp a.eval _).run P w)
 rw [run_callv hf (hs.eval hx rfl)]
 show Calls P f _ w _
 rw [List.map_toArray, ha.map hs rfl]
 have h2 := h w hc
 simp only [List.append_toArray] at h2 ⊢
 refine h2.mono fun e w' ⟨u, he, hu, hr⟩ => ?_
 subst he
 exact hK _ _ ((k u hu).run _ w' (hs.put hn' true (V u)) hr)
theorem W.joinc {code r : Code} (l' : Env) (C' : World → Prop) (h1 : W P n code (Exit.then (fun a w => Sees n l' a ∧ C' w) Q) l C) (h2 : W P n r Q l' C') : W P n code (Exit.then (r.wp P Q) Q) l C :=
 ⟨fun a w hs hc => wp_mono (h1.run a w hs hc) fun e a' w' hq => by
  cases e with
  | normal => exact h2.run a' w' hq.1 hq.2
  | _ => exact hq⟩
theorem At.joined {l' : Env} {C' : World → Prop} (hs : Sub l l') (hc : ∀ w, C w → C' w) : At n (Exit.then (fun a w => Sees n l' a ∧ C' w) Q) .normal l C := ⟨fun a w s c => ⟨s.sub hs, hc w c⟩⟩
theorem Thin.same : ∀ {H : List Item}, Thin S H H
 | [] => .nil
 | _ :: _ => .keep Thin.same
theorem row_some {w : World} {base m cap size : Nat} {O : Nat → Prop} {q : Option Addr} {e : TypeId} {xs : List Value} (h : (row base O q m cap e size xs).holds w) (hm : 0 < m) : ∃ g0, q = some ⟨g0, 0, none⟩ := by
 rcases h.2.2 with ⟨h3, h4⟩ | ⟨g, cap', cur, h3, _⟩
 ·omega
 ·simp only [Value.slice.injEq] at h3
  exact ⟨g, h3.1⟩
theorem OL.cls {C' : World → Prop} (hc : ∀ w, C w → C' w) (h : OL P n ops Q rest l C') : OL P n ops Q rest l C := ⟨fun a w s c => h.run a w s (hc w c)⟩
theorem W.cls {code : Code} {C' : World → Prop} (hc : ∀ w, C w → C' w) (h : W P n code Q l C') : W P n code Q l C := ⟨fun a w s c => h.run a w s (hc w c)⟩
theorem Cls.perm {H' : List Item} {w : World} (h : Cls H S w) (hp : H.Perm H') : Cls H' S w :=
 ⟨fun i hi => h.holds i (hp.mem_iff.2 hi), fun i hi => h.lt i (hp.mem_iff.2 hi), (hp.pairwise_iff (fun {i j} hij k hj hi => hij k hi hj)).1 h.dj, fun s hs => (h.kp s hs).mono fun k _ ⟨i, hi, hk⟩ => ⟨i, hp.mem_iff.1 hi, hk⟩⟩
theorem Cls.last {w : World} {i : Item} (h : Cls (i :: H) S w) : Cls (H ++ [i]) S w := h.perm (List.perm_append_comm (l₁ := [i]))
theorem Cls.back2 {w : World} {i j k : Item} (h : Cls (i :: j :: k :: H) S w) : Cls (j :: k :: i :: H) S w := h.perm (List.Perm.append_right H (List.perm_append_comm (l₁ := [i]) (l₂ := [j, k])))
theorem Cls.flip {w : World} {i j : Item} (h : Cls (i :: j :: H) S w) : Cls (j :: i :: H) S w := h.perm (List.Perm.swap _ _ _)
theorem At.finC {fn : Func} {R : Ending → World → Prop} {tt b k : Nat} {t' : TypeId} {cs : List Value} (hr : fn.results = #[.cell tt ty]) (ht : look l tt = some (true, .pointer (some ⟨b, 0, none⟩))) (hp : blk b t' cs ∈ H) (hs : aggN P ty = some k) (hk : cs.length = k)
  (h : ∀ w, Cls H S w → R (.returned (.agg cs.toArray)) w) : At n (bodyPost P fn R) .ret l (Cls H S) :=
 ⟨fun a w hs' hc => ⟨hs'.df, .agg cs.toArray, by
  have h1 := hs'.at_ tt true _ ht
  have h2 := run_loadVar_agg (P := P) (t := ty) (vs := cs) (a := ⟨b, 0, none⟩) (w := w) (by rw [hk]; exact hs) (fun j v hj => by rw [add_mid, Nat.zero_add, blk_cell (hc.item hp)]; exact hj)
  simp [results, hr, Array.getD_eq_getD_getElem?, h1, asAddr, h2], h w hc⟩⟩
end
end Go.Eng
namespace Go.Eng
theorem g_mem {A : Prop} (h : A := by first | exact .head _ | exact .tail _ (.head _) | exact .tail _ (.tail _ (.head _)) | exact mau | assumption) : A := h
theorem g_c {A : Prop} (h : A := by first | exact yes | exact fun h => h | (intro h; simp_all; done)) : A := h
theorem g_gd {A : Prop} (h : A := by first | exact Guard.none | exact Guard.yes rfl rfl | exact Guard.no rfl rfl | exact Guard.cyes rfl rfl | exact Guard.cno rfl rfl) : A := h
theorem g_off {A : Prop} (h : A := by first | rfl | (focus (simp; done)) | (simp; omega) | (simp only [Bool.and_eq_false_iff, Bool.not_eq_false', decide_eq_true_eq, decide_eq_false_iff_not]; omega)) : A := h
theorem g_offc {A : Prop} (h : A := by first | (intro hcond; rfl) | (focus (intro hcond; simp; done)) | (intro hcond; simp; omega)) : A := h
theorem g_toi {A : Prop} (h : A := by first | rfl | (first | exact (Int.toNat_of_nonneg (by omega)).symm | omega)) : A := h
theorem g_lt {A : Prop} (h : A := by first | omega | (simp only [Bool.and_eq_true, Bool.or_eq_true, Bool.not_eq_true', decide_eq_true_eq, decide_eq_false_iff_not] at hcond; omega) | (simp only [Bool.and_eq_true, Bool.or_eq_true, Bool.not_eq_true', decide_eq_true_eq, decide_eq_false_iff_not] at *; omega)) : A := h
theorem g_kc {A : Prop} (h : A := by first | assumption | (refine CellsAt.at_ (hcellI ?_) rfl; exact g_lt) | (refine hcellI ?_; exact g_lt) | ((with_reducible apply hcellI); exact g_lt) | (with_reducible apply CellsAt.at_ (by assumption) rfl)) : A := h
theorem g_kl {A : Prop} (h : A := by first | assumption | (rw [add_block]; assumption) | (simp only [add_block]; assumption) | ((rw [add_block]; refine hblkI ?_); exact g_lt) | (simp only [add_block]; omega) | omega) : A := h
theorem g_no {A : Prop} (h : A := by first | exact NotOwned.au | (focus ((try simp only [add_block]); (repeat (first | exact NotOwned.nil | exact hno _ (by omega) | exact hnr _ (by omega) | refine NotOwned.any (hXn _ (by omega)) ?_ | refine NotOwned.blk (by omega) ?_ | refine NotOwned.row (by omega) ?_ | refine NotOwned.rws (by omega) ?_ | refine NotOwned.pile (by omega) ?_ | refine NotOwned.pool (by omega) ?_ | refine NotOwned.bag (by omega) ?_ | refine NotOwned.mapI (by omega) ?_ | apply NotOwned.bif | refine NotOwned.nothing ?_)); done))) : A := h
theorem g_hrw {A : Prop} (h : A := by first | (intro hcond; omega) | (intro hcond; simp only [Bool.and_eq_true, Bool.or_eq_true, Bool.not_eq_true', decide_eq_true_eq, decide_eq_false_iff_not] at *; omega)) : A := h
theorem g_nsome {A : Prop} (h : A := by first | assumption | (simp only [setNx_some, setPr_some]; assumption)) : A := h
theorem g_cells {A : Prop} (h : A := by first | exact CellsL.one rfl | exact CellsL.agg) : A := h
theorem g_binX {A : Prop} (h : A := by first | ((with_reducible apply Bin.lss_nof); assumption) | (with_reducible apply Bin.lss) | (with_reducible apply Bin.str_lss) | ((with_reducible apply Bin.eql_nof); assumption) | (with_reducible apply Bin.eql) | (with_reducible apply Bin.str_eql) | ((with_reducible apply Bin.bool_eql); rfl) | ((with_reducible apply Bin.slice_nil); rfl) | ((with_reducible apply Bin.ptr_nil); rfl) | (with_reducible apply Bin.leq) | (with_reducible apply Bin.gtr) | (with_reducible apply Bin.geq) | (with_reducible apply Bin.neq) | (with_reducible apply Bin.str_neq) | ((with_reducible apply Bin.bool_neq); rfl) | ((with_reducible apply Bin.slice_nnil); rfl) | ((with_reducible apply Bin.ptr_nnil); rfl) | ((with_reducible apply Bin.func_nnil); rfl) | ((with_reducible apply Bin.func_nnil0); rfl) | (with_reducible apply Bin.and) | (with_reducible apply Bin.or) | (with_reducible apply Bin.xor) | (with_reducible apply Bin.andNot) | ((with_reducible apply Go.Pk.addE); (simp only [List.length_cons, List.length_nil, List.length_append]; omega)) | ((with_reducible apply Bin.add_in); omega) | ((with_reducible apply Bin.str_add); omega) | (with_reducible apply Bin.add) | ((with_reducible apply Bin.sub_in); omega) | (with_reducible apply Bin.sub) | ((with_reducible apply Bin.mul_in); omega) | (with_reducible apply Bin.mul) | ((with_reducible apply Bin.rem_in); omega) | ((with_reducible apply Bin.rem); omega) | ((with_reducible apply Bin.quo_in); omega) | ((with_reducible apply Bin.quo); omega) | ((with_reducible apply Bin.shl); decide) | ((with_reducible apply Bin.shlW); rfl; omega) | ((with_reducible apply Bin.shr); decide) | ((with_reducible apply Bin.shr64); rfl; omega) | ((with_reducible apply Bin.shrW); rfl; omega)) : A := h
theorem g_pev {A : Prop} (h : A := by first | with_reducible exact Pev.no | ((with_reducible apply Pev.bin); rfl; exact g_c; rfl; exact g_c; intro hcond; exact g_binX) | ((with_reducible apply Pev.move); rfl; exact g_c) | ((with_reducible apply Pev.assign); rfl; exact g_c) | ((with_reducible apply Pev.pick_and); rfl; exact g_c; rfl; exact g_c) | ((with_reducible apply Pev.pick_or); rfl; exact g_c; rfl; exact g_c) | ((with_reducible apply Pev.fld); rfl; exact g_c; rfl) | ((with_reducible apply Pev.fldA); rfl; exact g_c; rfl) | ((with_reducible apply Pev.load_blk); rfl; exact g_c; exact g_mem; rfl; rfl) | ((with_reducible apply Pev.load_blkA); rfl; exact g_c; exact g_mem; rfl; exact Take.au) | ((with_reducible apply Pev.load_blk); rfl; exact g_c; exact g_mem; rfl; assumption) | ((with_reducible apply Pev.nd_neq); rfl; exact g_c; rfl; exact g_c; rfl; exact g_mem; exact g_nsome; exact g_nsome) | ((with_reducible apply Pev.lookup_in); rfl; exact g_c; rfl; exact g_c; rfl; rfl; exact g_mem; assumption) | ((with_reducible apply Pev.lookup_no); rfl; exact g_c; rfl; exact g_c; rfl; rfl; exact g_mem; assumption) | ((with_reducible apply Pev.lookup_o); rfl; exact g_c; rfl; exact g_c; rfl; rfl; exact g_mem; assumption) | ((with_reducible apply Pev.clookup); rfl; exact g_c; rfl; exact g_c; rfl; rfl; exact g_mem) | ((with_reducible apply Pev.slookup2); rfl; exact g_c; rfl; exact g_c; rfl; rfl; exact g_mem) | ((with_reducible apply Pev.load_nd); rfl; exact g_c; exact g_mem; rfl; assumption; rfl) | ((with_reducible apply Pev.load_kept); rfl; exact g_c; exact g_mem; rfl; intro hcond; exact g_kc; intro hcond; exact g_kl; intro hcond; exact g_no) | ((with_reducible apply Pev.load_keptA); rfl; exact g_c; exact g_mem; rfl; intro hcond; exact g_kc; rfl; intro hcond; exact g_kl; intro hcond; exact g_no) | ((with_reducible apply Pev.load_kept); rfl; exact g_c; exact .tail _ (.head _); rfl; intro hcond; exact g_kc; intro hcond; exact g_kl; intro hcond; exact g_no) | ((with_reducible apply Pev.load_keptA); rfl; exact g_c; exact .tail _ (.head _); rfl; intro hcond; exact g_kc; rfl; intro hcond; exact g_kl; intro hcond; exact g_no) | ((with_reducible apply Pev.load_kept); rfl; exact g_c; exact .tail _ (.tail _ (.head _)); rfl; intro hcond; exact g_kc; intro hcond; exact g_kl; intro hcond; exact g_no) | ((with_reducible apply Pev.load_keptA); rfl; exact g_c; exact .tail _ (.tail _ (.head _)); rfl; intro hcond; exact g_kc; rfl; intro hcond; exact g_kl; intro hcond; exact g_no) | ((with_reducible apply Pev.load_kept); rfl; exact g_c; exact .tail _ (.tail _ (.tail _ (.head _))); rfl; intro hcond; exact g_kc; intro hcond; exact g_kl; intro hcond; exact g_no) | ((with_reducible apply Pev.load_keptA); rfl; exact g_c; exact .tail _ (.tail _ (.tail _ (.head _))); rfl; intro hcond; exact g_kc; rfl; intro hcond; exact g_kl; intro hcond; exact g_no) | ((with_reducible apply Pev.load_kept); rfl; exact g_c; exact .tail _ (.tail _ (.tail _ (.tail _ (.head _)))); rfl; intro hcond; exact g_kc; intro hcond; exact g_kl; intro hcond; exact g_no) | ((with_reducible apply Pev.load_keptA); rfl; exact g_c; exact .tail _ (.tail _ (.tail _ (.tail _ (.head _)))); rfl; intro hcond; exact g_kc; rfl; intro hcond; exact g_kl; intro hcond; exact g_no) | ((with_reducible apply Pev.load_row); rfl; exact g_c; exact g_mem; rfl; assumption) | ((with_reducible apply Pev.load_f1); rfl; exact g_c; rfl; exact fun _ w' hw' => hp0 w' (hw'.item mau) _ _ rfl) | ((with_reducible apply Pev.load_f1); rfl; exact g_c; rfl; exact fun _ w' hw' => hp0 w' (hw'.item mau) 0 _ rfl) | ((with_reducible apply Pev.load_f1); rfl; exact g_c; rfl; exact fun _ w' hw' => hp0 w' (hw'.item mau) 1 _ rfl) | ((with_reducible apply Pev.load_f1); rfl; exact g_c; rfl; exact fun _ w' hw' => hp0 w' (hw'.item mau) 2 _ rfl) | ((with_reducible apply Pev.load_fa); rfl; exact g_c; rfl; exact fun _ w' hw' => hp0 w' (hw'.item mau); rfl) | ((with_reducible apply Pev.load_f1); rfl; exact g_c; rfl; exact fun _ w' hw' => hp1 w' (hw'.item mau) 0 _ rfl) | ((with_reducible apply Pev.load_f1); rfl; exact g_c; rfl; exact fun _ w' hw' => hp1 w' (hw'.item mau) 1 _ rfl) | ((with_reducible apply Pev.load_f1); rfl; exact g_c; rfl; exact fun _ w' hw' => hp1 w' (hw'.item mau) 2 _ rfl) | ((with_reducible apply Pev.load_fa); rfl; exact g_c; rfl; exact fun _ w' hw' => hp1 w' (hw'.item mau); rfl) | ((with_reducible apply Pev.load_f1); rfl; exact g_c; rfl; exact fun _ w' hw' => hp2 w' (hw'.item mau) 0 _ rfl) | ((with_reducible apply Pev.load_f1); rfl; exact g_c; rfl; exact fun _ w' hw' => hp2 w' (hw'.item mau) 1 _ rfl) | ((with_reducible apply Pev.load_f1); rfl; exact g_c; rfl; exact fun _ w' hw' => hp2 w' (hw'.item mau) 2 _ rfl) | ((with_reducible apply Pev.load_fa); rfl; exact g_c; rfl; exact fun _ w' hw' => hp2 w' (hw'.item mau); rfl) | ((with_reducible apply Pev.load_rowC); rfl; exact g_c; exact g_mem; rfl; exact fun _ => rfl; (intro hcond; assumption); rfl; exact g_hrw) | ((with_reducible apply Pev.load_rowE); rfl; exact g_c; exact g_mem; rfl; exact fun _ => rfl; (intro hcond; assumption); exact g_hrw) | ((with_reducible apply Pev.field); rfl; exact g_c; rfl; rfl) | ((with_reducible apply Pev.extract); rfl; exact g_c; rfl) | ((with_reducible apply Pev.nil_ptr); rfl; exact g_c) | ((with_reducible apply Pev.len_slice); rfl; exact g_c; rfl) | ((with_reducible apply Pev.len_str); rfl; exact g_c; rfl) | ((with_reducible apply Pev.idxB); rfl; exact g_c; rfl; exact g_c; rfl; intro hcond; exact g_lt; rfl) | ((with_reducible apply Pev.idx); rfl; exact g_c; rfl; exact g_c; rfl; rfl; intro hcond; exact g_lt) | ((with_reducible apply Pev.idxArr); rfl; exact g_c; rfl; exact g_c; rfl; intro hcond; exact g_lt; rfl) | ((with_reducible apply Pev.idxI); rfl; exact g_c; rfl; exact g_c; rfl; intro hcond; exact g_lt) | ((with_reducible apply Pev.not); rfl; exact g_c) | ((with_reducible apply Pev.neg_in); rfl; exact g_c; omega) | ((with_reducible apply Pev.neg); rfl; exact g_c) | ((with_reducible apply Pev.conv_int); rfl; exact g_c; rfl; rfl) | ((with_reducible apply Pev.build); rfl; exact g_cells; rfl; exact Fill.au; rfl) | ((with_reducible apply Pev.buildArr); rfl; exact g_cells; rfl; exact Fill.au; rfl) | ((with_reducible apply Pev.sliceArr); rfl; exact g_c; rfl; rfl) | ((with_reducible apply Pev.slice_hi); rfl; exact g_c; rfl; exact g_c; rfl; rfl; intro hcond; exact g_lt) | ((with_reducible apply Pev.slice_hi); rfl; exact g_c; rfl; exact g_c; rfl; exact g_toi; intro hcond; exact g_lt) | ((with_reducible apply Pev.slice_hm); rfl; exact g_c; rfl; exact g_c; rfl; exact g_c; rfl; rfl; rfl; intro hcond; exact g_lt) | ((with_reducible apply Pev.slice_lo); rfl; exact g_c; rfl; exact g_c; rfl; exact g_toi; intro hcond; exact g_lt) | ((with_reducible apply Pev.slice_lh); rfl; exact g_c; rfl; exact g_c; rfl; exact g_c; rfl; exact g_toi; exact g_toi; intro hcond; exact g_lt) | ((with_reducible apply Pev.slice_lhm); rfl; exact g_c; rfl; exact g_c; rfl; exact g_c; rfl; exact g_c; rfl; exact g_toi; exact g_toi; exact g_toi; intro hcond; exact g_lt) | ((with_reducible apply Go.Pk.sliceE); rfl; exact g_c; rfl; exact g_c; rfl) | ((with_reducible apply Go.Pk.sliceE1); rfl; exact g_c; rfl; exact g_c; rfl) | ((with_reducible apply Pev.slice_str_lo); rfl; exact g_c; rfl; exact g_c; rfl; (intro hcond; refine ⟨rfl, ?_⟩); exact g_lt) | ((with_reducible apply Pev.slice_str_hi); rfl; exact g_c; rfl; exact g_c; rfl; (intro hcond; refine ⟨rfl, ?_⟩); exact g_lt) | ((with_reducible apply Go.Pk.indexE); rfl; exact g_c; rfl; exact g_c; rfl) | ((with_reducible apply Pev.min2); rfl; exact g_c; rfl; exact g_c) | ((with_reducible apply Pev.max2); rfl; exact g_c; rfl; exact g_c) | ((with_reducible apply Pev.makeFunc); exact Args.au; exact Args.au) | ((with_reducible apply Pev.index_str); rfl; exact g_c; rfl; exact g_c; rfl; (intro hcond; refine ⟨rfl, ?_⟩); exact g_lt) | ((with_reducible apply Pev.pick_off); rfl; exact g_c; exact g_offc; rfl; exact g_c) | ((with_reducible apply Pev.pick_on); rfl; exact g_c; exact g_offc; rfl; exact g_c)) : A := h
structure Hid (K : Prop) : Prop where
 k : K
theorem zgs {A K : Prop} (k : K) (h : Hid K → A := by (intro k; (repeat (first | ((with_reducible apply omv); rfl; rfl) | ((with_reducible apply oas); rfl; rfl) | ((with_reducible apply obn); rfl; rfl; rfl; exact g_binX) | ((with_reducible apply ofa); rfl; rfl; rfl) | ((with_reducible apply old); rfl; rfl; exact g_mem; rfl; rfl) | ((with_reducible apply qmv); rfl; rfl) | ((with_reducible apply qas); rfl; rfl) | ((with_reducible apply qbn); rfl; rfl; rfl; exact g_binX) | ((with_reducible apply qfa); rfl; rfl; rfl) | ((with_reducible apply qld); rfl; rfl; exact g_mem; rfl; rfl) | ((with_reducible apply oex); rfl; rfl; rfl) | (with_reducible apply OL.nil) | (with_reducible apply QL.nil) | with_reducible apply At.next | with_reducible apply At.then_ret | with_reducible apply At.then_exit | with_reducible apply At.in_ret | with_reducible apply At.in_normal | with_reducible apply At.in_exit | (with_reducible apply W.seq) | (with_reducible apply W.reg) | (with_reducible apply W.block) | (with_reducible apply W.skip) | (with_reducible apply W.exit) | (with_reducible apply W.ret) | (with_reducible apply W.label) | ((with_reducible apply At.in_other); rfl) | with_reducible apply QL.tail | with_reducible apply QL.rg | with_reducible apply At.rn | (with_reducible apply ZL.nil) | (with_reducible apply ZL.nilC) | (with_reducible apply TL.nil) | (with_reducible apply TL.one rfl) | ((with_reducible apply ZL.ld rfl); exact g_gd; rfl; rfl; exact g_pev) | ((with_reducible apply ZL.op rfl); exact g_gd; rfl; rfl; exact g_pev) | (with_reducible apply At.tn; decide +kernel) | (with_reducible apply At.tk; exact fun w hw => hw) | (refine At.tk (fun w hw => hw.thin ?_) ?_; exact Thin.au) | with_reducible apply At.np | ((with_reducible apply OL.storeNx); rfl; rfl; rfl; exact Hole.au; exact g_nsome) | ((with_reducible apply OL.storePr); rfl; rfl; rfl; exact Hole.au; exact g_nsome) | ((with_reducible apply OL.storeB); rfl; rfl; exact g_cells; rfl; rfl; rfl; exact Swap.au; exact Put.au) | ((with_reducible apply OL.iput); rfl; rfl; rfl; rfl; exact Hole.au) | ((with_reducible apply OL.mapPut); rfl; rfl; rfl; rfl; exact Hole.au; assumption) | ((with_reducible apply OL.mapDel); rfl; rfl; rfl; exact Hole.au; assumption) | ((with_reducible apply OL.op); exact g_gd; rfl; rfl; exact g_pev) | ((with_reducible apply QL.op); exact g_gd; rfl; rfl; exact g_pev) | ((with_reducible apply OL.gateOff); exact g_gd; exact g_off; rfl) | ((with_reducible apply QL.gateOff); exact g_gd; exact g_off; rfl))); exact k.k)) : A := h ⟨k⟩
theorem zgw {A K : Prop} (k : K) (h : Hid K → A := by (intro k; (repeat (first | refine W.no ?_ | refine W.yes ?_ | refine W.noR ?_ | refine W.yesR ?_ | refine W.cT ?_ | refine W.cF ?_ | ((with_reducible apply omv); rfl; rfl) | ((with_reducible apply oas); rfl; rfl) | ((with_reducible apply obn); rfl; rfl; rfl; exact g_binX) | ((with_reducible apply ofa); rfl; rfl; rfl) | ((with_reducible apply old); rfl; rfl; exact g_mem; rfl; rfl) | ((with_reducible apply qmv); rfl; rfl) | ((with_reducible apply qas); rfl; rfl) | ((with_reducible apply qbn); rfl; rfl; rfl; exact g_binX) | ((with_reducible apply qfa); rfl; rfl; rfl) | ((with_reducible apply qld); rfl; rfl; exact g_mem; rfl; rfl) | ((with_reducible apply oex); rfl; rfl; rfl) | (with_reducible apply OL.nil) | (with_reducible apply QL.nil) | with_reducible apply At.next | with_reducible apply At.then_ret | with_reducible apply At.then_exit | with_reducible apply At.in_ret | with_reducible apply At.in_normal | with_reducible apply At.in_exit | (with_reducible apply W.seq) | (with_reducible apply W.reg) | (with_reducible apply W.block) | (with_reducible apply W.skip) | (with_reducible apply W.exit) | (with_reducible apply W.ret) | (with_reducible apply W.label) | ((with_reducible apply At.in_other); rfl) | with_reducible apply QL.tail | with_reducible apply QL.rg | with_reducible apply At.rn | (with_reducible apply ZL.nil) | (with_reducible apply ZL.nilC) | (with_reducible apply TL.nil) | (with_reducible apply TL.one rfl) | ((with_reducible apply ZL.ld rfl); exact g_gd; rfl; rfl; exact g_pev) | ((with_reducible apply ZL.op rfl); exact g_gd; rfl; rfl; exact g_pev) | (with_reducible apply At.tn; decide +kernel) | (with_reducible apply At.tk; exact fun w hw => hw) | (refine At.tk (fun w hw => hw.thin ?_) ?_; exact Thin.au) | with_reducible apply At.np | ((with_reducible apply OL.storeNx); rfl; rfl; rfl; exact Hole.au; exact g_nsome) | ((with_reducible apply OL.storePr); rfl; rfl; rfl; exact Hole.au; exact g_nsome) | ((with_reducible apply OL.storeB); rfl; rfl; exact g_cells; rfl; rfl; rfl; exact Swap.au; exact Put.au) | ((with_reducible apply OL.iput); rfl; rfl; rfl; rfl; exact Hole.au) | ((with_reducible apply OL.mapPut); rfl; rfl; rfl; rfl; exact Hole.au; assumption) | ((with_reducible apply OL.mapDel); rfl; rfl; rfl; exact Hole.au; assumption) | ((with_reducible apply OL.op); exact g_gd; rfl; rfl; exact g_pev) | ((with_reducible apply QL.op); exact g_gd; rfl; rfl; exact g_pev) | ((with_reducible apply OL.gateOff); exact g_gd; exact g_off; rfl) | ((with_reducible apply QL.gateOff); exact g_gd; exact g_off; rfl))); exact k.k)) : A := h ⟨k⟩
theorem zen {A K : Prop} (k : K) (h : Hid K → A := by (intro k; simp only [argEnv, Nat.zero_add, Nat.reduceAdd]; exact k.k)) : A := h ⟨k⟩
theorem zfn {A K : Prop} (k : K) (h : Hid K → A := by (intro k; (first | ((with_reducible apply At.fin1); rfl; rfl) | ((with_reducible apply At.fin2); rfl; rfl; rfl) | ((with_reducible apply At.fin3); rfl; rfl; rfl; rfl)); exact k.k)) : A := h ⟨k⟩
theorem zwx {P A : Prop} (h : P) (g : P → A := by (intro h; exfalso; first | omega | exact h trivial | contradiction)) : A := g h
end Go.Eng

/- Grown rows of structs: their elements read in place, the last ones taken away. General. No condition. -/
namespace Go.Eng
open Go.RowKit
section
variable {P : Program} {n : Nat} {l : Env} {C : World → Prop} {Q : Exit → Act → World → Prop}
theorem W.joinx {G : Type} {code r : Code} (Φ : G → Prop) (lg : G → Env) (Cg : G → World → Prop) (h1 : W P n code (Exit.then (fun a w => ∃ g, Φ g ∧ Sees n (lg g) a ∧ Cg g w) Q) l C) (h2 : ∀ g, Φ g → W P n r Q (lg g) (Cg g)) : W P n code (Exit.then (r.wp P Q) Q) l C :=
 ⟨fun a w hs hc => wp_mono (h1.run a w hs hc) fun e a' w' hq => by
  cases e with
  | normal =>
   obtain ⟨g, hg, hs', hc'⟩ := hq
   exact (h2 g hg).run a' w' hs' hc'
  | _ => exact hq⟩
theorem At.joinedx {G : Type} {Φ : G → Prop} {lg : G → Env} {Cg : G → World → Prop} (g : G) (hg : Φ g) (hs : Sub l (lg g)) (hc : ∀ w, C w → Cg g w) : At n (Exit.then (fun a w => ∃ g, Φ g ∧ Sees n (lg g) a ∧ Cg g w) Q) .normal l C := ⟨fun a w s c => ⟨g, hg, s.sub hs, hc w c⟩⟩
end
theorem row_cap {w : World} {base m cap size : Nat} {O : Nat → Prop} {q : Option Addr} {e : TypeId} {xs : List Value} (h : (row base O q m cap e size xs).holds w) : m ≤ cap := by
 rcases h.2.2 with ⟨h3, h4⟩ | ⟨g, cap', cur, h3, _, _, hn, _⟩
 ·omega
 ·simp only [Value.slice.injEq] at h3
  omega
theorem Cls.rowPop {p : Nat} {H : List Eng.Item} {S : List World} {w : World} {base m cap size : Nat} {O : Nat → Prop} {q : Option Addr} {e : TypeId} {xs : List Value} {F : Eng.Item → List Eng.Item} (m' : Nat) (xs' : List Value) (hh : Hole p H (row base O q m cap e size xs) F) (hm : m' ≤ m) (hx : xs' = xs.take (m' * size)) (h : Cls H S w) : Cls (F (row base O q m' cap e size xs')) S w := by
 obtain ⟨h1, h2⟩ := hh.eq
 rw [h2]
 refine h.turn p h1 (Keep.refl _ _) ?_ (fun k hk => ⟨.inl hk, ?_⟩) (fun k hk => hk)
 ·have hi := h.holds _ (List.mem_of_getElem? h1)
  obtain ⟨ha, hb, hc⟩ := hi
  refine ⟨ha, ?_, ?_⟩
  ·rw [hx, List.length_take, hb]
   exact Nat.min_eq_left (Nat.mul_le_mul_right _ hm)
  ·rcases hc with ⟨hv, hn⟩ | ⟨g, cap2, cur, hv, hg, hh2, hn, hc2, hs, ht⟩
   ·simp only [Value.slice.injEq] at hv
    obtain ⟨rfl, _, rfl⟩ := hv
    exact .inl ⟨by rw [show m' = 0 by omega], by omega⟩
   ·simp only [Value.slice.injEq] at hv
    obtain ⟨rfl, _, rfl⟩ := hv
    refine .inr ⟨g, _, cur, rfl, hg, hh2, by omega, hc2, hs, ?_⟩
    rw [hx, ← ht, List.take_take, Nat.min_eq_left (Nat.mul_le_mul_right _ hm)]
 ·exact h.lt _ (List.mem_of_getElem? h1) k hk
theorem Cls.out3 {H : List Eng.Item} {S : List World} {w : World} {i a b c : Eng.Item} (h : Cls (a :: b :: c :: i :: H) S w) : Cls (i :: a :: b :: c :: H) S w := h.perm (List.Perm.append_right H (List.perm_append_comm (l₁ := [a, b, c]) (l₂ := [i])))
def fieldT (P : Program) (t : TypeId) (i : Nat) : Option (TypeId × Nat) := match P.underlying t with
 | some (.struct fs) => match fs[i]? with
  | some f => match lit f.offset with
   | some o => match scalB P f.type with
    | true => some (f.type, o)
    | false => none
   | none => none
  | none => none
 | _ => none
section
variable {P : Program} {n : Nat} {l : Env} {H : List Item} {S : List World} {C : World → Prop} {c : Bool} {d : Option Nat} {ty : TypeId} {pos : String} {af : Array Edge} {g : Option (Nat × Bool)} {t : TypeId} {x : Operand} {cx : Bool}
variable {α : Type} {f : α → List Value} {sz : Nat}
theorem Pev.pick_off {x y z : Operand} {cx cz b : Bool} {v : Value} (hx : evl l x = some (cx, .bool b)) (hc : c = true → cx = true) (hb : c = true → b = false) (hz : evl l z = some (cz, v)) (hcz : c = true → cz = true) : Pev P n l C ⟨d, .pick x y z, ty, pos, af, g⟩ c v :=
 .of_run fun h a w hs hw => by
  rw [run_pick (hs.eval hx (hc h)), hb h, cond_false, hs.eval hz (hcz h)]
theorem Pev.pick_on {x y z : Operand} {cx cy b : Bool} {v : Value} (hx : evl l x = some (cx, .bool b)) (hc : c = true → cx = true) (hb : c = true → b = true) (hy : evl l y = some (cy, v)) (hcy : c = true → cy = true) : Pev P n l C ⟨d, .pick x y z, ty, pos, af, g⟩ c v :=
 .of_run fun h a w hs hw => by
  rw [run_pick (hs.eval hx (hc h)), hb h, cond_true, hs.eval hy (hcy h)]
theorem Pev.field {i o : Nat} {ft : TypeId} {cs : List Value} {v : Value} (hx : evl l x = some (cx, .agg cs.toArray)) (hcx : c = true → cx = true) (hf : fieldT P t i = some (ft, o)) (hv : cs[o]? = some v) : Pev P n l C ⟨d, .field t x i, ty, pos, af, g⟩ c v :=
 .of_run fun h a w hs hw => by
  unfold fieldT at hf
  cases hu : P.underlying t with
  | none => simp [hu] at hf
  | some dd =>
   rw [hu] at hf
   cases dd <;> simp only [reduceCtorEq] at hf
   rename_i fs
   cases hi : fs[i]? with
   | none => simp [hi] at hf
   | some f =>
    simp only [hi] at hf
    cases ho : lit f.offset with
    | none => simp [ho] at hf
    | some o' =>
     simp only [ho] at hf
     cases hb : scalB P f.type with
     | false => simp [hb] at hf
     | true =>
      simp only [hb] at hf
      simp only [Option.some.injEq, Prod.mk.injEq] at hf
      obtain ⟨_, rfl⟩ := hf
      have h2 := lit_eq ho
      simp [execOp, Instr.field, Sem.run_bind, run_underlying hu, hs.eval hx (hcx h), hi, asAgg, part, run_isAgg_scal hb, h2, hv]
end
end Go.Eng

/- A pile of slices: rows that are finished, with the blocks that they own. General. No condition. -/
namespace Go.Eng
open Go.RowKit
structure Sl where
 q : Option Addr
 cap : Nat
 xs : List Value
theorem cell_heap {w w' : World} {a : Addr} (h : w'.heap[a.block]? = w.heap[a.block]?) : w'.cell? a = w.cell? a := by
 unfold World.cell?
 rw [h]
def pile (B : Nat) (O : Nat → Prop) (L : List Sl) : Item :=
 ⟨fun k => B ≤ k ∧ O k, fun w => ∀ s ∈ L, 0 < s.xs.length → ∃ a, s.q = some a ∧ (B ≤ a.block ∧ O a.block) ∧ CellsAt w a s.xs, fun w w' hk h s hs hl => by
  obtain ⟨a, h1, h2, h3⟩ := h s hs hl
  exact ⟨a, h1, h2, fun j v hj => by rw [cell_heap (w := w) (hk _ (by rw [add_block]; exact h2))]; exact h3 j v hj⟩⟩
theorem NotOwned.pile {H : List Item} {B k : Nat} {O : Nat → Prop} {L : List Sl} (h : k < B) (r : NotOwned H k) : NotOwned (Eng.pile B O L :: H) k := NotOwned.any (fun ho => Nat.not_le_of_lt h ho.1) r
section
variable {P : Program} {n : Nat} {l : Env} {H : List Item} {S : List World} {C : World → Prop} {c : Bool} {d : Option Nat} {ty : TypeId} {pos : String} {af : Array Edge} {g : Option (Nat × Bool)}
variable {t : TypeId} {x : Operand} {cx : Bool}
theorem Pev.load_pile {a : Addr} {k B : Nat} {O : Nat → Prop} {L : List Sl} {s : Sl} {v : Value} (hx : evl l x = some (cx, .pointer (some (a.add k)))) (hcx : c = true → cx = true) (hp : pile B O L ∈ H) (hs : scalB P t = true)
  (hL : s ∈ L) (hq : s.q = some a) (hv : s.xs[k]? = some v) : Pev P n l (Cls H S) ⟨d, .load t x, ty, pos, af, g⟩ c v :=
 .load_of hx hcx fun _ w hw => run_loadVar_scal hs (by
  obtain ⟨a', h1, _, h3⟩ := hw.item hp s hL (by have := (List.getElem?_eq_some_iff.1 hv).1; omega)
  rw [hq] at h1
  obtain rfl := Option.some.inj h1
  exact h3 k v hv)
end
end Go.Eng

/- Readings as relations: nested structs and slices as plain data, wherever they lie; items for memory that is finished. General. No condition. -/
namespace Go.Eng
open Go.RowKit Go.ChangeShapes Go.WideShapes Go.ChangeAt
structure Rel (α μ : Type) where
 sz : Nat
 pos : 0 < sz
 cells : α → μ → List Value
 ok : World → (Nat → Prop) → α → μ → Prop
 len : ∀ x y, (cells x y).length = sz
 stab : ∀ {w w' : World} {O : Nat → Prop} {x y}, (∀ k, O k → w'.heap[k]? = w.heap[k]?) → ok w O x y → ok w' O x y
 mono : ∀ {w : World} {O O' : Nat → Prop} {x y}, (∀ k, O k → O' k) → ok w O x y → ok w O' x y
abbrev low (w : World) (k : Nat) : Prop := k < w.heap.size
def fresh (w w' : World) (k : Nat) : Prop := w.heap.size ≤ k ∧ k < w'.heap.size
section
variable {α μ : Type} {R : Rel α μ} {w w' : World} {O O' : Nat → Prop} {l : List (α × μ)} {q : Option Addr}
abbrev Rel.c (R : Rel α μ) (p : α × μ) : List Value := R.cells p.1 p.2
theorem Rel.clen (R : Rel α μ) (p : α × μ) : (R.c p).length = R.sz := R.len _ _
structure Arr (R : Rel α μ) (w : World) (O : Nat → Prop) (l : List (α × μ)) (q : Option Addr) : Prop where
 at_ : 0 < l.length → ∃ a, q = some a ∧ O a.block ∧ CellsAt w a (cat R.c l)
 el : ∀ p ∈ l, R.ok w O p.1 p.2
theorem cells_stab {a : Addr} {cs : List Value} (h : w'.heap[a.block]? = w.heap[a.block]?) (hc : CellsAt w a cs) : CellsAt w' a cs := fun j v hj => by
 rw [cell_heap (w := w) (by rw [add_block]; exact h)]
 exact hc j v hj
theorem Arr.stab (hk : ∀ k, O k → w'.heap[k]? = w.heap[k]?) (h : Arr R w O l q) : Arr R w' O l q :=
 ⟨fun hl => by
  obtain ⟨a, h1, h2, h3⟩ := h.at_ hl
  exact ⟨a, h1, h2, cells_stab (hk _ h2) h3⟩, fun p hp => R.stab hk (h.el p hp)⟩
theorem Arr.mono (hk : ∀ k, O k → O' k) (h : Arr R w O l q) : Arr R w O' l q :=
 ⟨fun hl => by
  obtain ⟨a, h1, h2, h3⟩ := h.at_ hl
  exact ⟨a, h1, hk _ h2, h3⟩, fun p hp => R.mono hk (h.el p hp)⟩
theorem Arr.nil : Arr R w O [] q := ⟨fun h => by simp at h, fun p h => by cases h⟩
theorem Arr.get (h : Arr R w O l q) {i : Nat} (hi : i < l.length) : ∃ a p, q = some a ∧ O a.block ∧ l[i]? = some p ∧ CellsAt w (a.add (i * R.sz)) (R.cells p.1 p.2) ∧ R.ok w O p.1 p.2 := by
 obtain ⟨a, h1, h2, h3⟩ := h.at_ (by omega)
 have hp : l[i]? = some l[i] := List.getElem?_eq_getElem hi
 exact ⟨a, l[i], h1, h2, hp, fun j v hj => by rw [add_add]; exact h3 _ _ (cat_get (f := R.c) R.clen hp j v hj), h.el _ (List.getElem_mem hi)⟩
theorem Arr.take (h : Arr R w O l q) (n : Nat) : Arr R w O (l.take n) q :=
 ⟨fun hl => by
  obtain ⟨a, h1, h2, h3⟩ := h.at_ (by simp at hl; omega)
  refine ⟨a, h1, h2, fun j v hj => h3 j v ?_⟩
  have hjl := (List.getElem?_eq_some_iff.1 hj).1
  rw [← cat_take (f := R.c) R.clen l n] at hj hjl
  rw [List.length_take] at hjl
  rwa [List.getElem?_take_of_lt (by omega)] at hj, fun p hp => h.el p (List.mem_of_mem_take hp)⟩
theorem Arr.slAt (h : Arr R w (low w) l q) : SlAt w w.heap.size q (cat R.c l) := fun hv => by
 rw [cat_length (f := R.c) R.clen] at hv
 obtain ⟨a, h1, h2, h3⟩ := h.at_ (Nat.pos_of_mul_pos_right hv)
 exact ⟨a, h1, h2, h3⟩
def ArrP (R : Rel α μ) (w : World) (O : Nat → Prop) (l : List α) (q : Option Addr) : Prop := ∃ ps : List (α × μ), ps.map Prod.fst = l ∧ Arr R w O ps q
theorem ArrP.stab {l : List α} (hk : ∀ k, O k → w'.heap[k]? = w.heap[k]?) (h : ArrP R w O l q) : ArrP R w' O l q := by
 obtain ⟨ps, h1, h2⟩ := h
 exact ⟨ps, h1, h2.stab hk⟩
theorem ArrP.mono {l : List α} (hk : ∀ k, O k → O' k) (h : ArrP R w O l q) : ArrP R w O' l q := by
 obtain ⟨ps, h1, h2⟩ := h
 exact ⟨ps, h1, h2.mono hk⟩
theorem ArrP.nil : ArrP R w O [] q := ⟨[], rfl, Arr.nil⟩
theorem Cls.same {H : List Item} {S : List World} (h : Cls H S w') (hs : w ∈ S) (hno : ∀ k, k < w.heap.size → NotOwned H k) : ∀ k, low w k → w'.heap[k]? = w.heap[k]? :=
 fun k hk => (h.kp w hs).block k hk (hno k hk).not
theorem Cls.up {H : List Item} {S : List World} (h : Cls H S w') (hs : w ∈ S) : ∀ k, low w k → low w' k :=
 fun k hk => Nat.lt_of_lt_of_le hk (h.kp w hs).size
theorem Rel.at {H : List Item} {S : List World} {x : α} {y : μ} (h : R.ok w (low w) x y) (hw : Cls H S w') (hs : w ∈ S) (hno : ∀ k, k < w.heap.size → NotOwned H k) : R.ok w' (low w') x y :=
 R.mono (hw.up hs) (R.stab (hw.same hs hno) h)
theorem Arr.at {H : List Item} {S : List World} (h : Arr R w (low w) l q) (hw : Cls H S w') (hs : w ∈ S) (hno : ∀ k, k < w.heap.size → NotOwned H k) : Arr R w' (low w') l q :=
 Arr.mono (hw.up hs) (Arr.stab (hw.same hs hno) h)
theorem ArrP.at {l : List α} {H : List Item} {S : List World} (h : ArrP R w (low w) l q) (hw : Cls H S w') (hs : w ∈ S) (hno : ∀ k, k < w.heap.size → NotOwned H k) : ArrP R w' (low w') l q :=
 ArrP.mono (hw.up hs) (ArrP.stab (hw.same hs hno) h)
theorem Rel.ext {x : α} {y : μ} (h : R.ok w (low w) x y) (hx : Ext w w') : R.ok w' (low w') x y :=
 R.mono (fun k hk => Nat.lt_of_lt_of_le hk hx.size) (R.stab (fun k hk => hx.block k hk id) h)
theorem Arr.ext (h : Arr R w (low w) l q) (hx : Ext w w') : Arr R w' (low w') l q :=
 Arr.mono (fun k hk => Nat.lt_of_lt_of_le hk hx.size) (Arr.stab (fun k hk => hx.block k hk id) h)
/-! ### Finished things that the call owns -/
def pool (R : Rel α μ) (B : Nat) (O : Nat → Prop) (l : List (α × μ)) : Item :=
 ⟨fun k => B ≤ k ∧ O k, fun w => ∀ p ∈ l, R.ok w (fun k => B ≤ k ∧ O k) p.1 p.2, fun w w' hk h p hp => R.stab hk (h p hp)⟩
theorem NotOwned.pool {H : List Item} {B k : Nat} {O : Nat → Prop} {l : List (α × μ)} (h : k < B) (r : NotOwned H k) : NotOwned (Eng.pool R B O l :: H) k := NotOwned.any (fun ho => Nat.not_le_of_lt h ho.1) r
theorem Cls.pool_nil {H : List Item} {S : List World} (h : Cls H S w) (R : Rel α μ) (B : Nat) : Cls (pool R B (fun _ => False) [] :: H) S w :=
 h.add (Keep.refl _ w) _ (fun s hs => by cases hs) (fun k hk => hk.2.elim)
theorem Cls.pool_push {p B : Nat} {H : List Item} {S : List World} {F : Item → List Item} {x : α} {y : μ} (hh : Hole p H (pool R B O l) F) (h : Cls H S w) (hB : B ≤ w.heap.size) (he : Ext w w') (hx : R.ok w' (fresh w w') x y) :
  Cls (F (pool R B (fun k => O k ∨ fresh w w' k) (l ++ [(x, y)]))) S w' := by
 obtain ⟨h1, h2⟩ := hh.eq
 rw [h2]
 have hm := List.mem_of_getElem? h1
 have hi := h.holds _ hm
 have hl := h.lt _ hm
 refine h.turn p h1 ⟨he.os, he.tape, he.output, he.size, fun k hk hn => he.block k hk id⟩ (fun z hz => ?_) (fun k hk => ?_) (fun k hk => ⟨hk.1, .inl hk.2⟩)
 ·rcases List.mem_append.1 hz with hz | hz
  ·refine R.mono (O := fun k => B ≤ k ∧ O k) (fun k hk => ⟨hk.1, .inl hk.2⟩) (R.stab (fun k hk => he.block k (hl k hk) id) (hi z hz))
  ·obtain rfl := List.mem_singleton.1 hz
   exact R.mono (fun k hk => ⟨Nat.le_trans hB hk.1, .inr hk⟩) hx
 ·obtain ⟨h3, h4 | h4⟩ := hk
  ·exact ⟨.inl ⟨h3, h4⟩, Nat.lt_of_lt_of_le (hl k ⟨h3, h4⟩) he.size⟩
  ·exact ⟨.inr h4.1, h4.2⟩
theorem Arr.of {B m cap : Nat} {O1 O2 : Nat → Prop} {e : TypeId} (h1 : (row B O1 q m cap e R.sz (cat R.c l)).holds w) (h2 : (pool R B O2 l).holds w) : Arr R w (fun k => B ≤ k ∧ (O1 k ∨ O2 k)) l q where
 at_ := fun hl => by
  have hc : 0 < (cat R.c l).length := by
   rw [cat_length (f := R.c) R.clen]
   exact Nat.mul_pos hl R.pos
  obtain ⟨a, h3, _, h5⟩ := SlAt.of_row h1 hc
  have h6 := h1.1 a h3
  refine ⟨a, h3, ⟨?_, .inl h6⟩, h5⟩
  rcases h1.2.2 with ⟨h7, _⟩ | ⟨g, cap', cur, h7, hb, _⟩
  ·simp only [Value.slice.injEq] at h7
   rw [h7.1] at h3; cases h3
  ·simp only [Value.slice.injEq] at h7
   rw [h7.1] at h3
   obtain rfl := Option.some.inj h3
   exact hb
 el := fun p hp => R.mono (fun k hk => ⟨hk.1, .inr hk.2⟩) (h2 p hp)
theorem Cls.arr {H : List Item} {S : List World} {B m cap : Nat} {O1 O2 : Nat → Prop} {e : TypeId} (h : Cls H S w) (h1 : row B O1 q m cap e R.sz (cat R.c l) ∈ H) (h2 : pool R B O2 l ∈ H) : Arr R w (low w) l q :=
 (Arr.of (h.item h1) (h.item h2)).mono (by
  rintro k ⟨hb, ho | ho⟩
  ·exact h.lt _ h1 k ⟨hb, ho⟩
  ·exact h.lt _ h2 k ⟨hb, ho⟩)
end
/-! ### Types -/
def tyc (t : Ty) (y : Option Addr × Nat) : List Value := [.int .i64 t.kind, .string t.name, .int .i64 t.var, .slice y.1 t.args.length y.2]
mutual
def TyO (s : World) (O : Nat → Prop) : Ty → Option Addr × Nat → Prop
 | .mk k nm v «as», y => I64 k ∧ I64 v ∧ («as».length : Int) ≤ 9223372036854775807 ∧ (0 < «as».length → ∃ a, y.1 = some a ∧ O a.block ∧ TyOs s O «as» a)
def TyOs (s : World) (O : Nat → Prop) : List Ty → Addr → Prop
 | [], _ => True
 | t :: r, a => (∃ y, CellsAt s a (tyc t y) ∧ TyO s O t y) ∧ TyOs s O r (a.add 4)
end
mutual
theorem TyO.stab {w w' : World} {O : Nat → Prop} (hk : ∀ k, O k → w'.heap[k]? = w.heap[k]?) : ∀ {t : Ty} {y : Option Addr × Nat}, TyO w O t y → TyO w' O t y
 | .mk k nm v «as», y, h => by
  simp only [TyO] at h ⊢
  obtain ⟨h1, h2, h3, h4⟩ := h
  refine ⟨h1, h2, h3, fun hl => ?_⟩
  obtain ⟨a, ha, hb, hall⟩ := h4 hl
  exact ⟨a, ha, hb, TyOs.stab hk hb hall⟩
theorem TyOs.stab {w w' : World} {O : Nat → Prop} (hk : ∀ k, O k → w'.heap[k]? = w.heap[k]?) : ∀ {«as» : List Ty} {a : Addr}, O a.block → TyOs w O «as» a → TyOs w' O «as» a
 | [], _, _, _ => by simp only [TyOs]
 | t :: r, a, hb, h => by
  simp only [TyOs] at h ⊢
  obtain ⟨⟨y, h1, h2⟩, h3⟩ := h
  exact ⟨⟨y, cells_stab (hk _ hb) h1, TyO.stab hk h2⟩, TyOs.stab hk (by rw [add_block]; exact hb) h3⟩
end
mutual
theorem TyO.mono {w : World} {O O' : Nat → Prop} (hk : ∀ k, O k → O' k) : ∀ {t : Ty} {y : Option Addr × Nat}, TyO w O t y → TyO w O' t y
 | .mk k nm v «as», y, h => by
  simp only [TyO] at h ⊢
  obtain ⟨h1, h2, h3, h4⟩ := h
  refine ⟨h1, h2, h3, fun hl => ?_⟩
  obtain ⟨a, ha, hb, hall⟩ := h4 hl
  exact ⟨a, ha, hk _ hb, TyOs.mono hk hall⟩
theorem TyOs.mono {w : World} {O O' : Nat → Prop} (hk : ∀ k, O k → O' k) : ∀ {«as» : List Ty} {a : Addr}, TyOs w O «as» a → TyOs w O' «as» a
 | [], _, _ => by simp only [TyOs]
 | t :: r, a, h => by
  simp only [TyOs] at h ⊢
  obtain ⟨⟨y, h1, h2⟩, h3⟩ := h
  exact ⟨⟨y, h1, TyO.mono hk h2⟩, TyOs.mono hk h3⟩
end
def tyR : Rel Ty (Option Addr × Nat) where
 sz := 4
 pos := by decide
 cells := tyc
 ok := TyO
 len := fun _ _ => rfl
 stab := fun hk h => TyO.stab hk h
 mono := fun hk h => TyO.mono hk h
theorem TyOs.list {w : World} {O : Nat → Prop} : ∀ {«as» : List Ty} {a : Addr}, TyOs w O «as» a → ∃ ps : List (Ty × (Option Addr × Nat)), ps.map Prod.fst = «as» ∧ CellsAt w a (cat tyR.c ps) ∧ ∀ p ∈ ps, TyO w O p.1 p.2
 | [], a, _ => ⟨[], rfl, fun j v hj => by simp [cat] at hj, fun p hp => by cases hp⟩
 | t :: r, a, h => by
  simp only [TyOs] at h
  obtain ⟨⟨y, h1, h2⟩, h3⟩ := h
  obtain ⟨ps, h4, h5, h6⟩ := TyOs.list h3
  refine ⟨(t, y) :: ps, by simp [h4], fun j v hj => ?_, fun p hp => ?_⟩
  ·rw [cat] at hj
   by_cases e : j < 4
   ·rw [List.getElem?_append_left (by exact e)] at hj
    exact h1 j v hj
   ·rw [List.getElem?_append_right (by show 4 ≤ j; omega)] at hj
    have := h5 _ v hj
    rw [add_add] at this
    rwa [show 4 + (j - (tyR.c (t, y)).length) = j from by show 4 + (j - 4) = j; omega] at this
  ·rcases List.mem_cons.1 hp with rfl | hp
   ·exact h2
   ·exact h6 p hp
theorem TyOs.of_list {w : World} {O : Nat → Prop} : ∀ {ps : List (Ty × (Option Addr × Nat))} {a : Addr}, CellsAt w a (cat tyR.c ps) → (∀ p ∈ ps, TyO w O p.1 p.2) → TyOs w O (ps.map Prod.fst) a
 | [], a, _, _ => by simp only [List.map_nil, TyOs]
 | p :: ps, a, h, hp => by
  simp only [List.map_cons, TyOs]
  refine ⟨⟨p.2, fun j v hj => h j v ?_, hp p (.head _)⟩, TyOs.of_list (fun j v hj => ?_) (fun x hx => hp x (.tail _ hx))⟩
  ·rw [cat, List.getElem?_append_left (by have := (List.getElem?_eq_some_iff.1 hj).1; exact this)]
   exact hj
  ·rw [add_add]
   refine h (4 + j) v ?_
   rw [cat, List.getElem?_append_right (by show 4 ≤ 4 + j; omega)]
   rw [show 4 + j - (tyR.c p).length = j from by show 4 + j - 4 = j; omega]
   exact hj
theorem TyO.parts {w : World} {O : Nat → Prop} {k v : Int} {nm : ByteArray} {«as» : List Ty} {y : Option Addr × Nat} (h : TyO w O (.mk k nm v «as») y) : I64 k ∧ I64 v ∧ «as».length ≤ 9223372036854775807 ∧ ∃ ps : List (Ty × (Option Addr × Nat)), ps.map Prod.fst = «as» ∧ Arr tyR w O ps y.1 := by
 simp only [TyO] at h
 obtain ⟨h1, h2, h3, h4⟩ := h
 refine ⟨h1, h2, by omega, ?_⟩
 cases «as» with
 | nil => exact ⟨[], rfl, Arr.nil⟩
 | cons t r =>
  obtain ⟨a, ha, hb, hall⟩ := h4 (by simp)
  obtain ⟨ps, h5, h6, h7⟩ := hall.list
  exact ⟨ps, h5, fun _ => ⟨a, ha, hb, h6⟩, h7⟩
mutual
theorem TyO.of_C {w : World} {B : Nat} : ∀ {t : Ty} {cs : List Value}, TyC w B t cs → ∃ y, cs = tyc t y ∧ TyO w (fun k => k < B) t y
 | .mk k nm v «as», cs, h => by
  simp only [TyC] at h
  obtain ⟨q, cap, rfl, h2, h3, h4, h5⟩ := h
  refine ⟨(q, cap), rfl, ?_⟩
  simp only [TyO]
  refine ⟨h2, h3, h4, fun hl => ?_⟩
  obtain ⟨a, ha, hb, hall⟩ := h5 hl
  exact ⟨a, ha, hb, TyOs.of_C hall⟩
theorem TyOs.of_C {w : World} {B : Nat} : ∀ {«as» : List Ty} {a : Addr}, TyAll w B «as» a → TyOs w (fun k => k < B) «as» a
 | [], _, _ => by simp only [TyOs]
 | t :: r, a, h => by
  simp only [TyAll] at h
  simp only [TyOs]
  obtain ⟨⟨cs, h1, h2⟩, h3⟩ := h
  obtain ⟨y, rfl, h4⟩ := TyO.of_C h2
  exact ⟨⟨y, h1, h4⟩, TyOs.of_C h3⟩
end
/-! ### Reading arguments -/
section
variable {H : Type} {enc : TypeId × Value → H} {P : Program} {w : World} {spare : Nat → Bool} {held : Bool} {α μ : Type} {R : Rel α μ}
end
end Go.Eng

/- Functions in single assignment form as they lie in memory: edges, ends, instructions, blocks. No condition. -/
namespace Go.Ss
open Go.Eng Go.RowKit
abbrev Sc := Option Addr × Nat
def ints (l : List Int) : List Value := l.map fun x => .int .i64 x
theorem ints_length (l : List Int) : (ints l).length = l.length := by simp [ints]
theorem ints_get {l : List Int} {i : Nat} {x : Int} (h : l[i]? = some x) : (ints l)[i]? = some (.int .i64 x) := by simp [ints, h]
theorem ints_append (l m : List Int) : ints (l ++ m) = ints l ++ ints m := by simp [ints]
def IntsO (w : World) (O : Nat → Prop) (l : List Int) (q : Option Addr) : Prop := 0 < l.length → ∃ a, q = some a ∧ O a.block ∧ CellsAt w a (ints l)
theorem IntsO.stab {w w' : World} {O : Nat → Prop} {l : List Int} {q : Option Addr} (hk : ∀ k, O k → w'.heap[k]? = w.heap[k]?) (h : IntsO w O l q) : IntsO w' O l q := fun hl => by
 obtain ⟨a, h1, h2, h3⟩ := h hl
 exact ⟨a, h1, h2, cells_stab (hk _ h2) h3⟩
theorem IntsO.mono {w : World} {O O' : Nat → Prop} {l : List Int} {q : Option Addr} (hk : ∀ k, O k → O' k) (h : IntsO w O l q) : IntsO w O' l q := fun hl => by
 obtain ⟨a, h1, h2, h3⟩ := h hl
 exact ⟨a, h1, hk _ h2, h3⟩
theorem IntsO.nil {w : World} {O : Nat → Prop} {q : Option Addr} : IntsO w O [] q := fun h => by simp at h
theorem IntsO.get {w : World} {O : Nat → Prop} {l : List Int} {q : Option Addr} (h : IntsO w O l q) {i : Nat} (hi : i < l.length) : ∃ a u, q = some a ∧ O a.block ∧ l[i]? = some u ∧ w.cell? (a.add (i * 1)) = some (.int .i64 u) := by
 obtain ⟨a, h1, h2, h3⟩ := h (by omega)
 have hu : l[i]? = some l[i] := List.getElem?_eq_getElem hi
 exact ⟨a, l[i], h1, h2, hu, by rw [Nat.mul_one]; exact h3 i _ (ints_get hu)⟩
theorem IntsO.slAt {w : World} {l : List Int} {q : Option Addr} (h : IntsO w (low w) l q) : SlAt w w.heap.size q (ints l) := fun hv => by
 rw [ints_length] at hv
 exact h hv
theorem IntsO.at {w w' : World} {l : List Int} {q : Option Addr} {H : List Eng.Item} {S : List World} (h : IntsO w (low w) l q) (hw : Cls H S w') (hs : w ∈ S) (hno : ∀ k, k < w.heap.size → NotOwned H k) : IntsO w' (low w') l q :=
 IntsO.mono (hw.up hs) (IntsO.stab (hw.same hs hno) h)
theorem IntsO.ext {w w' : World} {l : List Int} {q : Option Addr} (h : IntsO w (low w) l q) (hx : Ext w w') : IntsO w' (low w') l q :=
 IntsO.mono (fun k hk => Nat.lt_of_lt_of_le hk hx.size) (IntsO.stab (fun k hk => hx.block k hk id) h)
/-! ### plain data -/
structure Ed where
 block : Int
 args : List Int
structure Tm where
 kind : Int
 arg : Int
 n : Int
 cases : List Int
 to_ : List Ed
structure In where
 to_ : Int
 op : Int
 n : Int
 args : List Int
structure Bk where
 params : List Int
 ins : List In
 term : Tm
structure Fn where
 name : Int
 blocks : List Bk
/-! ### as cells -/
def edC (e : Ed) (y : Sc) : List Value := [.int .i64 e.block, .slice y.1 e.args.length y.2]
def edR : Rel Ed Sc where
 sz := 2
 pos := by decide
 cells := edC
 ok := fun w O e y => I64 e.block ∧ (e.args.length ≤ 140737488355328 ∧ e.args.length ≤ y.2) ∧ IntsO w O e.args y.1 ∧ ∀ n ∈ e.args, I64 n
 len := fun _ _ => rfl
 stab := fun hk h => ⟨h.1, h.2.1, h.2.2.1.stab hk, h.2.2.2⟩
 mono := fun hk h => ⟨h.1, h.2.1, h.2.2.1.mono hk, h.2.2.2⟩
structure TmY where
 c : Sc
 t : Sc
def tmC (t : Tm) (y : TmY) : List Value := [.int .i64 t.kind, .int .i64 t.arg, .int .i64 t.n, .slice y.c.1 t.cases.length y.c.2, .slice y.t.1 t.to_.length y.t.2]
structure TmOk (w : World) (O : Nat → Prop) (t : Tm) (y : TmY) : Prop where
 kind : I64 t.kind
 arg : I64 t.arg
 n : I64 t.n
 cl : t.cases.length ≤ 140737488355328
 tl : t.to_.length ≤ 140737488355328
 cc : t.cases.length ≤ y.c.2
 tc : t.to_.length ≤ y.t.2
 c : IntsO w O t.cases y.c.1
 ci : ∀ n ∈ t.cases, I64 n
 t : ArrP edR w O t.to_ y.t.1
theorem TmOk.stab {w w' : World} {O : Nat → Prop} {x : Tm} {y : TmY} (hk : ∀ k, O k → w'.heap[k]? = w.heap[k]?) (h : TmOk w O x y) : TmOk w' O x y :=
 ⟨h.kind, h.arg, h.n, h.cl, h.tl, h.cc, h.tc, h.c.stab hk, h.ci, h.t.stab hk⟩
theorem TmOk.mono {w : World} {O O' : Nat → Prop} {x : Tm} {y : TmY} (hk : ∀ k, O k → O' k) (h : TmOk w O x y) : TmOk w O' x y :=
 ⟨h.kind, h.arg, h.n, h.cl, h.tl, h.cc, h.tc, h.c.mono hk, h.ci, h.t.mono hk⟩
def inC (i : In) (y : Sc) : List Value := [.int .i64 i.to_, .int .i64 i.op, .int .i64 i.n, .slice y.1 i.args.length y.2]
structure InOk (w : World) (O : Nat → Prop) (i : In) (y : Sc) : Prop where
 to_ : I64 i.to_
 op : I64 i.op
 n : I64 i.n
 al : i.args.length ≤ 140737488355328
 ac : i.args.length ≤ y.2
 a : IntsO w O i.args y.1
 ai : ∀ n ∈ i.args, I64 n
def inR : Rel In Sc where
 sz := 4
 pos := by decide
 cells := inC
 ok := InOk
 len := fun _ _ => rfl
 stab := fun hk h => ⟨h.to_, h.op, h.n, h.al, h.ac, h.a.stab hk, h.ai⟩
 mono := fun hk h => ⟨h.to_, h.op, h.n, h.al, h.ac, h.a.mono hk, h.ai⟩
structure BkY where
 p : Sc
 i : Sc
 t : TmY
def bkC (b : Bk) (y : BkY) : List Value := [.slice y.p.1 b.params.length y.p.2, .slice y.i.1 b.ins.length y.i.2, .int .i64 b.term.kind, .int .i64 b.term.arg, .int .i64 b.term.n, .slice y.t.c.1 b.term.cases.length y.t.c.2, .slice y.t.t.1 b.term.to_.length y.t.t.2]
structure BkOk (w : World) (O : Nat → Prop) (b : Bk) (y : BkY) : Prop where
 pl : b.params.length ≤ 140737488355328
 il : b.ins.length ≤ 140737488355328
 pc : b.params.length ≤ y.p.2
 ic : b.ins.length ≤ y.i.2
 p : IntsO w O b.params y.p.1
 pi : ∀ n ∈ b.params, I64 n
 i : ArrP inR w O b.ins y.i.1
 t : TmOk w O b.term y.t
def bkR : Rel Bk BkY where
 sz := 7
 pos := by decide
 cells := bkC
 ok := BkOk
 len := fun _ _ => rfl
 stab := fun hk h => ⟨h.pl, h.il, h.pc, h.ic, h.p.stab hk, h.pi, h.i.stab hk, h.t.stab hk⟩
 mono := fun hk h => ⟨h.pl, h.il, h.pc, h.ic, h.p.mono hk, h.pi, h.i.mono hk, h.t.mono hk⟩
structure FnY where
 q : Option Addr
 c : Nat
def fnC (f : Fn) (y : FnY) : List Value := [.int .i64 f.name, .slice y.q f.blocks.length y.c]
structure FnOk (w : World) (O : Nat → Prop) (f : Fn) (y : FnY) : Prop where
 name : I64 f.name
 bl : f.blocks.length ≤ 140737488355328
 bc : f.blocks.length ≤ y.c
 b : ArrP bkR w O f.blocks y.q
def fnR : Rel Fn FnY where
 sz := 2
 pos := by decide
 cells := fnC
 ok := FnOk
 len := fun _ _ => rfl
 stab := fun hk h => ⟨h.name, h.bl, h.bc, h.b.stab hk⟩
 mono := fun hk h => ⟨h.name, h.bl, h.bc, h.b.mono hk⟩
end Go.Ss

/- Values of runs as plain trees with the place where their parts lie; items held together in a bag. General. No condition. -/
namespace Go.Eng
open Go.RowKit
def bag (B : Nat) (L : List Item) : Item :=
 ⟨fun k => B ≤ k ∧ ∃ i ∈ L, i.own k, fun w => (∀ i ∈ L, i.holds w ∧ ∀ k, i.own k → B ≤ k) ∧ L.Pairwise (fun (i j : Item) => ∀ k : Nat, i.own k → ¬ j.own k),
  fun w w' hk h => ⟨fun i hi => ⟨i.stab w w' (fun k ho => hk k ⟨(h.1 i hi).2 k ho, i, hi, ho⟩) (h.1 i hi).1, (h.1 i hi).2⟩, h.2⟩⟩
theorem NotOwned.bag {H : List Item} {B k : Nat} {L : List Item} (h : k < B) (r : NotOwned H k) : NotOwned (Eng.bag B L :: H) k := NotOwned.any (fun ho => Nat.not_le_of_lt h ho.1) r
section
variable {H : List Item} {S : List World} {w : World} {B : Nat} {L L' : List Item} {i : Item}
theorem Cls.bag_nil (h : Cls H S w) (B : Nat) : Cls (bag B [] :: H) S w :=
 h.add (Keep.refl _ w) _ ⟨fun i hi => by (cases hi), .nil⟩ (fun k hk => by obtain ⟨_, i, hi, _⟩ := hk; cases hi)
theorem Cls.bag_in (h : Cls (i :: bag B L :: H) S w) (hB : ∀ k, i.own k → B ≤ k) : Cls (bag B (i :: L) :: H) S w := by
 have hd := h.dj
 rw [List.pairwise_cons, List.pairwise_cons] at hd
 obtain ⟨h1, h2, h3⟩ := hd
 have hb := h.holds (bag B L) (by simp)
 refine ⟨fun j hj => ?_, fun j hj => ?_, ?_, fun s hs => (h.kp s hs).mono fun k _ ⟨j, hj, hk⟩ => ?_⟩
 ·rcases List.mem_cons.1 hj with rfl | hj
  ·refine ⟨fun x hx => ?_, List.pairwise_cons.2 ⟨fun x hx k hk hxk => ?_, hb.2⟩⟩
   ·rcases List.mem_cons.1 hx with rfl | hx
    ·exact ⟨h.holds _ (.head _), hB⟩
    ·exact hb.1 x hx
   ·exact h1 _ (.head _) k hk ⟨hB k hk, x, hx, hxk⟩
  ·exact h.holds j (by simp [hj])
 ·rcases List.mem_cons.1 hj with rfl | hj
  ·rintro k ⟨hk, x, hx, hxk⟩
   rcases List.mem_cons.1 hx with rfl | hx
   ·exact h.lt _ (.head _) k hxk
   ·exact h.lt (bag B L) (by simp) k ⟨hk, x, hx, hxk⟩
  ·exact h.lt j (by simp [hj])
 ·refine List.pairwise_cons.2 ⟨fun j hj k hk hjk => ?_, h3⟩
  obtain ⟨hk, x, hx, hxk⟩ := hk
  rcases List.mem_cons.1 hx with rfl | hx
  ·exact h1 j (.tail _ hj) k hxk hjk
  ·exact h2 j hj k ⟨hk, x, hx, hxk⟩ hjk
 ·rcases List.mem_cons.1 hj with rfl | hj
  ·exact ⟨_, .head _, hB k hk, _, .head _, hk⟩
  ·rcases List.mem_cons.1 hj with rfl | hj
   ·obtain ⟨hk, x, hx, hxk⟩ := hk
    exact ⟨_, .head _, hk, x, .tail _ hx, hxk⟩
   ·exact ⟨j, .tail _ hj, hk⟩
theorem Cls.bag_out (h : Cls (bag B (i :: L) :: H) S w) : Cls (i :: bag B L :: H) S w := by
 have hd := h.dj
 rw [List.pairwise_cons] at hd
 obtain ⟨h1, h3⟩ := hd
 obtain ⟨hb, hp⟩ := h.holds (bag B (i :: L)) (.head _)
 rw [List.pairwise_cons] at hp
 have hi := hb i (.head _)
 refine ⟨fun j hj => ?_, fun j hj => ?_, ?_, fun s hs => (h.kp s hs).mono fun k _ ⟨j, hj, hk⟩ => ?_⟩
 ·rcases List.mem_cons.1 hj with rfl | hj
  ·exact hi.1
  ·rcases List.mem_cons.1 hj with rfl | hj
   ·exact ⟨fun x hx => hb x (.tail _ hx), hp.2⟩
   ·exact h.holds j (.tail _ hj)
 ·rcases List.mem_cons.1 hj with rfl | hj
  ·exact fun k hk => h.lt _ (.head _) k ⟨hi.2 k hk, _, .head _, hk⟩
  ·rcases List.mem_cons.1 hj with rfl | hj
   ·rintro k ⟨hk, x, hx, hxk⟩
    exact h.lt _ (.head _) k ⟨hk, x, .tail _ hx, hxk⟩
   ·exact h.lt j (.tail _ hj)
 ·refine List.pairwise_cons.2 ⟨fun j hj k hk hjk => ?_, List.pairwise_cons.2 ⟨fun j hj k hk hjk => ?_, h3⟩⟩
  ·rcases List.mem_cons.1 hj with rfl | hj
   ·obtain ⟨_, x, hx, hxk⟩ := hjk
    exact hp.1 x hx k hk hxk
   ·exact h1 j hj k ⟨hi.2 k hk, _, .head _, hk⟩ hjk
  ·obtain ⟨hk, x, hx, hxk⟩ := hk
   exact h1 j hj k ⟨hk, x, .tail _ hx, hxk⟩ hjk
 ·rcases List.mem_cons.1 hj with rfl | hj
  ·obtain ⟨hk, x, hx, hxk⟩ := hk
   rcases List.mem_cons.1 hx with rfl | hx
   ·exact ⟨_, .head _, hxk⟩
   ·exact ⟨_, .tail _ (.head _), hk, x, hx, hxk⟩
  ·exact ⟨j, .tail _ (.tail _ hj), hk⟩
theorem Cls.bag_perm (h : Cls (bag B L :: H) S w) (p : L.Perm L') : Cls (bag B L' :: H) S w := by
 have ho : (bag B L').own = (bag B L).own := by
  funext k
  refine propext ⟨fun ⟨h1, x, hx, h2⟩ => ⟨h1, x, p.symm.mem_iff.1 hx, h2⟩, fun ⟨h1, x, hx, h2⟩ => ⟨h1, x, p.mem_iff.1 hx, h2⟩⟩
 have hd := h.dj
 rw [List.pairwise_cons] at hd
 obtain ⟨hb, hp⟩ := h.holds (bag B L) (.head _)
 refine ⟨fun j hj => ?_, fun j hj => ?_, List.pairwise_cons.2 ⟨fun j hj => by rw [ho]; exact hd.1 j hj, hd.2⟩, fun s hs => (h.kp s hs).mono fun k _ ⟨j, hj, hk⟩ => ?_⟩
 ·rcases List.mem_cons.1 hj with rfl | hj
  ·exact ⟨fun x hx => hb x (p.mem_iff.2 hx), hp.perm p (fun {a b} hab k hk hk2 => hab k hk2 hk)⟩
  ·exact h.holds j (.tail _ hj)
 ·rcases List.mem_cons.1 hj with rfl | hj
  ·rw [ho]; exact h.lt _ (.head _)
  ·exact h.lt j (.tail _ hj)
 ·rcases List.mem_cons.1 hj with rfl | hj
  ·exact ⟨_, .head _, by rw [ho]; exact hk⟩
  ·exact ⟨j, .tail _ hj, hk⟩
theorem Cls.pool_join {α μ : Type} {R : Rel α μ} {O : Nat → Prop} {l : List (α × μ)} {x : α} {y : μ} (h : Cls (i :: pool R B O l :: H) S w) (hB : ∀ k, i.own k → B ≤ k) (hok : R.ok w (fun k => B ≤ k ∧ (O k ∨ i.own k)) x y) : Cls (pool R B (fun k => O k ∨ i.own k) (l ++ [(x, y)]) :: H) S w := by
 have hp := h.item (i := pool R B O l) (by simp)
 have hd := h.dj
 rw [List.pairwise_cons, List.pairwise_cons] at hd
 obtain ⟨hr1, hp1, hH⟩ := hd
 refine ⟨fun j hj => ?_, fun j hj => ?_, ?_, fun s hs => (h.kp s hs).mono fun k _ ⟨j, hj, hk⟩ => ?_⟩
 ·rcases List.mem_cons.1 hj with rfl | hj
  ·intro p hpm
   rcases List.mem_append.1 hpm with hpm | hpm
   ·exact R.mono (fun k hk => ⟨hk.1, .inl hk.2⟩) (hp p hpm)
   ·obtain rfl := List.mem_singleton.1 hpm
    exact hok
  ·exact h.holds j (by simp [hj])
 ·rcases List.mem_cons.1 hj with rfl | hj
  ·rintro k ⟨h1, h2 | h2⟩
   ·exact h.lt (pool R B O l) (by simp) k ⟨h1, h2⟩
   ·exact h.lt i (by simp) k h2
  ·exact h.lt j (by simp [hj])
 ·refine List.pairwise_cons.2 ⟨fun j hj k hk hj2 => ?_, hH⟩
  obtain ⟨h1, h2 | h2⟩ := hk
  ·exact hp1 j hj k ⟨h1, h2⟩ hj2
  ·exact hr1 j (by simp [hj]) k h2 hj2
 ·rcases List.mem_cons.1 hj with rfl | hj
  ·exact ⟨_, .head _, hB k hk, .inr hk⟩
  ·rcases List.mem_cons.1 hj with rfl | hj
   ·exact ⟨_, .head _, hk.1, .inl hk.2⟩
   ·exact ⟨j, by simp [hj], hk⟩
end
section
variable {P : Program} {n : Nat} {l : Env} {C : World → Prop} {c : Bool} {d : Option Nat} {ty : TypeId} {pos : String} {af : Array Edge} {g : Option (Nat × Bool)} {t : TypeId} {x : Operand} {cx : Bool}
theorem Pev.load_f {a : Addr} {k : Nat} {vs : List Value} (hx : evl l x = some (cx, .pointer (some a))) (hcx : c = true → cx = true) (hs : aggN P t = some k) (hk : vs.length = k) (hf : c = true → ∀ w, C w → CellsAt w a vs) : Pev P n l C ⟨d, .load t x, ty, pos, af, g⟩ c (.agg vs.toArray) :=
 .load_of hx hcx fun h w hw => run_loadVar_agg (by rw [hk]; exact hs) (hf h w hw)
theorem Pev.load_f1 {a : Addr} {v : Value} (hx : evl l x = some (cx, .pointer (some a))) (hcx : c = true → cx = true) (hs : scalB P t = true) (hf : c = true → ∀ w, C w → w.cell? a = some v) : Pev P n l C ⟨d, .load t x, ty, pos, af, g⟩ c v :=
 .load_of hx hcx fun h w hw => run_loadVar_scal hs (hf h w hw)
end
end Go.Eng
namespace Go.Ss
open Go.Eng Go.RowKit
inductive PV where
 | mk (k n : Int) (q : Option Addr) (cap b : Nat) (l : List PV)
namespace PV
def k : PV → Int | .mk k _ _ _ _ _ => k
def n : PV → Int | .mk _ n _ _ _ _ => n
def q : PV → Option Addr | .mk _ _ q _ _ _ => q
def cap : PV → Nat | .mk _ _ _ c _ _ => c
def b : PV → Nat | .mk _ _ _ _ b _ => b
def l : PV → List PV | .mk _ _ _ _ _ l => l
end PV
structure Shp where
 sz : Nat
 pos : 0 < sz
 cf : PV → List Value
 len : ∀ p, (cf p).length = sz
mutual
def PVO (F : Shp) (w : World) (O : Nat → Prop) : PV → Prop
 | .mk k n q cap b l => l.length ≤ 16 ∧ (0 < l.length → ∃ a, q = some a ∧ O a.block ∧ PVOs F w O l a)
def PVOs (F : Shp) (w : World) (O : Nat → Prop) : List PV → Addr → Prop
 | [], _ => True
 | p :: r, a => (CellsAt w a (F.cf p) ∧ PVO F w O p) ∧ PVOs F w O r (a.add F.sz)
end
section
variable {F : Shp} {w w' : World} {O O' : Nat → Prop}
mutual
theorem PVO.stab (hk : ∀ k, O k → w'.heap[k]? = w.heap[k]?) : ∀ {p : PV}, PVO F w O p → PVO F w' O p
 | .mk k n q cap b l, h => by
  simp only [PVO] at h ⊢
  refine ⟨h.1, fun hl => ?_⟩
  obtain ⟨a, ha, hb, hall⟩ := h.2 hl
  exact ⟨a, ha, hb, PVOs.stab hk hb hall⟩
theorem PVOs.stab (hk : ∀ k, O k → w'.heap[k]? = w.heap[k]?) : ∀ {l : List PV} {a : Addr}, O a.block → PVOs F w O l a → PVOs F w' O l a
 | [], _, _, _ => by simp only [PVOs]
 | p :: r, a, hb, h => by
  simp only [PVOs] at h ⊢
  exact ⟨⟨cells_stab (hk _ hb) h.1.1, PVO.stab hk h.1.2⟩, PVOs.stab hk (by rw [add_block]; exact hb) h.2⟩
end
mutual
theorem PVO.mono (hk : ∀ k, O k → O' k) : ∀ {p : PV}, PVO F w O p → PVO F w O' p
 | .mk k n q cap b l, h => by
  simp only [PVO] at h ⊢
  refine ⟨h.1, fun hl => ?_⟩
  obtain ⟨a, ha, hb, hall⟩ := h.2 hl
  exact ⟨a, ha, hk _ hb, PVOs.mono hk hall⟩
theorem PVOs.mono (hk : ∀ k, O k → O' k) : ∀ {l : List PV} {a : Addr}, PVOs F w O l a → PVOs F w O' l a
 | [], _, _ => by simp only [PVOs]
 | p :: r, a, h => by
  simp only [PVOs] at h ⊢
  exact ⟨⟨h.1.1, PVO.mono hk h.1.2⟩, PVOs.mono hk h.2⟩
end
def pvR (F : Shp) : Rel PV Unit where
 sz := F.sz
 pos := F.pos
 cells := fun p _ => F.cf p
 ok := fun w O p _ => PVO F w O p
 len := fun p _ => F.len p
 stab := fun hk h => PVO.stab hk h
 mono := fun hk h => PVO.mono hk h
theorem PVOs.list : ∀ {l : List PV} {a : Addr}, PVOs F w O l a → CellsAt w a (cat F.cf l) ∧ ∀ p ∈ l, PVO F w O p
 | [], a, _ => ⟨fun j v hj => by simp [cat] at hj, fun p hp => by cases hp⟩
 | p :: r, a, h => by
  simp only [PVOs] at h
  obtain ⟨⟨h1, h2⟩, h3⟩ := h
  obtain ⟨h5, h6⟩ := PVOs.list h3
  refine ⟨fun j v hj => ?_, fun x hx => ?_⟩
  ·rw [cat] at hj
   by_cases e : j < F.sz
   ·rw [List.getElem?_append_left (by rw [F.len]; exact e)] at hj
    exact h1 j v hj
   ·rw [List.getElem?_append_right (by rw [F.len]; omega)] at hj
    have := h5 _ v hj
    rw [add_add, F.len] at this
    rwa [show F.sz + (j - F.sz) = j by omega] at this
  ·rcases List.mem_cons.1 hx with rfl | hx
   ·exact h2
   ·exact h6 x hx
theorem PVOs.of_list : ∀ {l : List PV} {a : Addr}, CellsAt w a (cat F.cf l) → (∀ p ∈ l, PVO F w O p) → PVOs F w O l a
 | [], a, _, _ => by simp only [PVOs]
 | p :: l, a, h, hp => by
  simp only [PVOs]
  refine ⟨⟨fun j v hj => h j v ?_, hp p (.head _)⟩, PVOs.of_list (fun j v hj => ?_) (fun x hx => hp x (.tail _ hx))⟩
  ·rw [cat, List.getElem?_append_left (by have := (List.getElem?_eq_some_iff.1 hj).1; exact this)]
   exact hj
  ·rw [add_add]
   refine h (F.sz + j) v ?_
   rw [cat, List.getElem?_append_right (by rw [F.len]; omega), F.len, show F.sz + j - F.sz = j by omega]
   exact hj
end
inductive PSub : PV → PV → Prop where
 | refl (p : PV) : PSub p p
 | kid {c x p : PV} (hx : x ∈ p.l) (h : PSub c x) : PSub c p
theorem PVO.len {F : Shp} {w : World} {O : Nat → Prop} {p : PV} (h : PVO F w O p) : p.l.length ≤ 16 := by
 cases p
 simp only [PVO] at h
 exact h.1
theorem PVO.kids {F : Shp} {w : World} {O : Nat → Prop} {p : PV} (h : PVO F w O p) (hl : 0 < p.l.length) : ∃ a, p.q = some a ∧ O a.block ∧ CellsAt w a (cat F.cf p.l) := by
 cases p
 simp only [PVO] at h
 obtain ⟨a, h1, h2, h3⟩ := h.2 hl
 exact ⟨a, h1, h2, h3.list.1⟩
theorem PVO.kid {F : Shp} {w : World} {O : Nat → Prop} {p c : PV} (h : PVO F w O p) (hc : c ∈ p.l) : PVO F w O c := by
 cases p
 simp only [PVO] at h
 obtain ⟨a, h1, h2, h3⟩ := h.2 (List.length_pos_of_mem hc)
 exact h3.list.2 c hc
theorem PVO.sub {F : Shp} {w : World} {O : Nat → Prop} {c p : PV} (h : PSub c p) (hp : PVO F w O p) : PVO F w O c := by
 induction h with
 | refl => exact hp
 | kid hx _ ih => exact ih (hp.kid hx)
theorem PVO.of {F : Shp} {w : World} {O : Nat → Prop} {k n : Int} {a : Addr} {cap b : Nat} {l : List PV} (hl : l.length ≤ 16) (ha : O a.block) (hc : CellsAt w a (cat F.cf l)) (h : ∀ p ∈ l, PVO F w O p) : PVO F w O (.mk k n (some a) cap b l) := by
 simp only [PVO]
 exact ⟨hl, fun _ => ⟨a, rfl, ha, PVOs.of_list hc h⟩⟩
theorem PVO.flat {F : Shp} {w : World} {O : Nat → Prop} {k n : Int} {q : Option Addr} {cap b : Nat} : PVO F w O (.mk k n q cap b []) := by
 simp only [PVO]
 exact ⟨by simp, fun h => by simp at h⟩
def InP (L : List (PV × Unit)) (p : PV) : Prop := p.l = [] ∨ ∃ r, (r, ()) ∈ L ∧ PSub p r
theorem InP.more {L M : List (PV × Unit)} {p : PV} (h : InP L p) (hs : ∀ r, r ∈ L → r ∈ M) : InP M p := h.imp id fun ⟨r, h1, h2⟩ => ⟨r, hs _ h1, h2⟩
theorem InP.snoc {L : List (PV × Unit)} {x : PV × Unit} {p : PV} (h : InP L p) : InP (L ++ [x]) p := h.more fun r hr => List.mem_append_left _ hr
theorem InP.last {L : List (PV × Unit)} {p : PV} : InP (L ++ [(p, ())]) p := .inr ⟨p, by simp, .refl p⟩
theorem PSub.trans {a b c : PV} (h : PSub b c) (g : PSub a b) : PSub a c := by
 induction h with
 | refl => exact g
 | kid hx _ ih => exact .kid hx ih
theorem InP.kid {L : List (PV × Unit)} {p c : PV} (h : InP L p) (hc : c ∈ p.l) : InP L c := by
 rcases h with h | ⟨r, h1, h2⟩
 ·rw [h] at hc; cases hc
 ·exact .inr ⟨r, h1, h2.trans (.kid hc (.refl _))⟩
theorem InP.ok {F : Shp} {B : Nat} {O : Nat → Prop} {L : List (PV × Unit)} {p : PV} {w : World} (h : InP L p) (hp : (pool (pvR F) B O L).holds w) : PVO F w (fun k => B ≤ k ∧ O k) p := by
 rcases h with h | ⟨r, h1, h2⟩
 ·cases p
  simp only [PV.l] at h
  subst h
  exact PVO.flat
 ·exact PVO.sub h2 (hp _ h1)
theorem InP.some {F : Shp} {B : Nat} {O : Nat → Prop} {L : List (PV × Unit)} {p : PV} {w : World} (h : InP L p) (hp : (pool (pvR F) B O L).holds w) (hl : 0 < p.l.length) : ∃ a, p.q = Option.some a := by
 obtain ⟨a, ha, _⟩ := (h.ok hp).kids hl
 exact ⟨a, ha⟩
theorem InP.cells {F : Shp} {B : Nat} {O : Nat → Prop} {L : List (PV × Unit)} {p c : PV} {w : World} {a : Addr} (h : InP L p) (hp : (pool (pvR F) B O L).holds w) (hq : p.q = Option.some a) {i : Nat} (hc : p.l[i]? = Option.some c) : CellsAt w (a.add (i * F.sz)) (F.cf c) := by
 obtain ⟨a', ha, _, h3⟩ := (h.ok hp).kids (List.length_pos_of_mem (List.mem_of_getElem? hc))
 rw [hq] at ha
 obtain rfl := Option.some.inj ha
 intro j v hj
 rw [add_add]
 exact h3 _ v (cat_get (f := F.cf) F.len hc j v hj)
/-! ### plain values -/
inductive SV where
 | mk (k n : Int) (l : List SV)
namespace SV
def k : SV → Int | .mk k _ _ => k
def n : SV → Int | .mk _ n _ => n
def l : SV → List SV | .mk _ _ l => l
end SV
def zV : SV := .mk 0 0 []
def zP : PV := .mk 0 0 none 0 0 []
mutual
/-- a value with its place tells a plain value; N: how its number is told -/
def Er (N : Int → Int → Nat → Int → Prop) : PV → SV → Prop
 | .mk k n _ _ b l, .mk k' n' l' => (k = k' ∧ N k n b n') ∧ Ers N l l'
def Ers (N : Int → Int → Nat → Int → Prop) : List PV → List SV → Prop
 | [], [] => True
 | p :: ps, v :: vs => Er N p v ∧ Ers N ps vs
 | [], _ :: _ => False
 | _ :: _, [] => False
end
section
variable {N N' : Int → Int → Nat → Int → Prop}
mutual
theorem Er.mono (h : ∀ k n b m, N k n b m → N' k n b m) : ∀ {p : PV} {v : SV}, Er N p v → Er N' p v
 | .mk k n _ _ b l, .mk k' n' l', hh => by
  simp only [Er] at hh ⊢
  exact ⟨⟨hh.1.1, h _ _ _ _ hh.1.2⟩, Ers.mono h hh.2⟩
theorem Ers.mono (h : ∀ k n b m, N k n b m → N' k n b m) : ∀ {l : List PV} {m : List SV}, Ers N l m → Ers N' l m
 | [], [], _ => by simp only [Ers]
 | p :: ps, v :: vs, hh => by
  simp only [Ers] at hh ⊢
  exact ⟨Er.mono h hh.1, Ers.mono h hh.2⟩
 | [], _ :: _, hh => by simp only [Ers] at hh
 | _ :: _, [], hh => by simp only [Ers] at hh
end
theorem Er.k {p : PV} {v : SV} (h : Er N p v) : p.k = v.k := by
 cases p; cases v
 simp only [Er] at h
 exact h.1.1
theorem Er.n {p : PV} {v : SV} (h : Er N p v) : N p.k p.n p.b v.n := by
 cases p; cases v
 simp only [Er] at h
 exact h.1.2
theorem Er.l {p : PV} {v : SV} (h : Er N p v) : Ers N p.l v.l := by
 cases p; cases v
 simp only [Er] at h
 exact h.2
theorem Er.of {k n n' : Int} {q : Option Addr} {cap b : Nat} {l : List PV} {l' : List SV} (hn : N k n b n') (hl : Ers N l l') : Er N (.mk k n q cap b l) (.mk k n' l') := by
 simp only [Er]
 exact ⟨⟨trivial, hn⟩, hl⟩
theorem Ers.nil : Ers N [] [] := by simp only [Ers]
theorem Ers.cons {p : PV} {v : SV} {ps : List PV} {vs : List SV} (h : Er N p v) (hs : Ers N ps vs) : Ers N (p :: ps) (v :: vs) := by
 simp only [Ers]
 exact ⟨h, hs⟩
theorem Ers.len : ∀ {l : List PV} {m : List SV}, Ers N l m → l.length = m.length
 | [], [], _ => rfl
 | p :: ps, v :: vs, hh => by
  simp only [Ers] at hh
  simp only [List.length_cons, Ers.len hh.2]
 | [], _ :: _, hh => by simp only [Ers] at hh
 | _ :: _, [], hh => by simp only [Ers] at hh
theorem Ers.get : ∀ {l : List PV} {m : List SV}, Ers N l m → ∀ {i : Nat} {p : PV}, l[i]? = some p → ∃ v, m[i]? = some v ∧ Er N p v
 | [], [], _, i, p, hp => by simp at hp
 | p :: ps, v :: vs, hh, 0, x, hx => by
  simp only [Ers] at hh
  obtain rfl := Option.some.inj hx
  exact ⟨v, rfl, hh.1⟩
 | p :: ps, v :: vs, hh, i + 1, x, hx => by
  simp only [Ers] at hh
  exact Ers.get hh.2 (i := i) hx
 | [], _ :: _, hh, _, _, _ => by simp only [Ers] at hh
 | _ :: _, [], hh, _, _, _ => by simp only [Ers] at hh
theorem Ers.getD {l : List PV} {m : List SV} (h : Ers N l m) (hz : Er N zP zV) (i : Nat) : Er N (l.getD i zP) (m.getD i zV) := by
 rw [List.getD_eq_getElem?_getD, List.getD_eq_getElem?_getD]
 cases hp : l[i]? with
 | none =>
  have : m[i]? = none := by
   rw [List.getElem?_eq_none_iff] at hp ⊢
   rw [← h.len]; exact hp
  rw [this]
  exact hz
 | some p =>
  obtain ⟨v, hv, he⟩ := h.get hp
  rw [hv]
  exact he
theorem Ers.append : ∀ {l l2 : List PV} {m m2 : List SV}, Ers N l m → Ers N l2 m2 → Ers N (l ++ l2) (m ++ m2)
 | [], _, [], _, _, h2 => h2
 | p :: ps, _, v :: vs, _, hh, h2 => by
  simp only [Ers] at hh
  exact Ers.cons hh.1 (hh.2.append h2)
 | [], _, _ :: _, _, hh, _ => by simp only [Ers] at hh
 | _ :: _, _, [], _, hh, _ => by simp only [Ers] at hh
theorem Ers.map {α : Type} (f : α → PV) (g : α → SV) : ∀ {l : List α}, (∀ x ∈ l, Er N (f x) (g x)) → Ers N (l.map f) (l.map g)
 | [], _ => Ers.nil
 | x :: r, h => Ers.cons (h x (.head _)) (Ers.map f g fun y hy => h y (.tail _ hy))
theorem Ers.set : ∀ {l : List PV} {m : List SV} {i : Nat} {p : PV} {v : SV}, Ers N l m → Er N p v → Ers N (l.set i p) (m.set i v)
 | [], [], _, _, _, _, _ => Ers.nil
 | p :: ps, v :: vs, 0, _, _, hh, h => by
  simp only [Ers] at hh
  exact Ers.cons h hh.2
 | p :: ps, v :: vs, i + 1, _, _, hh, h => by
  simp only [Ers] at hh
  exact Ers.cons hh.1 (hh.2.set h)
 | [], _ :: _, _, _, _, hh, _ => by simp only [Ers] at hh
 | _ :: _, [], _, _, _, hh, _ => by simp only [Ers] at hh
theorem Ers.replicate {p : PV} {v : SV} (h : Er N p v) : ∀ n : Nat, Ers N (List.replicate n p) (List.replicate n v)
 | 0 => Ers.nil
 | n + 1 => Ers.cons h (Ers.replicate h n)
end
/-! ### the two shapes -/
def pC (p : PV) : List Value := [.int .i64 p.k, .int .i64 p.n, .slice p.q p.l.length p.cap, .pointer (if p.k = 3 then some ⟨p.b, 0, none⟩ else none)]
def pF : Shp := ⟨4, by decide, pC, fun p => rfl⟩
def rC (p : PV) : List Value := [.int .i64 p.k, .int .i64 p.n, .slice p.q p.l.length p.cap]
def rF : Shp := ⟨3, by decide, rC, fun p => rfl⟩
def pw (n : Int) : PV := .mk 0 n none 0 0 []
abbrev us (l : List PV) : List (PV × Unit) := l.map fun p => (p, ())
theorem us_get {l : List PV} {i : Nat} {x : PV × Unit} (h : (us l)[i]? = some x) : l[i]? = some x.1 := by
 rw [List.getElem?_map] at h
 cases hl : l[i]? with
 | none => rw [hl] at h; cases h
 | some p => rw [hl] at h; obtain rfl := Option.some.inj h; rfl
theorem _root_.Go.Eng.Arr.pv {F : Shp} {w : World} {O : Nat → Prop} {l : List PV} {q : Option Addr} (h : Arr (pvR F) w O (us l) q) {i : Nat} {p : PV} (hp : l[i]? = some p) : ∃ a, q = some a ∧ O a.block ∧ CellsAt w (a.add (i * F.sz)) (F.cf p) ∧ PVO F w O p := by
 obtain ⟨a, x, h1, h2, h3, h4, h5⟩ := h.get (show i < (us l).length by rw [List.length_map]; exact (List.getElem?_eq_some_iff.1 hp).1)
 rw [us_get h3] at hp
 obtain rfl := Option.some.inj hp
 exact ⟨a, h1, h2, h4, h5⟩
def bxN (bx : List Nat) (k n : Int) (b : Nat) (m : Int) : Prop := if k = 3 then 0 ≤ m ∧ bx[m.toNat]? = some b else n = m
def rN (k n : Int) (b : Nat) (m : Int) : Prop := n = m
theorem bxN.more {bx : List Nat} (b0 : Nat) : ∀ k n b m, bxN bx k n b m → bxN (bx ++ [b0]) k n b m := by
 intro k n b m h
 unfold bxN at h ⊢
 split
 ·rename_i e
  rw [if_pos e] at h
  refine ⟨h.1, ?_⟩
  rw [List.getElem?_append_left (List.getElem?_eq_some_iff.1 h.2).1]
  exact h.2
 ·rename_i e
  rwa [if_neg e] at h
theorem bxN.z {bx : List Nat} : Er (bxN bx) zP zV := Er.of (by unfold bxN; rw [if_neg (by decide)]) Ers.nil
theorem rN.z : Er rN zP zV := Er.of rfl Ers.nil
end Go.Ss

/- Plain: what the checks of functions in single assignment form compute. No program in sight. No condition. -/
namespace Go.Ss
def firstE {α : Type} (f : α → Int) : List α → Int
 | [] => 0
 | x :: r => if f x = 0 then firstE f r else f x
theorem firstE_zero {α : Type} {f : α → Int} : ∀ {l : List α}, firstE f l = 0 ↔ ∀ x ∈ l, f x = 0
 | [] => by simp [firstE]
 | x :: r => by
  rw [firstE]
  split
  ·rename_i h
   rw [firstE_zero]
   simp [h]
  ·rename_i h
   simp [h]
theorem firstE_append {α : Type} (f : α → Int) : ∀ (l m : List α), firstE f (l ++ m) = if firstE f l = 0 then firstE f m else firstE f l
 | [], m => by simp [firstE]
 | x :: r, m => by
  rw [List.cons_append, firstE, firstE, firstE_append f r m]
  split <;> simp_all
def firstR (g : Nat → Int) (n : Nat) : Int := firstE g (List.range n)
theorem firstR_succ (g : Nat → Int) (n : Nat) : firstR g (n + 1) = if firstR g n = 0 then g n else firstR g n := by
 unfold firstR
 rw [List.range_succ, firstE_append]
 split
 ·simp only [firstE]
  split <;> simp_all
 ·rfl
theorem firstR_zero {g : Nat → Int} {n : Nat} : firstR g n = 0 ↔ ∀ i, i < n → g i = 0 := by
 unfold firstR
 rw [firstE_zero]
 simp
theorem firstR_at {g : Nat → Int} {n i : Nat} (hi : i < n) (h : firstR g i = 0) (he : g i ≠ 0) : firstR g n = g i := by
 induction n with
 | zero => omega
 | succ n ih =>
  rw [firstR_succ]
  by_cases e : i = n
  ·subst e
   rw [if_pos h]
  ·have := ih (by omega)
   rw [this, if_neg he]
theorem firstR_next {g : Nat → Int} {i : Nat} (h : firstR g i = 0) (he : g i = 0) : firstR g (i + 1) = 0 := by rw [firstR_succ, if_pos h, he]
/-! ### instructions -/
def wordB (n : Int) : Bool := decide (-1073741824 ≤ n) && decide (n ≤ 1073741823)
def opsN (i : In) : Option Int :=
 if i.op = 0 then some 0
 else if i.op = 1 ∨ i.op = 2 ∨ i.op = 3 ∨ i.op = 4 ∨ i.op = 5 ∨ i.op = 6 ∨ i.op = 7 ∨ i.op = 16 ∨ i.op = 18 ∨ i.op = 19 ∨ i.op = 21 ∨ i.op = 23 then some 2
 else if i.op = 20 then some 3
 else if i.op = 10 ∨ i.op = 11 ∨ i.op = 12 ∨ i.op = 15 ∨ i.op = 17 ∨ i.op = 24 then some 1
 else if i.op = 8 ∨ i.op = 9 ∨ i.op = 13 ∨ i.op = 14 then some (-1)
 else if i.op = 22 ∧ (i.n = 2 ∨ i.n = 4) then some i.n
 else none
def numB (i : In) : Bool :=
 if i.op = 0 then wordB i.n
 else if i.op = 8 ∨ i.op = 9 ∨ i.op = 13 then decide (0 ≤ i.n) && decide (i.n ≤ 255)
 else if i.op = 11 then decide (0 ≤ i.n) && decide (i.n ≤ 15)
 else if i.op = 23 then decide (i.n = 1) || decide (i.n = 2) || decide (i.n = 3)
 else if i.op = 24 then decide (0 ≤ i.n) && decide (i.n ≤ 3)
 else if i.op = 22 then true
 else decide (i.n = 0)
def formE (i : In) : Int :=
 match opsN i with
 | none => 3
 | some m =>
  if (0 ≤ m ∧ (i.args.length : Int) ≠ m) ∨ (i.op = 14 ∧ i.args.length = 0) then 3
  else if ((i.op = 8 ∨ i.op = 9) ∧ 16 < i.args.length) ∨ ((i.op = 13 ∨ i.op = 14) ∧ 6 < i.args.length) then 2
  else if numB i then 0 else 4
/-! ### ends -/
def shapeT (t : Tm) : Bool :=
 if t.kind = 0 then decide (t.to_.length = 0) && decide (t.n = 0) && decide (t.cases.length = 0)
 else if t.kind = 1 then decide (t.to_.length = 1) && decide (t.arg = 0) && decide (t.n = 0) && decide (t.cases.length = 0)
 else if t.kind = 2 then decide (t.to_.length = 2) && decide (t.n = 0) && decide (t.cases.length = 0)
 else if t.kind = 3 then decide (t.to_.length = t.cases.length + 1) && decide (t.n = 0)
 else if t.kind = 4 then decide (t.to_.length = 0) && decide (t.arg = 0) && decide (t.cases.length = 0)
 else false
def caseE (cs : List Int) (k : Nat) : Int := if wordB (cs.getD k 0) = false then 4 else if cs.getD k 0 ∈ cs.take k then 7 else 0
def edgeE (bs : List Bk) (e : Ed) : Int :=
 if ¬ (1 ≤ e.block ∧ e.block < (bs.length : Int)) then 4 else if e.args.length ≠ (bs.getD e.block.toNat ⟨[], [], ⟨0, 0, 0, [], []⟩⟩).params.length then 3 else 0
def termE (bs : List Bk) (t : Tm) : Int :=
 if shapeT t = false then 3
 else if 256 < t.cases.length then 2
 else if t.kind = 4 ∧ ¬ (1 ≤ t.n ∧ t.n ≤ 6) then 4
 else if ¬ firstR (caseE t.cases) t.cases.length = 0 then firstR (caseE t.cases) t.cases.length
 else firstE (edgeE bs) t.to_
/-! ### definitions -/
def defE (v : Int) (seen : List Int) : Int := if ¬ (0 ≤ v ∧ v ≤ 4095) then 4 else if v ∈ seen then 7 else 0
def paramE (seen ps : List Int) (j : Nat) : Int := defE (ps.getD j 0) (seen ++ ps.take j)
def insE (seen : List Int) (is : List In) (j : Nat) : Int :=
 if defE (is.getD j ⟨0, 0, 0, []⟩).to_ (seen ++ (is.take j).map In.to_) ≠ 0 then defE (is.getD j ⟨0, 0, 0, []⟩).to_ (seen ++ (is.take j).map In.to_) else formE (is.getD j ⟨0, 0, 0, []⟩)
def defsB (b : Bk) : List Int := b.params ++ b.ins.map In.to_
def defsF (bs : List Bk) : List Int := bs.flatMap defsB
def blockE (bs : List Bk) (seen : List Int) (b : Bk) : Int :=
 if ¬ firstR (paramE seen b.params) b.params.length = 0 then firstR (paramE seen b.params) b.params.length
 else if ¬ firstR (insE (seen ++ b.params) b.ins) b.ins.length = 0 then firstR (insE (seen ++ b.params) b.ins) b.ins.length
 else termE bs b.term
def noB : Bk := ⟨[], [], ⟨0, 0, 0, [], []⟩⟩
def shapeE (bs : List Bk) : Int := firstR (fun k => blockE bs (defsF (bs.take k)) (bs.getD k noB)) bs.length
/-! ### uses -/
def operT (t : Tm) : List Int := (if t.kind = 0 ∨ t.kind = 2 ∨ t.kind = 3 then [t.arg] else []) ++ t.to_.flatMap Ed.args
def graphB (bs : List Bk) : List (List Int) := bs.map fun b => b.term.to_.map Ed.block
def DefAt (bs : List Bk) (v : Int) (b a : Nat) : Prop := ∃ x, bs[b]? = some x ∧ ((a = 0 ∧ v ∈ x.params) ∨ ∃ j i, a = j + 1 ∧ x.ins[j]? = some i ∧ i.to_ = v)
def Fine (bs : List Bk) (v : Int) (k at_ : Nat) : Prop := ∃ b a, DefAt bs v b a ∧ ((b = k ∧ a ≤ at_) ∨ (b ≠ k ∧ Ovr (graphB bs) b k) ∨ ¬ Rc (graphB bs) (-1) k)
def UsesB (bs : List Bk) (k : Nat) (b : Bk) : Prop := (∀ (n : Nat) i, b.ins[n]? = some i → ∀ v ∈ i.args, Fine bs v k n) ∧ ∀ v ∈ operT b.term, Fine bs v k b.ins.length
def insAll (bs : List Bk) : Nat := (bs.map fun b => b.ins.length).sum
open Classical in
noncomputable def funcE (f : Fn) : Int :=
 if f.blocks.length = 0 then 3
 else if 128 < f.blocks.length ∨ 1024 < insAll f.blocks ∨ 6 < (f.blocks.getD 0 noB).params.length then 2
 else if ¬ (-1 ≤ f.name ∧ f.name ≤ 1048575) then 4
 else if ¬ shapeE f.blocks = 0 then shapeE f.blocks
 else if ∀ (k : Nat) b, f.blocks[k]? = some b → UsesB f.blocks k b then 0 else 6
end Go.Ss

/- Plain: what a unit in single assignment form does, step by step. No program in sight. No condition. -/
namespace Go.Ss
def wd (n : Int) : Int := (n + 1073741824) % 2147483648 - 1073741824
theorem wd_lo (n : Int) : -1073741824 ≤ wd n := by unfold wd; omega
theorem wd_hi (n : Int) : wd n ≤ 1073741823 := by unfold wd; omega
def wV (n : Int) : SV := .mk 0 n []
def b2i (b : Bool) : Int := if b then 1 else 0
def binV (op a b : Int) : Int :=
 if op = 1 then wd (a + b) else if op = 2 then wd (a - b) else if op = 3 then wd (a * b) else if op = 4 then wd (a.tdiv b) else if op = 5 then a.tmod b else if op = 6 then b2i (decide (a < b)) else b2i (decide (a = b))
def allK (k : Int) (l : List SV) : Bool := l.all fun v => decide (v.k = k)
inductive Rs where
 | ok (v : SV) (A : List (List SV)) (out : List Int) (cost : Nat)
 | trap (t : Int)
def rowA (A : List (List SV)) (v : SV) : List SV := A.getD v.n.toNat []
def insQ (op n : Int) («as» : List SV) (a0 a1 a2 : SV) (A : List (List SV)) (out : List Int) : Rs :=
 if op = 0 then .ok (wV n) A out 0
 else if 1 ≤ op ∧ op ≤ 7 then
  if allK 0 «as» = false then .trap 5 else if (op = 4 ∨ op = 5) ∧ a1.n = 0 then .trap 1 else .ok (wV (binV op a0.n a1.n)) A out 0
 else if op = 8 then .ok (.mk 1 n «as») A out 0
 else if op = 9 then .ok (.mk 2 n «as») A out 0
 else if op = 10 then if a0.k = 1 then .ok (wV a0.n) A out 0 else .trap 5
 else if op = 11 then if (a0.k = 1 ∨ a0.k = 2) ∧ n < (a0.l.length : Int) then .ok (a0.l.getD n.toNat zV) A out 0 else .trap 5
 else if op = 12 then if a0.k = 1 then .ok (wV a0.l.length) A out 0 else .trap 5
 else if op = 15 then if a0.k ≠ 0 then .trap 5 else if out.length = 1000 then .trap 6 else .ok zV A (out ++ [a0.n]) 0
 else if op = 16 then if a0.k ≠ 0 then .trap 5 else if a0.n < 0 ∨ 1024 < a0.n then .trap 6 else .ok (.mk 3 A.length []) (A ++ [List.replicate a0.n.toNat a1]) out a0.n.toNat
 else if op = 17 then if a0.k ≠ 3 then .trap 5 else .ok (wV (rowA A a0).length) A out 0
 else if op = 18 then if allK 0 «as» = false then .trap 5 else if a0.n < 0 ∨ a1.n ≤ a0.n then .trap 2 else .ok zV A out 0
 else if op = 19 then if a0.k ≠ 3 ∨ a1.k ≠ 0 then .trap 5 else if a1.n < 0 ∨ ((rowA A a0).length : Int) ≤ a1.n then .trap 2 else .ok ((rowA A a0).getD a1.n.toNat zV) A out 0
 else if op = 20 then if a0.k ≠ 3 ∨ a1.k ≠ 0 then .trap 5 else if a1.n < 0 ∨ ((rowA A a0).length : Int) ≤ a1.n then .trap 2 else .ok zV (A.set a0.n.toNat ((rowA A a0).set a1.n.toNat a2)) out 0
 else if op = 21 then if a0.k ≠ 1 ∨ a1.k ≠ 0 then .trap 5 else if a1.n < 0 ∨ (a0.l.length : Int) ≤ a1.n then .trap 2 else .ok (a0.l.getD a1.n.toNat zV) A out 0
 else if op = 22 then if allK 0 «as» = false then .trap 5 else .ok (.mk 4 0 «as») A out 0
 else if op = 23 then if allK 4 «as» = false ∨ a0.l.length ≠ a1.l.length then .trap 5 else .ok (.mk 4 0 (List.zipWith (fun x y => wV (binV n x.n y.n)) a0.l a1.l)) A out 0
 else if op = 24 then if a0.k ≠ 4 ∨ (a0.l.length : Int) ≤ n then .trap 5 else .ok (a0.l.getD n.toNat zV) A out 0
 else .trap 0
def insP (op n : Int) («as» : List SV) (A : List (List SV)) (out : List Int) : Rs := insQ op n «as» («as».getD 0 zV) («as».getD 1 zV) («as».getD 2 zV) A out
/-! ### the machine -/
structure Frm where
 fn : Nat
 blk : Nat
 at_ : Nat
 to_ : Int
 vals : Int → SV
structure Mch where
 st : List Frm
 A : List (List SV)
 out : List Int
 left : Nat
inductive Fin where
 | short
 | done (en va : Int) (out : List Int) (left : Nat)
inductive Stp where
 | next (m : Mch)
 | fin (f : Fin)
def setV (f : Int → SV) (k : Int) (v : SV) : Int → SV := fun x => if x = k then v else f x
def setVs : (Int → SV) → List Int → List SV → (Int → SV)
 | f, p :: ps, v :: vs => setVs (setV f p v) ps vs
 | f, _, _ => f
def noF : Fn := ⟨0, []⟩
def fnB (fs : List Fn) (i : Nat) : List Bk := (fs.getD i noF).blocks
def parB (fs : List Fn) (i k : Nat) : List Int := ((fnB fs i).getD k noB).params
def newF (fs : List Fn) (fn : Int) («as» : List SV) (to_ : Int) : Frm := ⟨fn.toNat, 0, 0, to_, setVs (fun _ => zV) (parB fs fn.toNat 0) «as»⟩
def noE : Ed := ⟨0, []⟩
def folF (fs : List Fn) (f : Frm) (e : Ed) : Frm := ⟨f.fn, e.block.toNat, 0, f.to_, setVs f.vals (parB fs f.fn e.block.toNat) (e.args.map f.vals)⟩
def idxI (n : Int) : List Int → Nat → Nat
 | [], i => i
 | c :: r, i => if c = n then i else idxI n r (i + 1)
def chooseE (t : Tm) (n : Int) : Nat := if t.kind = 2 then if n = 0 then 1 else 0 else idxI n t.cases 0
def stepP (fs : List Fn) (m : Mch) : Stp :=
 match m.st with
 | [] => .fin .short
 | f :: K =>
  if m.left = 0 then .fin .short
  else match ((fnB fs f.fn).getD f.blk noB).ins[f.at_]? with
   | some i =>
    if i.op = 13 then .next ⟨newF fs i.n (i.args.map f.vals) i.to_ :: ⟨f.fn, f.blk, f.at_ + 1, f.to_, f.vals⟩ :: K, m.A, m.out, m.left - 1⟩
    else if i.op = 14 then
     if (((i.args.map f.vals).getD 0 zV).k = 2 ∧ (parB fs ((i.args.map f.vals).getD 0 zV).n.toNat 0).length = i.args.length) then
      .next ⟨newF fs ((i.args.map f.vals).getD 0 zV).n (i.args.map f.vals) i.to_ :: ⟨f.fn, f.blk, f.at_ + 1, f.to_, f.vals⟩ :: K, m.A, m.out, m.left - 1⟩
     else .fin (.done 5 0 m.out (m.left - 1))
    else match insP i.op i.n (i.args.map f.vals) m.A m.out with
     | .trap t => .fin (.done t 0 m.out (m.left - 1))
     | .ok v A out c => if m.left - 1 < c then .fin .short else .next ⟨⟨f.fn, f.blk, f.at_ + 1, f.to_, setV f.vals i.to_ v⟩ :: K, A, out, m.left - 1 - c⟩
   | none =>
    let t := ((fnB fs f.fn).getD f.blk noB).term
    if t.kind = 4 then .fin (.done t.n 0 m.out (m.left - 1))
    else if t.kind = 1 then .next ⟨folF fs f (t.to_.getD 0 noE) :: K, m.A, m.out, m.left - 1⟩
    else if t.kind = 0 then
     match K with
     | [] => .fin (.done 0 (if (f.vals t.arg).k = 0 ∨ (f.vals t.arg).k = 1 then (f.vals t.arg).n else 0) m.out (m.left - 1))
     | g :: K' => .next ⟨⟨g.fn, g.blk, g.at_, g.to_, setV g.vals f.to_ (f.vals t.arg)⟩ :: K', m.A, m.out, m.left - 1⟩
    else if (f.vals t.arg).k ≠ 0 then .fin (.done 5 0 m.out (m.left - 1))
    else .next ⟨folF fs f (t.to_.getD (chooseE t (f.vals t.arg).n) noE) :: K, m.A, m.out, m.left - 1⟩
inductive Steps (fs : List Fn) : Mch → Mch → Prop where
 | refl (m : Mch) : Steps fs m m
 | step {m m' m'' : Mch} (h : stepP fs m = .next m') (r : Steps fs m' m'') : Steps fs m m''
theorem Steps.trans {fs : List Fn} {a b c : Mch} (h : Steps fs a b) (g : Steps fs b c) : Steps fs a c := by
 induction h with
 | refl => exact g
 | step h _ ih => exact .step h (ih g)
theorem Steps.one {fs : List Fn} {a b : Mch} (h : stepP fs a = .next b) : Steps fs a b := .step h (.refl _)
def Ends (fs : List Fn) (m : Mch) (f : Fin) : Prop := ∃ m', Steps fs m m' ∧ stepP fs m' = .fin f
theorem Ends.after {fs : List Fn} {a b : Mch} {f : Fin} (h : Steps fs a b) (g : Ends fs b f) : Ends fs a f := by
 obtain ⟨m, h1, h2⟩ := g
 exact ⟨m, h.trans h1, h2⟩
theorem Ends.det {fs : List Fn} {m : Mch} {f g : Fin} (h : Ends fs m f) (k : Ends fs m g) : f = g := by
 obtain ⟨x, h1, h2⟩ := h
 obtain ⟨y, h3, h4⟩ := k
 induction h1 with
 | refl =>
  cases h3 with
  | refl => rw [h2] at h4; exact Stp.fin.inj h4
  | step h5 _ => rw [h2] at h5; cases h5
 | step h5 _ ih =>
  cases h3 with
  | refl => rw [h5] at h4; cases h4
  | step h6 h7 =>
   rw [h5] at h6
   obtain rfl := Stp.next.inj h6
   exact ih h2 h7
/-! ### what all values satisfy -/
mutual
/-- words are words, closures are functions', vectors hold words, arrays are there -/
def WfV (nf na : Nat) : SV → Prop
 | .mk k n l => ((k = 0 ∨ k = 1 → -1073741824 ≤ n ∧ n ≤ 1073741823) ∧ (k = 2 → 0 ≤ n ∧ n < (nf : Int)) ∧ (k = 3 → 0 ≤ n ∧ n < (na : Int)) ∧ (k = 4 → ∀ v ∈ l, v.k = 0) ∧ (0 ≤ k ∧ k ≤ 4) ∧ l.length ≤ 16) ∧ WfVs nf na l
def WfVs (nf na : Nat) : List SV → Prop
 | [] => True
 | v :: r => WfV nf na v ∧ WfVs nf na r
end
section
variable {nf na na' : Nat}
theorem WfVs.all : ∀ {l : List SV}, WfVs nf na l ↔ ∀ v ∈ l, WfV nf na v
 | [] => by simp [WfVs]
 | v :: r => by simp only [WfVs, List.forall_mem_cons, WfVs.all]
mutual
theorem WfV.mono (h : na ≤ na') : ∀ {v : SV}, WfV nf na v → WfV nf na' v
 | .mk k n l, hv => by
  simp only [WfV] at hv ⊢
  exact ⟨⟨hv.1.1, hv.1.2.1, fun e => ⟨(hv.1.2.2.1 e).1, by have := (hv.1.2.2.1 e).2; omega⟩, hv.1.2.2.2⟩, WfVs.mono h hv.2⟩
theorem WfVs.mono (h : na ≤ na') : ∀ {l : List SV}, WfVs nf na l → WfVs nf na' l
 | [], _ => by simp only [WfVs]
 | v :: r, hv => by
  simp only [WfVs] at hv ⊢
  exact ⟨WfV.mono h hv.1, WfVs.mono h hv.2⟩
end
theorem WfV.word {v : SV} (h : WfV nf na v) (hk : v.k = 0) : -1073741824 ≤ v.n ∧ v.n ≤ 1073741823 := by
 cases v; simp only [WfV] at h; exact h.1.1 (.inl hk)
theorem WfV.obj {v : SV} (h : WfV nf na v) (hk : v.k = 1) : -1073741824 ≤ v.n ∧ v.n ≤ 1073741823 := by
 cases v; simp only [WfV] at h; exact h.1.1 (.inr hk)
theorem WfV.ln {v : SV} (h : WfV nf na v) : v.l.length ≤ 16 := by
 cases v; simp only [WfV] at h; exact h.1.2.2.2.2.2
theorem WfV.clos {v : SV} (h : WfV nf na v) (hk : v.k = 2) : 0 ≤ v.n ∧ v.n < (nf : Int) := by
 cases v; simp only [WfV] at h; exact h.1.2.1 hk
theorem WfV.arr {v : SV} (h : WfV nf na v) (hk : v.k = 3) : 0 ≤ v.n ∧ v.n < (na : Int) := by
 cases v; simp only [WfV] at h; exact h.1.2.2.1 hk
theorem WfV.vec {v : SV} (h : WfV nf na v) (hk : v.k = 4) : ∀ x ∈ v.l, x.k = 0 := by
 cases v; simp only [WfV] at h; exact h.1.2.2.2.1 hk
theorem WfV.kids {v : SV} (h : WfV nf na v) : ∀ x ∈ v.l, WfV nf na x := by
 cases v; simp only [WfV] at h; exact WfVs.all.1 h.2
theorem WfV.wV {n : Int} (h : -1073741824 ≤ n ∧ n ≤ 1073741823) : WfV nf na (wV n) := by
 simp only [Go.Ss.wV, WfV, WfVs]
 exact ⟨⟨fun _ => h, by omega, by omega, by omega, by omega, by simp⟩, trivial⟩
theorem WfV.zV : WfV nf na zV := WfV.wV (n := 0) (by omega)
theorem WfV.getD {l : List SV} (h : ∀ v ∈ l, WfV nf na v) (i : Nat) : WfV nf na (l.getD i Go.Ss.zV) := by
 rw [List.getD_eq_getElem?_getD]
 cases hi : l[i]? with
 | none => exact WfV.zV
 | some v => exact h v (List.mem_of_getElem? hi)
end
theorem tm_bd {x y : Int} (hx : -1073741824 ≤ x ∧ x ≤ 1073741823) (hy : -1073741824 ≤ y ∧ y ≤ 1073741823) (h0 : y ≠ 0) : -1073741824 ≤ x.tmod y ∧ x.tmod y ≤ 1073741823 := by
 have h1 : (x.tmod y).natAbs < y.natAbs := by rw [Int.natAbs_tmod]; exact Nat.mod_lt _ (by omega)
 omega
theorem b2i_bd (b : Bool) : -1073741824 ≤ b2i b ∧ b2i b ≤ 1073741823 := by cases b <;> decide
theorem binV_bd {op a b : Int} (ha : -1073741824 ≤ a ∧ a ≤ 1073741823) (hb : -1073741824 ≤ b ∧ b ≤ 1073741823) (h0 : op = 5 → b ≠ 0) : -1073741824 ≤ binV op a b ∧ binV op a b ≤ 1073741823 := by
 unfold binV
 split
 ·exact ⟨wd_lo _, wd_hi _⟩
 split
 ·exact ⟨wd_lo _, wd_hi _⟩
 split
 ·exact ⟨wd_lo _, wd_hi _⟩
 split
 ·exact ⟨wd_lo _, wd_hi _⟩
 split
 ·next h => exact tm_bd ha hb (h0 h)
 split
 ·exact b2i_bd _
 ·exact b2i_bd _
theorem allK_iff {k : Int} {l : List SV} : allK k l = true ↔ ∀ v ∈ l, v.k = k := by simp [allK]
theorem zipW_mem {f : SV → SV → SV} : ∀ {l m : List SV} {x : SV}, x ∈ List.zipWith f l m → ∃ a ∈ l, ∃ b ∈ m, x = f a b
 | [], _, _, h => by simp at h
 | _ :: _, [], _, h => by simp at h
 | a :: l, b :: m, x, h => by
  rw [List.zipWith_cons_cons] at h
  rcases List.mem_cons.1 h with rfl | h
  ·exact ⟨a, .head _, b, .head _, rfl⟩
  ·obtain ⟨a', h1, b', h2, h3⟩ := zipW_mem h
   exact ⟨a', .tail _ h1, b', .tail _ h2, h3⟩
structure InsOk (fs : List Fn) (i : In) : Prop where
 form : formE i = 0
 call : i.op = 13 → i.n < (fs.length : Int) ∧ (parB fs i.n.toNat 0).length = i.args.length
 clos : i.op = 9 → i.n < (fs.length : Int) ∧ (parB fs i.n.toNat 0).length ≠ 0
theorem form_zero {i : In} (h : formE i = 0) : ∃ m, opsN i = some m ∧ (0 ≤ m → (i.args.length : Int) = m) ∧ (i.op = 14 → i.args.length ≠ 0) ∧ (i.op = 8 ∨ i.op = 9 → i.args.length ≤ 16) ∧ (i.op = 13 ∨ i.op = 14 → i.args.length ≤ 6) ∧ numB i = true := by
 unfold formE at h
 cases hm : opsN i with
 | none => rw [hm] at h; simp at h
 | some m =>
  rw [hm] at h
  simp only at h
  split at h
  ·simp at h
  ·rename_i h1
   split at h
   ·simp at h
   ·rename_i h2
    split at h
    ·rename_i h3
     exact ⟨m, rfl, fun h0 => Decidable.byContradiction fun hc => h1 (.inl ⟨h0, hc⟩), fun ho hl => h1 (.inr ⟨ho, hl⟩), fun ho => by
      rcases Nat.lt_or_ge 16 i.args.length with hl | hl
      ·exact absurd (.inl ⟨ho, hl⟩) h2
      ·exact hl, fun ho => by
      rcases Nat.lt_or_ge 6 i.args.length with hl | hl
      ·exact absurd (.inr ⟨ho, hl⟩) h2
      ·exact hl, h3⟩
    ·simp at h
theorem WfV.mk' {nf na : Nat} {k n : Int} {l : List SV} (h0 : k = 0 ∨ k = 1 → -1073741824 ≤ n ∧ n ≤ 1073741823) (h2 : k = 2 → 0 ≤ n ∧ n < (nf : Int)) (h3 : k = 3 → 0 ≤ n ∧ n < (na : Int)) (h4 : k = 4 → ∀ v ∈ l, v.k = 0) (hk : (0 ≤ k ∧ k ≤ 4) ∧ l.length ≤ 16) (hl : ∀ v ∈ l, WfV nf na v) : WfV nf na (.mk k n l) := by
 simp only [WfV]
 exact ⟨⟨h0, h2, h3, h4, hk⟩, WfVs.all.2 hl⟩
theorem rowA_mem {A : List (List SV)} {v x : SV} (h : x ∈ rowA A v) : ∃ l ∈ A, x ∈ l := by
 unfold rowA at h
 rw [List.getD_eq_getElem?_getD] at h
 cases hi : A[v.n.toNat]? with
 | none => rw [hi] at h; cases h
 | some l => rw [hi] at h; exact ⟨l, List.mem_of_getElem? hi, h⟩
theorem insP_wf {fs : List Fn} {i : In} (hi : InsOk fs i) {«as» : List SV} {A : List (List SV)} {out : List Int} (has : ∀ v ∈ «as», WfV fs.length A.length v) (hasl : «as».length = i.args.length) (hA : ∀ l ∈ A, ∀ v ∈ l, WfV fs.length A.length v) (hAl : ∀ l ∈ A, l.length ≤ 1024) {v : SV} {A' : List (List SV)} {out' : List Int} {c : Nat}
  (h : insP i.op i.n «as» A out = .ok v A' out' c) : A.length ≤ A'.length ∧ WfV fs.length A'.length v ∧ ∀ l ∈ A', ∀ v ∈ l, WfV fs.length A'.length v := by
 have h0 := WfV.getD has 0
 have h1 := WfV.getD has 1
 have h2 := WfV.getD has 2
 unfold insP at h
 have hkk : allK 0 «as» = true → («as».getD 0 zV).k = 0 ∧ («as».getD 1 zV).k = 0 := fun e => by
  have hall := allK_iff.1 e
  have hk : ∀ j : Nat, («as».getD j zV).k = 0 := fun j => by
   rw [List.getD_eq_getElem?_getD]
   cases hj : «as»[j]? with
   | none => rfl
   | some v => exact hall v (List.mem_of_getElem? hj)
  exact ⟨hk 0, hk 1⟩
 have hk4 : allK 4 «as» = true → «as».length = 2 → («as».getD 0 zV).k = 4 ∧ («as».getD 1 zV).k = 4 := fun e hl => by
  have hall := allK_iff.1 e
  match «as», hl with
  | [x, y], _ => exact ⟨hall x (by simp), hall y (by simp)⟩
 have hlen : ∀ v : SV, (rowA A v).length ≤ 1024 := fun v => by
  unfold rowA
  rw [List.getD_eq_getElem?_getD]
  cases hi2 : A[v.n.toNat]? with
  | none => simp
  | some l => exact hAl l (List.mem_of_getElem? hi2)
 generalize «as».getD 0 zV = a0 at *
 generalize «as».getD 1 zV = a1 at *
 generalize «as».getD 2 zV = a2 at *
 have same : ∀ {x : SV} {o : List Int} {d : Nat}, WfV fs.length A.length x → Rs.ok x A o d = .ok v A' out' c → A.length ≤ A'.length ∧ WfV fs.length A'.length v ∧ ∀ l ∈ A', ∀ v ∈ l, WfV fs.length A'.length v := by
  intro x o d hx hr
  obtain ⟨rfl, rfl, rfl, rfl⟩ := Rs.ok.inj hr
  exact ⟨Nat.le_refl _, hx, hA⟩
 have hrow : ∀ x ∈ rowA A a0, WfV fs.length A.length x := fun x hx => by
  obtain ⟨l, h3, h4⟩ := rowA_mem hx
  exact hA l h3 x h4
 obtain ⟨m, hm1, hm2, _, hm4, _, hnum⟩ := form_zero hi.form
 unfold insQ at h
 by_cases e : i.op = 0
 ·rw [if_pos e] at h
  refine same (WfV.wV ?_) h
  simp only [numB, e, if_true, wordB, Bool.and_eq_true, decide_eq_true_eq] at hnum
  exact hnum
 rw [if_neg e] at h
 clear e
 by_cases e : 1 ≤ i.op ∧ i.op ≤ 7
 ·rw [if_pos e] at h
  by_cases e2 : allK 0 «as» = false
  ·rw [if_pos e2] at h; cases h
  rw [if_neg e2] at h
  by_cases e3 : (i.op = 4 ∨ i.op = 5) ∧ a1.n = 0
  ·rw [if_pos e3] at h; cases h
  rw [if_neg e3] at h
  refine same (WfV.wV ?_) h
  obtain ⟨hk0, hk1⟩ := hkk (by simpa using e2)
  exact binV_bd (h0.word hk0) (h1.word hk1) (fun e5 e6 => e3 ⟨.inr e5, e6⟩)
 rw [if_neg e] at h
 clear e
 by_cases e : i.op = 8
 ·rw [if_pos e] at h
  have hn : 0 ≤ i.n ∧ i.n ≤ 255 := by
   unfold numB at hnum
   rw [if_neg (by omega), if_pos (by omega)] at hnum
   simpa only [Bool.and_eq_true, decide_eq_true_eq] using hnum
  exact same (WfV.mk' (by omega) (by omega) (by omega) (by omega) (by omega) has) h
 rw [if_neg e] at h
 clear e
 by_cases e : i.op = 9
 ·rw [if_pos e] at h
  refine same (WfV.mk' (by omega) (fun _ => ⟨?_, (hi.clos e).1⟩) (by omega) (by omega) (by omega) has) h
  unfold numB at hnum
  rw [if_neg (by omega), if_pos (by omega)] at hnum
  simp only [Bool.and_eq_true, decide_eq_true_eq] at hnum
  exact hnum.1
 rw [if_neg e] at h
 clear e
 by_cases e : i.op = 10
 ·rw [if_pos e] at h
  by_cases e2 : a0.k = 1
  ·rw [if_pos e2] at h
   refine same (WfV.wV ?_) h
   exact h0.obj e2
  ·rw [if_neg e2] at h; cases h
 rw [if_neg e] at h
 clear e
 by_cases e : i.op = 11
 ·rw [if_pos e] at h
  by_cases e2 : (a0.k = 1 ∨ a0.k = 2) ∧ i.n < (a0.l.length : Int)
  ·rw [if_pos e2] at h
   exact same (WfV.getD h0.kids _) h
  ·rw [if_neg e2] at h; cases h
 rw [if_neg e] at h
 clear e
 by_cases e : i.op = 12
 ·rw [if_pos e] at h
  by_cases e2 : a0.k = 1
  ·rw [if_pos e2] at h
   exact same (WfV.wV (by have := h0.ln; omega)) h
  ·rw [if_neg e2] at h; cases h
 rw [if_neg e] at h
 clear e
 by_cases e : i.op = 15
 ·rw [if_pos e] at h
  by_cases e2 : a0.k ≠ 0
  ·rw [if_pos e2] at h; cases h
  rw [if_neg e2] at h
  by_cases e3 : out.length = 1000
  ·rw [if_pos e3] at h; cases h
  rw [if_neg e3] at h
  exact same WfV.zV h
 rw [if_neg e] at h
 clear e
 by_cases e : i.op = 16
 ·rw [if_pos e] at h
  by_cases e2 : a0.k ≠ 0
  ·rw [if_pos e2] at h; cases h
  rw [if_neg e2] at h
  by_cases e3 : a0.n < 0 ∨ 1024 < a0.n
  ·rw [if_pos e3] at h; cases h
  rw [if_neg e3] at h
  obtain ⟨rfl, rfl, rfl, rfl⟩ := Rs.ok.inj h
  have hle : A.length ≤ (A ++ [List.replicate a0.n.toNat a1]).length := by simp
  refine ⟨hle, WfV.mk' (by omega) (by omega) (fun _ => ⟨by omega, by simp; omega⟩) (by omega) ⟨by omega, by simp⟩ (fun x hx => by cases hx), fun l hl x hx => ?_⟩
  rcases List.mem_append.1 hl with hl | hl
  ·exact (hA l hl x hx).mono hle
  ·rw [List.mem_singleton.1 hl] at hx
   rw [List.eq_of_mem_replicate hx]
   exact h1.mono hle
 rw [if_neg e] at h
 clear e
 by_cases e : i.op = 17
 ·rw [if_pos e] at h
  by_cases e2 : a0.k ≠ 3
  ·rw [if_pos e2] at h; cases h
  rw [if_neg e2] at h
  exact same (WfV.wV (by have := hlen a0; omega)) h
 rw [if_neg e] at h
 clear e
 by_cases e : i.op = 18
 ·rw [if_pos e] at h
  by_cases e2 : allK 0 «as» = false
  ·rw [if_pos e2] at h; cases h
  rw [if_neg e2] at h
  by_cases e3 : a0.n < 0 ∨ a1.n ≤ a0.n
  ·rw [if_pos e3] at h; cases h
  rw [if_neg e3] at h
  exact same WfV.zV h
 rw [if_neg e] at h
 clear e
 by_cases e : i.op = 19
 ·rw [if_pos e] at h
  by_cases e2 : a0.k ≠ 3 ∨ a1.k ≠ 0
  ·rw [if_pos e2] at h; cases h
  rw [if_neg e2] at h
  by_cases e3 : a1.n < 0 ∨ ((rowA A a0).length : Int) ≤ a1.n
  ·rw [if_pos e3] at h; cases h
  rw [if_neg e3] at h
  exact same (WfV.getD hrow _) h
 rw [if_neg e] at h
 clear e
 by_cases e : i.op = 20
 ·rw [if_pos e] at h
  by_cases e2 : a0.k ≠ 3 ∨ a1.k ≠ 0
  ·rw [if_pos e2] at h; cases h
  rw [if_neg e2] at h
  by_cases e3 : a1.n < 0 ∨ ((rowA A a0).length : Int) ≤ a1.n
  ·rw [if_pos e3] at h; cases h
  rw [if_neg e3] at h
  obtain ⟨rfl, rfl, rfl, rfl⟩ := Rs.ok.inj h
  rw [List.length_set]
  refine ⟨Nat.le_refl _, WfV.zV, fun l hl x hx => ?_⟩
  rcases List.mem_or_eq_of_mem_set hl with hl | rfl
  ·exact hA l hl x hx
  ·rcases List.mem_or_eq_of_mem_set hx with hx | rfl
   ·exact hrow x hx
   ·exact h2
 rw [if_neg e] at h
 clear e
 by_cases e : i.op = 21
 ·rw [if_pos e] at h
  by_cases e2 : a0.k ≠ 1 ∨ a1.k ≠ 0
  ·rw [if_pos e2] at h; cases h
  rw [if_neg e2] at h
  by_cases e3 : a1.n < 0 ∨ (a0.l.length : Int) ≤ a1.n
  ·rw [if_pos e3] at h; cases h
  rw [if_neg e3] at h
  exact same (WfV.getD h0.kids _) h
 rw [if_neg e] at h
 clear e
 by_cases e : i.op = 22
 ·rw [if_pos e] at h
  by_cases e2 : allK 0 «as» = false
  ·rw [if_pos e2] at h; cases h
  rw [if_neg e2] at h
  have hl4 : «as».length ≤ 16 := by
   unfold opsN at hm1
   rw [if_neg (by omega), if_neg (by omega), if_neg (by omega), if_neg (by omega), if_neg (by omega)] at hm1
   by_cases hc : i.op = 22 ∧ (i.n = 2 ∨ i.n = 4)
   ·rw [if_pos hc] at hm1
    obtain rfl := Option.some.inj hm1
    have := hm2 (by omega)
    omega
   ·rw [if_neg hc] at hm1; cases hm1
  exact same (WfV.mk' (by omega) (by omega) (by omega) (fun _ => allK_iff.1 (by simpa using e2)) ⟨by omega, hl4⟩ has) h
 rw [if_neg e] at h
 clear e
 by_cases e : i.op = 23
 ·rw [if_pos e] at h
  by_cases e2 : allK 4 «as» = false ∨ a0.l.length ≠ a1.l.length
  ·rw [if_pos e2] at h; cases h
  rw [if_neg e2] at h
  have hlen2 : «as».length = 2 := by
   unfold opsN at hm1
   rw [if_neg (by omega), if_pos (by omega)] at hm1
   obtain rfl := Option.some.inj hm1
   have := hm2 (by omega)
   omega
  obtain ⟨hk0, hk1⟩ := hk4 (by cases hx : allK 4 «as» with | true => rfl | false => exact absurd (.inl hx) e2) hlen2
  have hn5 : i.n ≠ 5 := by
   unfold numB at hnum
   rw [if_neg (by omega), if_neg (by omega), if_neg (by omega), if_pos e] at hnum
   simp only [Bool.or_eq_true, decide_eq_true_eq] at hnum
   omega
  refine same (WfV.mk' (by omega) (by omega) (by omega) (fun _ x hx => ?_) ⟨by omega, by rw [List.length_zipWith]; have := h0.ln; omega⟩ (fun x hx => ?_)) h
  ·obtain ⟨a, _, b, _, rfl⟩ := zipW_mem hx
   rfl
  ·obtain ⟨a, ha, b, hb, rfl⟩ := zipW_mem hx
   exact WfV.wV (binV_bd ((h0.kids a ha).word (h0.vec hk0 a ha)) ((h1.kids b hb).word (h1.vec hk1 b hb)) (fun e5 => absurd e5 hn5))
 rw [if_neg e] at h
 clear e
 by_cases e : i.op = 24
 ·rw [if_pos e] at h
  by_cases e2 : a0.k ≠ 4 ∨ (a0.l.length : Int) ≤ i.n
  ·rw [if_pos e2] at h; cases h
  rw [if_neg e2] at h
  exact same (WfV.getD h0.kids _) h
 rw [if_neg e] at h
 cases h
end Go.Ss
