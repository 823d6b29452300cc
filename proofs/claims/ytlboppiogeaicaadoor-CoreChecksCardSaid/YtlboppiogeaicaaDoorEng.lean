/- A small calculus for walks: the temporaries as a list of entries, memory as a list of owned items and of worlds that are kept; rules for the operations. General: any program P. No condition. -/
import Derived.WalkKit
import Derived.Deep.Quiet
import Derived.ProofKit
import Derived.OpenShut
import Derived.LoopN
namespace Go.Eng
open Go.RowKit
set_option linter.unusedVariables false
set_option linter.unusedSimpArgs false

/-! ### Entries: slot, condition, value -/

abbrev Env := List (Nat × Bool × Value)

def look : Env → Nat → Option (Bool × Value)
  | [], _ => none
  | (t, e) :: r, s => bif Nat.beq t s then some e else look r s

def evl (l : Env) : Operand → Option (Bool × Value)
  | .tmp t => look l t
  | .const v => some (true, v)
  | .global g => some (true, .pointer (some ⟨g, 0, none⟩))
  | .func f => some (true, .func (.func f) #[] #[])

structure Sees (n : Nat) (l : Env) (a : Act) : Prop where
  df : a.defers = []
  sz : a.tmps.size = n
  at_ : ∀ t c v, look l t = some (c, v) → a.tmps[t]? = some (bif c then v else undef)

theorem Sees.eval {n : Nat} {l : Env} {a : Act} (h : Sees n l a) {x : Operand} {c : Bool} {v : Value} (hx : evl l x = some (c, v)) (hc : c = true) : a.eval x = v := by
  subst hc
  match x, hx with
  | .tmp t, hx =>
    have := h.at_ t true v hx
    simp only [Act.eval, Array.getD_eq_getD_getElem?, this]; rfl
  | .const u, hx => simp only [evl, Option.some.injEq, Prod.mk.injEq] at hx; exact hx.2
  | .global g, hx => simp only [evl, Option.some.injEq, Prod.mk.injEq] at hx; exact hx.2
  | .func f, hx => simp only [evl, Option.some.injEq, Prod.mk.injEq] at hx; exact hx.2

theorem Sees.put {n : Nat} {l : Env} {a : Act} (h : Sees n l a) {d : Nat} (hd : d < n) (c : Bool) (v : Value) :
    Sees n ((d, c, v) :: l) (a.put (some d) (bif c then v else undef)) := by
  refine ⟨h.df, ?_, fun t c' v' ht => ?_⟩
  · show (a.tmps.setIfInBounds d _).size = n
    rw [Array.size_setIfInBounds]; exact h.sz
  · show (a.tmps.setIfInBounds d _)[t]? = _
    rw [Array.getElem?_setIfInBounds]
    simp only [look] at ht
    by_cases e : d = t
    · subst e
      rw [Nat.beq_refl, cond_true] at ht
      simp only [Option.some.injEq, Prod.mk.injEq] at ht
      obtain ⟨rfl, rfl⟩ := ht
      rw [if_pos rfl, if_pos (by rw [h.sz]; exact hd)]
    · rw [show Nat.beq d t = false from by rw [Bool.eq_false_iff]; intro hb; exact e (Nat.eq_of_beq_eq_true hb), cond_false] at ht
      rw [if_neg e]
      exact h.at_ t c' v' ht

/-- every entry of l' stands in l -/
inductive Sub (l : Env) : Env → Prop where
  | nil : Sub l []
  | cons {t : Nat} {c : Bool} {v : Value} {l' : Env} (h : look l t = some (c, v)) (r : Sub l l') : Sub l ((t, c, v) :: l')

theorem Sub.look {l l' : Env} (h : Sub l l') : ∀ t c v, look l' t = some (c, v) → Eng.look l t = some (c, v) := by
  induction h with
  | nil => intro t c v h; cases h
  | @cons t0 c0 v0 l0 h0 _ ih =>
    intro t c v ht
    simp only [Eng.look] at ht
    by_cases e : t0 = t
    · subst e
      rw [Nat.beq_refl, cond_true] at ht
      rw [h0]; exact ht
    · rw [show Nat.beq t0 t = false from by rw [Bool.eq_false_iff]; intro hb; exact e (Nat.eq_of_beq_eq_true hb), cond_false] at ht
      exact ih t c v ht

theorem Sees.sub {n : Nat} {l l' : Env} {a : Act} (h : Sees n l a) (hs : Sub l l') : Sees n l' a :=
  ⟨h.df, h.sz, fun t c v ht => h.at_ t c v (hs.look t c v ht)⟩

/-! ### Guards -/

inductive Guard (l : Env) (ops : Array Oper) : Option (Nat × Bool) → Bool → Prop where
  | none : Guard l ops .none true
  | yes {j d : Nat} {b : Bool} (hd : (ops[j]?).bind (·.dst) = some d) (h : look l d = some (true, .bool b)) : Guard l ops (some (j, true)) b
  | no {j d : Nat} {b : Bool} (hd : (ops[j]?).bind (·.dst) = some d) (h : look l d = some (true, .bool b)) : Guard l ops (some (j, false)) (!b)
  | cyes {j d : Nat} {c b : Bool} (hd : (ops[j]?).bind (·.dst) = some d) (h : look l d = some (c, .bool b)) : Guard l ops (some (j, true)) (c && b)
  | cno {j d : Nat} {c b : Bool} (hd : (ops[j]?).bind (·.dst) = some d) (h : look l d = some (c, .bool b)) : Guard l ops (some (j, false)) (c && !b)

theorem yielded_of {n : Nat} {l : Env} {a : Act} (hs : Sees n l a) {ops : Array Oper} {j d : Nat} {c b : Bool} (hd : (ops[j]?).bind (·.dst) = some d) (h : look l d = some (c, .bool b)) :
    yielded ops a.tmps j = if c then some b else none := by
  have ht := hs.at_ d c _ h
  unfold yielded
  rw [hd]
  simp only [Option.bind_some, ht]
  cases c <;> simp [undef]

theorem Guard.wanted {n : Nat} {l : Env} {a : Act} (hs : Sees n l a) {ops : Array Oper} {o : Oper} {c : Bool} (h : Guard l ops o.guard c) :
    Region.wanted o (yielded ops a.tmps) = c := by
  unfold Region.wanted
  generalize o.guard = g at h
  cases h with
  | none => rfl
  | @yes j d b hd h => simp only [yielded_of hs hd h, if_true]; cases c <;> rfl
  | @no j d b hd h => simp only [yielded_of hs hd h, if_true]; cases b <;> rfl
  | @cyes j d c b hd h => simp only [yielded_of hs hd h]; cases c <;> cases b <;> rfl
  | @cno j d c b hd h => simp only [yielded_of hs hd h]; cases c <;> cases b <;> rfl

/-! ### Memory: items and kept worlds -/

structure Item where
  own : Nat → Prop
  holds : World → Prop
  stab : ∀ w w' : World, (∀ k, own k → w'.heap[k]? = w.heap[k]?) → holds w → holds w'

/-- what is kept of s in w: all but the blocks O -/
structure Keep (O : Nat → Prop) (s w : World) : Prop where
  os : w.os = s.os
  tape : w.tape = s.tape
  output : w.output = s.output
  size : s.heap.size ≤ w.heap.size
  block : ∀ k, k < s.heap.size → ¬ O k → w.heap[k]? = s.heap[k]?

theorem Keep.refl (O : Nat → Prop) (s : World) : Keep O s s := ⟨rfl, rfl, rfl, Nat.le_refl _, fun _ _ _ => rfl⟩
theorem Keep.trans {O : Nat → Prop} {a b c : World} (h : Keep O a b) (k : Keep O b c) : Keep O a c :=
  ⟨k.os.trans h.os, k.tape.trans h.tape, k.output.trans h.output, Nat.le_trans h.size k.size, fun i hi ho => (k.block i (Nat.lt_of_lt_of_le hi h.size) ho).trans (h.block i hi ho)⟩
theorem Keep.mono {O O' : Nat → Prop} {s w : World} (h : Keep O s w) (ho : ∀ k, k < s.heap.size → O k → O' k) : Keep O' s w :=
  ⟨h.os, h.tape, h.output, h.size, fun k hk hn => h.block k hk fun x => hn (ho k hk x)⟩

/-- nothing that was there has turned -/
abbrev Ext (w w' : World) : Prop := Keep (fun _ => False) w w'

theorem Ext.below {w w' : World} (h : Ext w w') : Below w.heap.size w w' := ⟨h.os, h.tape, h.output, h.size, fun k hk => h.block k hk id⟩
theorem Ext.of_below {w w' : World} (h : Below w.heap.size w w') : Ext w w' := ⟨h.os, h.tape, h.output, h.size, fun k hk _ => h.block k hk⟩

def owned (H : List Item) (k : Nat) : Prop := ∃ i ∈ H, i.own k

structure Cls (H : List Item) (S : List World) (w : World) : Prop where
  holds : ∀ i ∈ H, i.holds w
  lt : ∀ i ∈ H, ∀ k, i.own k → k < w.heap.size
  dj : H.Pairwise fun i j => ∀ k, i.own k → ¬ j.own k
  kp : ∀ s ∈ S, Keep (owned H) s w

theorem Cls.start (w : World) : Cls [] [w] w :=
  { holds := fun i hi => by cases hi
    lt := fun i hi => by cases hi
    dj := List.Pairwise.nil
    kp := fun s hs => by simp only [List.mem_singleton] at hs; subst hs; exact .refl _ _ }

theorem Cls.ext {H : List Item} {S : List World} {w w' : World} (h : Cls H S w) (he : Ext w w') : Cls H S w' :=
  ⟨fun i hi => i.stab w w' (fun k hk => he.block k (h.lt i hi k hk) id) (h.holds i hi), fun i hi k hk => Nat.lt_of_lt_of_le (h.lt i hi k hk) he.size, h.dj,
    fun s hs => (h.kp s hs).trans (he.mono fun _ _ x => x.elim)⟩

theorem Cls.drew {H : List Item} {S : List World} {w : World} (h : Cls H S w) : Cls H S { w with drawn := w.drawn + 1 } :=
  h.ext ⟨rfl, rfl, rfl, Nat.le_refl _, fun _ _ _ => rfl⟩

/-- forget a kept world -/
theorem Cls.forget {H : List Item} {S S' : List World} {w : World} (h : Cls H S w) (hs : ∀ s ∈ S', s ∈ S) : Cls H S' w := ⟨h.holds, h.lt, h.dj, fun s x => h.kp s (hs s x)⟩
/-- keep the present world, too -/
theorem Cls.note {H : List Item} {S : List World} {w : World} (h : Cls H S w) : Cls H (w :: S) w :=
  ⟨h.holds, h.lt, h.dj, fun s x => by cases x with | head => exact .refl _ _ | tail _ x => exact h.kp s x⟩

/-- one item more: a block that is new -/
theorem Cls.add {H : List Item} {S : List World} {w w' : World} (h : Cls H S w) (he : Ext w w') (i : Item) (hi : i.holds w') (ho : ∀ k, i.own k → w.heap.size ≤ k ∧ k < w'.heap.size) : Cls (i :: H) S w' := by
  have h' := h.ext he
  refine ⟨fun j hj => ?_, fun j hj => ?_, .cons (fun j hj k hk hk' => ?_) h'.dj, fun s hs => (h'.kp s hs).mono fun k _ ⟨j, hj, x⟩ => ⟨j, .tail _ hj, x⟩⟩
  · cases hj with
    | head => exact hi
    | tail _ hj => exact h'.holds j hj
  · cases hj with
    | head => exact fun k hk => (ho k hk).2
    | tail _ hj => exact h'.lt j hj
  · have := h.lt j hj k hk'; have := (ho k hk).1; omega

theorem owns_mem {H : List Item} {i : Item} (hi : i ∈ H) {k : Nat} (hk : i.own k) : owned H k := ⟨i, hi, hk⟩

/-- ONE ITEM IS TURNED INTO ANOTHER: at its place p; the rest is as it was. 'own' may only grow, by what is new. -/
theorem Cls.turn {H : List Item} {S : List World} {w w' : World} (h : Cls H S w) (p : Nat) {i j : Item} (hp : H[p]? = some i) (hw : Keep i.own w w') (hj : j.holds w')
    (ho : ∀ k, j.own k → (i.own k ∨ w.heap.size ≤ k) ∧ k < w'.heap.size) (hk : ∀ k, i.own k → j.own k) : Cls (H.set p j) S w' := by
  have hlt : p < H.length := by
    rcases Nat.lt_or_ge p H.length with hl | hl
    · exact hl
    · rw [List.getElem?_eq_none hl] at hp; cases hp
  have hpi : H[p] = i := by rw [List.getElem?_eq_getElem hlt] at hp; exact Option.some.inj hp
  have far : ∀ q (hq : q < H.length), q ≠ p → ∀ k, H[q].own k → ¬ i.own k := by
    intro q hq hne k hk hik
    rcases Nat.lt_or_gt_of_ne hne with hl | hl
    · exact List.pairwise_iff_getElem.1 h.dj q p hq hlt hl k hk (hpi ▸ hik)
    · exact List.pairwise_iff_getElem.1 h.dj p q hlt hq hl k (hpi ▸ hik) hk
  have mem : ∀ x ∈ H.set p j, x = j ∨ ∃ q, ∃ hq : q < H.length, q ≠ p ∧ x = H[q] := by
    intro x hx
    obtain ⟨q, hq, e⟩ := List.getElem_of_mem hx
    rw [List.getElem_set] at e
    by_cases hqp : p = q
    · rw [if_pos hqp] at e; exact .inl e.symm
    · rw [if_neg hqp] at e; exact .inr ⟨q, by simpa using hq, Ne.symm hqp, e.symm⟩
  refine ⟨fun x hx => ?_, fun x hx k hxk => ?_, ?_, fun s hs => ?_⟩
  · rcases mem x hx with rfl | ⟨q, hq, hne, rfl⟩
    · exact hj
    · exact H[q].stab w w' (fun k hk => hw.block k (h.lt _ (List.getElem_mem hq) k hk) (far q hq hne k hk)) (h.holds _ (List.getElem_mem hq))
  · rcases mem x hx with rfl | ⟨q, hq, hne, rfl⟩
    · exact (ho k hxk).2
    · exact Nat.lt_of_lt_of_le (h.lt _ (List.getElem_mem hq) k hxk) hw.size
  · rw [List.pairwise_iff_getElem]
    intro a b ha hb hab k hka hkb
    rw [List.getElem_set] at hka hkb
    simp only [List.length_set] at ha hb
    by_cases h1 : p = a
    · subst h1
      rw [if_pos rfl] at hka
      rw [if_neg (by omega)] at hkb
      rcases (ho k hka).1 with h2 | h2
      · exact far b hb (by omega) k hkb h2
      · have := h.lt _ (List.getElem_mem hb) k hkb; omega
    · rw [if_neg h1] at hka
      by_cases h2 : p = b
      · subst h2
        rw [if_pos rfl] at hkb
        rcases (ho k hkb).1 with h3 | h3
        · exact far a ha (by omega) k hka h3
        · have := h.lt _ (List.getElem_mem ha) k hka; omega
      · rw [if_neg h2] at hkb
        exact List.pairwise_iff_getElem.1 h.dj a b ha hb hab k hka hkb
  · have hin : ∀ k, i.own k → owned (H.set p j) k := fun k hik => ⟨j, List.mem_of_getElem? (List.getElem?_set_self (by simpa using hlt)), hk k hik⟩
    have hs1 := h.kp s hs
    refine ⟨hw.os.trans hs1.os, hw.tape.trans hs1.tape, hw.output.trans hs1.output, Nat.le_trans hs1.size hw.size, fun k hks hno => ?_⟩
    have h1 : ¬ i.own k := fun x => hno (hin k x)
    refine (hw.block k (Nat.lt_of_lt_of_le hks hs1.size) h1).trans (hs1.block k hks ?_)
    rintro ⟨x, hx, hxk⟩
    obtain ⟨q, hq, rfl⟩ := List.getElem_of_mem hx
    by_cases hqp : q = p
    · subst hqp; exact h1 (hpi ▸ hxk)
    · exact hno ⟨H[q], List.mem_of_getElem? (by rw [List.getElem?_set_ne (Ne.symm hqp)]; exact List.getElem?_eq_getElem hq), hxk⟩

/-! ### Blocks -/

def blk (b : Nat) (t : TypeId) (c : List Value) : Item :=
  ⟨fun k => k = b, fun w => w.heap[b]? = some (.cells c.toArray t (0, 0)), fun w w' hk h => (hk b rfl).trans h⟩

theorem blk_cell {w : World} {b o : Nat} {t : TypeId} {c : List Value} (h : (blk b t c).holds w) : w.cell? ⟨b, o, none⟩ = c[o]? := by
  have h' : w.heap[b]? = some (.cells c.toArray t (0, 0)) := h
  simp [World.cell?, h']

theorem blk_frozen {w : World} {b o : Nat} {t : TypeId} {c : List Value} (h : (blk b t c).holds w) : w.frozen? ⟨b, o, none⟩ = false := by
  have h' : w.heap[b]? = some (.cells c.toArray t (0, 0)) := h
  simp [World.frozen?, h']

theorem ext_alloc (w : World) (o : Obj) : Ext w (w.alloc o) := Ext.of_below ((Below.refl _ _).alloc (Nat.le_refl _) o)

theorem Cls.alloc {H : List Item} {S : List World} {w : World} (h : Cls H S w) (t : TypeId) (c : List Value) :
    Cls (blk w.heap.size t c :: H) S (w.alloc (.cells c.toArray t)) :=
  h.add (ext_alloc w _) _ (heap_alloc_new w _) (fun k hk => by
    have hk' : k = w.heap.size := hk
    subst hk'; simp)

end Go.Eng
