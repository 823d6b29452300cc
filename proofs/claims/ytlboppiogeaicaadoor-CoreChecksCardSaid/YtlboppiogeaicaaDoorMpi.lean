/- Maps whose keys are ints: an item for the list of keys and values; make, look up, put, delete; range over a map. General. No condition. -/
import Derived.Test.YtlboppiogeaicaaDoorMap
import Derived.Maps.RangeRun
namespace Go.Eng
open Go.RowKit Go.MapKept
set_option linter.unusedVariables false
set_option linter.unusedSimpArgs false

abbrev MI := List (Int × Value)
def iget : MI → Int → Option Value
  | [], _ => none
  | p :: r, k => if p.1 = k then some p.2 else iget r k
def idel : MI → Int → MI
  | [], _ => []
  | p :: r, k => if p.1 = k then r else p :: idel r k
def iput : MI → Int → Value → MI
  | [], k, v => [(k, v)]
  | p :: r, k, v => if p.1 = k then (k, v) :: r else p :: iput r k v
theorem iget_iput (m : MI) (k : Int) (v : Value) (j : Int) : iget (iput m k v) j = if k = j then some v else iget m j := by
  induction m with
  | nil => simp [iput, iget]
  | cons p r ih =>
    unfold iput
    by_cases h : p.1 = k
    · rw [if_pos h]
      simp only [iget, h]
      split <;> simp_all
    · rw [if_neg h]
      simp only [iget, ih]
      by_cases h2 : p.1 = j
      · rw [if_pos h2, if_pos h2, if_neg (fun e => h (h2.trans e.symm))]
      · rw [if_neg h2, if_neg h2]
theorem iput_new : ∀ {m : MI} {k : Int} {v : Value}, iget m k = none → iput m k v = m ++ [(k, v)]
  | [], k, v, _ => rfl
  | p :: r, k, v, h => by
    rw [iget] at h
    by_cases e : p.1 = k
    · rw [if_pos e] at h; cases h
    · rw [if_neg e] at h
      rw [iput, if_neg e, iput_new h]; rfl
theorem iget_mem : ∀ {m : MI} {k : Int} {v : Value}, iget m k = some v → (k, v) ∈ m
  | p :: r, k, v, h => by
    rw [iget] at h
    by_cases e : p.1 = k
    · rw [if_pos e] at h
      obtain rfl := Option.some.inj h
      subst e
      exact .head _
    · rw [if_neg e] at h
      exact .tail _ (iget_mem h)
def icells (m : MI) : List (Value × Value) := m.map fun p => (.int .i64 p.1, p.2)
structure MapIs (es : Array MapEntry) (clock : Nat) (m : MI) : Prop where
  es_ : es.toList.map (fun e => (e.key, e.val)) = icells m
  lt : ∀ x ∈ es.toList, x.born < clock
  nd : (es.toList.map (·.born)).Nodup
/-- the map in block b -/
def mapI (b : Nat) (m : MI) : Item :=
  ⟨fun k => k = b, fun w => ∃ es clock, w.heap[b]? = some (.map es clock) ∧ MapIs es clock m, fun w w' hk ⟨es, c, h, h2⟩ => ⟨es, c, (hk b rfl).trans h, h2⟩⟩
theorem NotOwned.mapI {H : List Item} {b : Nat} {m : MI} {k : Nat} (h : k ≠ b) (r : NotOwned H k) : NotOwned (Eng.mapI b m :: H) k := NotOwned.any (fun hm => h hm) r
theorem mapI_lt {w : World} {b : Nat} {m : MI} (h : (mapI b m).holds w) : b < w.heap.size := by
  obtain ⟨es, c, h1, _⟩ := h
  exact (Array.getElem?_eq_some_iff.1 h1).1
theorem now_int : ∀ (es : List MapEntry) (m : MI) (i : Nat) (k : Int), es.map (fun e => (e.key, e.val)) = icells m →
    (Instr.findNow (.int .i64) (.int .i64 k) es i = some none ∧ iget m k = none) ∨ ∃ j v e0, Instr.findNow (.int .i64) (.int .i64 k) es i = some (some (i + j, v)) ∧ iget m k = some v ∧ es[j]? = some e0 ∧ e0.key = .int .i64 k ∧ (es.eraseIdx j).map (fun e => (e.key, e.val)) = icells (idel m k) ∧ ∀ v', (es.modify j (fun e => { e with key := .int .i64 k, val := v' })).map (fun e => (e.key, e.val)) = icells (iput m k v')
  | [], m, i, k, h => by
    cases m with
    | nil => exact .inl ⟨rfl, rfl⟩
    | cons p r => simp [icells] at h
  | e :: es, m, i, k, h => by
    cases m with
    | nil => simp [icells] at h
    | cons p r =>
      simp only [icells, List.map_cons, List.cons.injEq, Prod.mk.injEq] at h
      obtain ⟨⟨h1, h2⟩, h3⟩ := h
      by_cases hk : p.1 = k
      · refine .inr ⟨0, e.val, e, ?_, by simp [iget, hk, h2], rfl, by rw [h1, hk], ?_, fun v' => ?_⟩
        · simp [Instr.findNow, Instr.sameNow, h1, hk]
        · simp only [List.eraseIdx_cons_zero, idel, hk, if_true]
          exact h3
        · rw [List.modify_zero_cons]
          simp only [List.map_cons, iput, hk, if_true, icells]
          rw [h3]
          first | done | rfl
      · have hb : (k == p.1) = false := by
          rw [Bool.eq_false_iff]
          exact fun hh => hk (show k = p.1 by simpa using hh).symm
        rcases now_int es r (i + 1) k h3 with ⟨h4, h5⟩ | ⟨j, v, e0, h4, h5, h6, h7, h8, h9⟩
        · exact .inl ⟨by simp [Instr.findNow, Instr.sameNow, h1, hb, h4], by simp [iget, hk, h5]⟩
        · refine .inr ⟨j + 1, v, e0, by simp [Instr.findNow, Instr.sameNow, h1, hb, h4]; omega, by simp [iget, hk, h5], by simpa using h6, h7, ?_, fun v' => ?_⟩
          · simp only [List.eraseIdx_cons_succ, List.map_cons, idel, hk, if_false, icells, h1, h2]
            rw [h8]; rfl
          · rw [List.modify_succ_cons]
            simp only [List.map_cons, iput, hk, if_false, icells, h1, h2]
            rw [h9]; rfl
theorem isKey_int (s : Int) : IsKey (.int .i64) (.int .i64 s) := by simp [IsKey]
theorem W.exx {P : Program} {n : Nat} {l : Env} {C : World → Prop} {Q : Exit → Act → World → Prop} {code : Code} {X : Type} {C' : X → World → Prop} (h : ∀ w, C w → ∃ x, C' x w) (k : ∀ x, W P n code Q l (C' x)) : W P n code Q l C :=
  ⟨fun a w hs hc => by
    obtain ⟨x, hx⟩ := h w hc
    exact (k x).run a w hs hx⟩
theorem OL.exx {P : Program} {n : Nat} {l : Env} {C : World → Prop} {Q : Exit → Act → World → Prop} {ops : Array Oper} {rest : List Oper} {X : Type} {C' : X → World → Prop} (h : ∀ w, C w → ∃ x, C' x w) (k : ∀ x, OL P n ops Q rest l (C' x)) : OL P n ops Q rest l C :=
  ⟨fun a w hs hc => by
    obtain ⟨x, hx⟩ := h w hc
    exact (k x).run a w hs hx⟩
section
variable {P : Program} {n : Nat} {l : Env} {H : List Item} {S : List World} {C : World → Prop} {c : Bool} {d : Option Nat} {ty : TypeId} {pos : String} {af : Array Edge} {g : Option (Nat × Bool)}
variable {ops : Array Oper} {rest : List Oper} {Q : Exit → Act → World → Prop} {t : TypeId} {x y z : Operand} {cx cy cz : Bool}

/-- key and element type of a map type with ints as keys -/
def mapTi (P : Program) (t : TypeId) : Option (TypeId × TypeId) := match P.underlying t with
  | some (.map k e) => match P.underlying k with
    | some (.int .i64) => some (k, e)
    | _ => none
  | _ => none
theorem mapTi_spec {k e : TypeId} (h : mapTi P t = some (k, e)) : P.underlying t = some (.map k e) ∧ P.underlying k = some (.int .i64) := by
  unfold mapTi at h
  split at h
  · split at h
    · simp only [Option.some.injEq, Prod.mk.injEq] at h
      obtain ⟨rfl, rfl⟩ := h
      rename_i h1 _ h2
      exact ⟨h1, h2⟩
    · cases h
  · cases h
theorem run_ilookup {w : World} {k e : TypeId} {b clock : Nat} {es : Array MapEntry} {m : MI} {s : Int} {zv : Value} (ht : mapTi P t = some (k, e)) (hz : zeroV P e = some zv) (hb : w.heap[b]? = some (.map es clock)) (hm : MapIs es clock m) (co : Bool) :
    (Instr.lookup t (.map (some b)) (.int .i64 s) co).run P w = .ok (if co then .tuple #[(iget m s).getD zv, .bool (iget m s).isSome] else (iget m s).getD zv) w := by
  obtain ⟨h1, h2⟩ := mapTi_spec ht
  simp only [Instr.lookup, Sem.run_bind, run_underlying h1, Result.andThen_ok, Go.MapKept.run_getObj_map (P := P) hb, Sem.run_pure, run_checkKey h2 (isKey_int s)]
  rcases now_int es.toList m 0 s hm.es_ with ⟨h3, h4⟩ | ⟨j, v, _, h3, h4, _⟩
  · rw [run_findKey h2 h3]
    simp [run_zeroV hz, h4]
  · rw [run_findKey h2 h3]
    simp [h4]
/-- a map that is known -/
theorem Pev.ilookup {k e : TypeId} {b : Nat} {m : MI} {s : Int} {zv : Value} (hx : evl l x = some (cx, .map (some b))) (hcx : c = true → cx = true) (hy : evl l y = some (cy, .int .i64 s)) (hcy : c = true → cy = true) (ht : mapTi P t = some (k, e)) (hz : zeroV P e = some zv) (hm : ∀ w, C w → (mapI b m).holds w) :
    Pev P n l C ⟨d, .lookup t x y false, ty, pos, af, g⟩ c ((iget m s).getD zv) :=
  .of_run fun h a w hs hw => by
    obtain ⟨es, clock, hb, hes⟩ := hm w hw
    have hr := run_ilookup (s := s) ht hz hb hes false
    simp only [execOp, hs.eval hx (hcx h), hs.eval hy (hcy h), Sem.run_bind, hr, Result.andThen_ok]
    rfl
theorem Pev.ilookup2 {k e : TypeId} {b : Nat} {m : MI} {s : Int} {zv : Value} (hx : evl l x = some (cx, .map (some b))) (hcx : c = true → cx = true) (hy : evl l y = some (cy, .int .i64 s)) (hcy : c = true → cy = true) (ht : mapTi P t = some (k, e)) (hz : zeroV P e = some zv) (hm : ∀ w, C w → (mapI b m).holds w) :
    Pev P n l C ⟨d, .lookup t x y true, ty, pos, af, g⟩ c (.tuple #[(iget m s).getD zv, .bool (iget m s).isSome]) :=
  .of_run fun h a w hs hw => by
    obtain ⟨es, clock, hb, hes⟩ := hm w hw
    have hr := run_ilookup (s := s) ht hz hb hes true
    simp only [execOp, hs.eval hx (hcx h), hs.eval hy (hcy h), Sem.run_bind, hr, Result.andThen_ok]
    rfl
theorem OL.imakeMap {dd : Nat} {k e : TypeId} (hn : Nat.ble (dd + 1) n = true) (ht : mapTi P t = some (k, e)) (kk : ∀ b, AllLe S b → OL P n ops Q rest ((dd, true, .map (some b)) :: l) (Cls (mapI b [] :: H) S)) :
    OL P n ops Q (⟨some dd, .makeMap t none, ty, pos, af, none⟩ :: rest) l (Cls H S) :=
  OL.new (C' := fun b w => AllLe S b ∧ Cls (mapI b [] :: H) S w) rfl rfl hn (fun b => .map (some b))
    (fun a w hs hc => ⟨w.heap.size, w.alloc (.map #[] 0), rfl, AllLe.mk hc, hc.add (ext_alloc w _) _ ⟨#[], 0, heap_alloc_new w _, ⟨rfl, by simp, by simp⟩⟩ (fun k hk => by
      have hk' : k = w.heap.size := hk
      subst hk'; simp)⟩)
    (fun b => ⟨fun a w hs hc => (kk b hc.1).run a w hs hc.2⟩)
theorem OL.iput {k e : TypeId} {b p : Nat} {m : MI} {s : Int} {v : Value} {F : Item → List Item} (hx : evl l x = some (true, .map (some b))) (hy : evl l y = some (true, .int .i64 s)) (hz : evl l z = some (true, v)) (ht : mapTi P t = some (k, e)) (hH : Hole p H (mapI b m) F)
    (kk : OL P n ops Q rest l (Cls (F (mapI b (iput m s v))) S)) : OL P n ops Q (⟨none, .mapUpdate t x y z, ty, pos, af, none⟩ :: rest) l (Cls H S) := by
  obtain ⟨hp, hF⟩ := hH.eq
  rw [hF] at kk
  obtain ⟨h1, h2⟩ := mapTi_spec ht
  refine OL.store_ (C' := Cls (H.set p (mapI b (Eng.iput m s v))) S) rfl rfl (fun a w hs hc => ?_) kk
  obtain ⟨es, clock, hb, hes⟩ := hc.item (List.mem_of_getElem? hp)
  have fin : ∀ (es' : Array MapEntry) (clock' : Nat), (Instr.mapUpdate t (.map (some b)) (.int .i64 s) v).run P w = .ok () { w with heap := w.heap.setIfInBounds b (.map es' clock') } → MapIs es' clock' (Eng.iput m s v) → ∃ w', (execOp a.eval ⟨none, .mapUpdate t x y z, ty, pos, af, none⟩).run P w = .ok .skip w' ∧ Cls (H.set p (mapI b (Eng.iput m s v))) S w' := fun es' clock' hr hm => by
    obtain ⟨hh, hk⟩ := set_heap (o' := .map es' clock') hb
    refine ⟨_, ?_, hc.turn p hp (j := mapI b (Eng.iput m s v)) hk ⟨_, _, hh, hm⟩ (fun q hq => ?_) (fun q hq => hq)⟩
    · simp only [execOp, hs.eval hx rfl, hs.eval hy rfl, hs.eval hz rfl, Sem.run_bind, hr, Result.andThen_ok]
      rfl
    · have hq' : q = b := hq
      subst hq'
      exact ⟨.inl rfl, Nat.lt_of_lt_of_le (hc.lt _ (List.mem_of_getElem? hp) q rfl) hk.size⟩
  rcases now_int es.toList m 0 s hes.es_ with ⟨h3, h4⟩ | ⟨j, v', e0, h3, h4, h5, h6, _, h7⟩
  · refine fin (es.push { key := .int .i64 s, val := v, born := clock }) (clock + 1) ?_ ⟨?_, fun x hx => ?_, ?_⟩
    · simp only [Instr.mapUpdate, Sem.run_bind, run_underlying h1, Result.andThen_ok, Go.MapKept.run_getObj_map (P := P) hb, run_checkKey h2 (isKey_int s), run_findKey h2 h3, run_setObj_map _ hb]
    · rw [iput_new h4]
      simp [hes.es_, icells]
    · simp only [Array.toList_push, List.mem_append, List.mem_singleton] at hx
      rcases hx with hx | rfl
      · exact Nat.lt_succ_of_lt (hes.lt x hx)
      · exact Nat.lt_succ_self _
    · simp only [Array.toList_push, List.map_append, List.map_cons, List.map_nil]
      refine List.nodup_append.2 ⟨hes.nd, by simp, ?_⟩
      intro a ha b hb
      simp only [List.mem_singleton] at hb
      subst hb
      obtain ⟨x, hx, rfl⟩ := List.mem_map.1 ha
      exact Nat.ne_of_lt (hes.lt x hx)
  · rw [Nat.zero_add] at h3
    have hj : es[j]? = some e0 := by simpa using h5
    have hml : (es.modify j fun e => { e with key := .int .i64 s, val := v }).toList = es.toList.modify j fun e => { e with key := .int .i64 s, val := v } := by simp
    have hborn : (es.toList.modify j fun e => { e with key := .int .i64 s, val := v }).map (·.born) = es.toList.map (·.born) := by
      apply List.ext_getElem?
      intro i
      simp only [List.getElem?_map, List.getElem?_modify]
      by_cases hij : j = i
      · subst hij
        cases he : es.toList[j]? <;> simp
      · cases he : es.toList[i]? <;> simp [hij]
    refine fin (es.modify j fun e => { e with key := .int .i64 s, val := v }) clock ?_ ⟨by rw [hml]; exact h7 v, fun x hx => ?_, by rw [hml, hborn]; exact hes.nd⟩
    · simp [Instr.mapUpdate, run_underlying h1, Go.MapKept.run_getObj_map (P := P) hb, run_checkKey h2 (isKey_int s), run_findKey h2 h3, hj, h6, run_keyThatStays (isKey_int s), run_setObj_map _ hb, Result.andThen]
    · have : x.born ∈ (es.toList.modify j fun e => { e with key := .int .i64 s, val := v }).map (·.born) := List.mem_map.2 ⟨x, by rw [← hml]; exact hx, rfl⟩
      rw [hborn] at this
      obtain ⟨y, hy, e⟩ := List.mem_map.1 this
      rw [← e]; exact hes.lt y hy

/-! ### range over a map -/

def itI (r b since : Nat) (seen : Array Nat) (c0 : Nat) : Item :=
  ⟨fun k => k = r, fun w => w.heap[r]? = some (.mapIter (some b) since seen c0), fun w w' hk h => (hk r rfl).trans h⟩
theorem NotOwned.itI {H : List Item} {r b since c0 : Nat} {seen : Array Nat} {k : Nat} (h : k ≠ r) (rr : NotOwned H k) : NotOwned (Eng.itI r b since seen c0 :: H) k := NotOwned.any (fun hm => h hm) rr
/-- a map told by its entries -/
def mapX (b : Nat) (es : Array MapEntry) (clock : Nat) : Item :=
  ⟨fun k => k = b, fun w => w.heap[b]? = some (.map es clock), fun w w' hk h => (hk b rfl).trans h⟩
theorem NotOwned.mapX {H : List Item} {b clock : Nat} {es : Array MapEntry} {k : Nat} (h : k ≠ b) (rr : NotOwned H k) : NotOwned (Eng.mapX b es clock :: H) k := NotOwned.any (fun hm => h hm) rr
theorem Cls.mapX_of {w : World} {b p : Nat} {m : MI} {F : Item → List Item} (hh : Hole p H (mapI b m) F) (h : Cls H S w) : ∃ x : Array MapEntry × Nat, MapIs x.1 x.2 m ∧ Cls (F (mapX b x.1 x.2)) S w := by
  obtain ⟨h1, h2⟩ := hh.eq
  have hm := List.mem_of_getElem? h1
  obtain ⟨es, clock, hb, hes⟩ := h.item hm
  refine ⟨(es, clock), hes, ?_⟩
  rw [h2]
  exact h.turn p h1 (Keep.refl _ _) hb (fun k hk => ⟨.inl hk, h.lt _ hm k hk⟩) (fun k hk => hk)
theorem Cls.mapI_of {w : World} {b p : Nat} {es : Array MapEntry} {clock : Nat} {m : MI} {F : Item → List Item} (hh : Hole p H (mapX b es clock) F) (hes : MapIs es clock m) (h : Cls H S w) : Cls (F (mapI b m)) S w := by
  obtain ⟨h1, h2⟩ := hh.eq
  have hm := List.mem_of_getElem? h1
  rw [h2]
  exact h.turn p h1 (Keep.refl _ _) ⟨es, clock, h.item hm, hes⟩ (fun k hk => ⟨.inl hk, h.lt _ hm k hk⟩) (fun k hk => hk)
theorem OL.rangeMap {dd : Nat} {k e : TypeId} {b clock : Nat} {es : Array MapEntry} (hx : evl l x = some (true, .map (some b))) (hn : Nat.ble (dd + 1) n = true) (ht : mapTi P t = some (k, e)) (hb : ∀ w, Cls H S w → w.heap[b]? = some (.map es clock))
    (kk : ∀ r, AllLe S r → OL P n ops Q rest ((dd, true, .pointer (some ⟨r, 0, none⟩)) :: l) (Cls (itI r b clock #[] clock :: H) S)) :
    OL P n ops Q (⟨some dd, .range t x, ty, pos, af, none⟩ :: rest) l (Cls H S) :=
  OL.new (C' := fun r w => AllLe S r ∧ Cls (itI r b clock #[] clock :: H) S w) rfl rfl hn (fun r => .pointer (some ⟨r, 0, none⟩))
    (fun a w hs hc => by
      have hr := run_range_map w t k e b es clock (mapTi_spec ht).1 (hb w hc)
      refine ⟨w.heap.size, _, ?_, AllLe.mk hc, hc.add (ext_alloc w (.mapIter (some b) clock #[] clock)) _ (Go.heap_alloc_new w _) (fun k hk => by
        have hk' : k = w.heap.size := hk
        subst hk'; simp)⟩
      simp only [execOp, hs.eval hx rfl, Sem.run_bind, hr, Result.andThen_ok]
      rfl)
    (fun b => ⟨fun a w hs hc => (kk b hc.1).run a w hs hc.2⟩)
theorem Cls.drew1 {w w1 : World} (h : Cls H S w) (e : w1 = w ∨ w1 = w.drew) : Cls H S w1 := by
  rcases e with rfl | rfl
  · exact h
  · exact h.drew
theorem OL.nextMap {dd p r b since c0 clock : Nat} {seen : Array Nat} {es : Array MapEntry} {F : Item → List Item} (hx : evl l x = some (true, .pointer (some ⟨r, 0, none⟩))) (hn : Nat.ble (dd + 1) n = true) (hb : ∀ w, Cls H S w → w.heap[b]? = some (.map es clock)) (hold : ∀ e ∈ es.toList, e.born < since) (hsc : since ≤ c0)
    (hH : Hole p H (itI r b since seen c0) F)
    (k0 : (leftOf es seen).size = 0 → OL P n ops Q rest ((dd, true, .tuple #[.bool false]) :: l) (Cls H S))
    (k1 : ∀ e ∈ (leftOf es seen).toList, OL P n ops Q rest ((dd, true, .tuple #[.bool true, e.key, e.val]) :: l) (Cls (F (itI r b since (seen.push e.born) clock)) S)) :
    OL P n ops Q (⟨some dd, .next x false, ty, pos, af, none⟩ :: rest) l (Cls H S) := by
  have hn' := Nat.le_of_ble_eq_true hn
  obtain ⟨hp, hF⟩ := hH.eq
  have hm := List.mem_of_getElem? hp
  refine ⟨fun a w hs hc => ?_⟩
  refine wpList_plain rfl fun K hK => ?_
  rcases run_next_at (P := P) w ty r b since c0 seen es clock (hc.item hm) (hb w hc) hold hsc with ⟨h0, hr⟩ | ⟨e, he, w1, hw1, hr⟩
  · show Oper.upon P _ a K Q ((execOp a.eval _).run P w)
    simp only [execOp, hs.eval hx rfl, Sem.run_bind, hr, Result.andThen_ok]
    exact hK _ _ ((k0 h0).run _ w (hs.put hn' true _) hc)
  · show Oper.upon P _ a K Q ((execOp a.eval _).run P w)
    simp only [execOp, hs.eval hx rfl, Sem.run_bind, hr, Result.andThen_ok]
    have hc1 := hc.drew1 hw1
    obtain ⟨hh, hk⟩ := set_heap (o' := .mapIter (some b) since (seen.push e.born) clock) (hc1.item hm)
    refine hK _ _ ((k1 e he).run _ _ (hs.put hn' true _) ?_)
    rw [hF]
    exact hc1.turn p hp (j := itI r b since (seen.push e.born) clock) hk hh (fun q hq => ⟨.inl hq, Nat.lt_of_lt_of_le (hc1.lt _ hm q hq) hk.size⟩) (fun q hq => hq)
theorem Pev.entryMap {r b since clock : Nat} {seen : Array Nat} {es : Array MapEntry} {e : MapEntry} (hx : evl l x = some (cx, .pointer (some ⟨r, 0, none⟩))) (hcx : c = true → cx = true) (hb : ∀ w, Cls H S w → w.heap[b]? = some (.map es clock)) (hi : itI r b since (seen.push e.born) clock ∈ H) (he : e ∈ es.toList) (hn : (es.toList.map (·.born)).Nodup) :
    Pev P n l (Cls H S) ⟨d, .entry x, ty, pos, af, g⟩ c (.tuple #[e.key, e.val]) :=
  .of_run fun h a w hs hw => by
    have hr := run_entry_at (P := P) w r b since seen es clock e (hw.item hi) (hb w hw) he hn
    simp only [execOp, hs.eval hx (hcx h), Sem.run_bind, hr, Result.andThen_ok]
    rfl
end
end Go.Eng
