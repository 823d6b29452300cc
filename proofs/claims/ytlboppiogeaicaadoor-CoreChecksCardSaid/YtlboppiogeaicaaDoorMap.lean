/- Maps whose keys are strings, of the call's own: an item for the list of keys and values; make, look up, put a new key, delete. General. No condition. -/
import Derived.Test.YtlboppiogeaicaaDoorExt
import Derived.MapKept
namespace Go.Eng
open Go.RowKit Go.MapKept
set_option linter.unusedVariables false
set_option linter.unusedSimpArgs false

abbrev MP := List (ByteArray × Value)
def mget : MP → ByteArray → Option Value
  | [], _ => none
  | p :: r, k => if p.1 = k then some p.2 else mget r k
def mdel : MP → ByteArray → MP
  | [], _ => []
  | p :: r, k => if p.1 = k then r else p :: mdel r k
def mcells (m : MP) : List (Value × Value) := m.map fun p => (.string p.1, p.2)
/-- the map in block b -/
def mapS (b : Nat) (m : MP) : Item :=
  ⟨fun k => k = b, fun w => ∃ es clock, w.heap[b]? = some (.map es clock) ∧ es.toList.map (fun e => (e.key, e.val)) = mcells m, fun w w' hk ⟨es, c, h, h2⟩ => ⟨es, c, (hk b rfl).trans h, h2⟩⟩
theorem NotOwned.mapS {H : List Item} {b : Nat} {m : MP} {k : Nat} (h : k ≠ b) (r : NotOwned H k) : NotOwned (Eng.mapS b m :: H) k := NotOwned.any (fun hm => h hm) r
theorem mapS_lt {w : World} {b : Nat} {m : MP} (h : (mapS b m).holds w) : b < w.heap.size := by
  obtain ⟨es, c, h1, _⟩ := h
  exact (Array.getElem?_eq_some_iff.1 h1).1

theorem now_str : ∀ (es : List MapEntry) (m : MP) (i : Nat) (k : ByteArray), es.map (fun e => (e.key, e.val)) = mcells m →
    (Instr.findNow .string (.string k) es i = some none ∧ mget m k = none) ∨ ∃ j v, Instr.findNow .string (.string k) es i = some (some (i + j, v)) ∧ mget m k = some v ∧ es.eraseIdx j = es.eraseIdx j ∧ (es.eraseIdx j).map (fun e => (e.key, e.val)) = mcells (mdel m k) ∧ j < es.length
  | [], m, i, k, h => by
    cases m with
    | nil => exact .inl ⟨rfl, rfl⟩
    | cons p r => simp [mcells] at h
  | e :: es, m, i, k, h => by
    cases m with
    | nil => simp [mcells] at h
    | cons p r =>
      simp only [mcells, List.map_cons, List.cons.injEq, Prod.mk.injEq] at h
      obtain ⟨⟨h1, h2⟩, h3⟩ := h
      by_cases hk : p.1 = k
      · refine .inr ⟨0, e.val, ?_, by simp [mget, hk, h2], rfl, ?_, by simp⟩
        · simp [Instr.findNow, Instr.sameNow, h1, (Go.MapKept.bytes_beq k p.1).2 hk.symm]
        · simp only [List.eraseIdx_cons_zero, mdel, hk, if_true]
          exact h3
      · have hb : (k == p.1) = false := by
          rw [Bool.eq_false_iff]
          exact fun hh => hk ((Go.MapKept.bytes_beq k p.1).1 hh).symm
        rcases now_str es r (i + 1) k h3 with ⟨h4, h5⟩ | ⟨j, v, h4, h5, _, h6, h7⟩
        · exact .inl ⟨by simp [Instr.findNow, Instr.sameNow, h1, hb, h4], by simp [mget, hk, h5]⟩
        · refine .inr ⟨j + 1, v, by simp [Instr.findNow, Instr.sameNow, h1, hb, h4]; omega, by simp [mget, hk, h5], rfl, ?_, by simp; omega⟩
          simp only [List.eraseIdx_cons_succ, List.map_cons, mdel, hk, if_false, mcells, h1, h2]
          rw [h6]; rfl
section
variable {P : Program} {n : Nat} {l : Env} {H : List Item} {S : List World} {C : World → Prop} {c : Bool} {d : Option Nat} {ty : TypeId} {pos : String} {af : Array Edge} {g : Option (Nat × Bool)}
variable {ops : Array Oper} {rest : List Oper} {Q : Exit → Act → World → Prop} {t : TypeId} {x y z : Operand} {cx cy cz : Bool}

/-- key and element type of a map type with strings as keys -/
def mapT (P : Program) (t : TypeId) : Option (TypeId × TypeId) := match P.underlying t with
  | some (.map k e) => match P.underlying k with
    | some .string => some (k, e)
    | _ => none
  | _ => none
theorem mapT_spec {k e : TypeId} (h : mapT P t = some (k, e)) : P.underlying t = some (.map k e) ∧ P.underlying k = some .string := by
  unfold mapT at h
  split at h
  · split at h
    · simp only [Option.some.injEq, Prod.mk.injEq] at h
      obtain ⟨rfl, rfl⟩ := h
      rename_i h1 _ h2
      exact ⟨h1, h2⟩
    · cases h
  · cases h
theorem isKey_str (s : ByteArray) : IsKey .string (.string s) := by simp [IsKey]

theorem Pev.lookup {k e : TypeId} {b : Nat} {m : MP} {s : ByteArray} {zv : Value} (hx : evl l x = some (cx, .map (some b))) (hcx : c = true → cx = true) (hy : evl l y = some (cy, .string s)) (hcy : c = true → cy = true) (ht : mapT P t = some (k, e)) (hz : zeroV P e = some zv) (hm : mapS b m ∈ H) :
    Pev P n l (Cls H S) ⟨d, .lookup t x y false, ty, pos, af, g⟩ c ((mget m s).getD zv) :=
  .of_run fun h a w hs hw => by
    obtain ⟨h1, h2⟩ := mapT_spec ht
    obtain ⟨es, clock, hb, hes⟩ := hw.item hm
    have hr : (Instr.lookup t (.map (some b)) (.string s) false).run P w = .ok ((mget m s).getD zv) w := by
      simp only [Instr.lookup, Sem.run_bind, run_underlying h1, Result.andThen_ok, Go.MapKept.run_getObj_map (P := P) hb, Sem.run_pure, run_checkKey h2 (isKey_str s)]
      rcases now_str es.toList m 0 s hes with ⟨h3, h4⟩ | ⟨j, v, h3, h4, _⟩
      · rw [run_findKey h2 h3]
        simp [run_zeroV hz, h4]
      · rw [run_findKey h2 h3]
        simp [h4]
    simp only [execOp, hs.eval hx (hcx h), hs.eval hy (hcy h), Sem.run_bind, hr, Result.andThen_ok]
    rfl
/-- a map of pointers -/
theorem Pev.lookup_in {k e : TypeId} {b j : Nat} {m : MP} {s : ByteArray} (hx : evl l x = some (cx, .map (some b))) (hcx : c = true → cx = true) (hy : evl l y = some (cy, .string s)) (hcy : c = true → cy = true) (ht : mapT P t = some (k, e)) (hz : zeroV P e = some (.pointer none)) (hm : mapS b m ∈ H) (hg : mget m s = some (.pointer (some ⟨j, 0, none⟩))) :
    Pev P n l (Cls H S) ⟨d, .lookup t x y false, ty, pos, af, g⟩ c (.pointer (some ⟨j, 0, none⟩)) := by
  have := Pev.lookup (P := P) (n := n) (S := S) (d := d) (ty := ty) (pos := pos) (af := af) (g := g) hx hcx hy hcy ht hz hm
  rw [hg] at this; exact this
theorem Pev.lookup_no {k e : TypeId} {b : Nat} {m : MP} {s : ByteArray} (hx : evl l x = some (cx, .map (some b))) (hcx : c = true → cx = true) (hy : evl l y = some (cy, .string s)) (hcy : c = true → cy = true) (ht : mapT P t = some (k, e)) (hz : zeroV P e = some (.pointer none)) (hm : mapS b m ∈ H) (hg : mget m s = none) :
    Pev P n l (Cls H S) ⟨d, .lookup t x y false, ty, pos, af, g⟩ c (.pointer none) := by
  have := Pev.lookup (P := P) (n := n) (S := S) (d := d) (ty := ty) (pos := pos) (af := af) (g := g) hx hcx hy hcy ht hz hm
  rw [hg] at this; exact this
theorem OL.makeMap {dd : Nat} {k e : TypeId} (hn : Nat.ble (dd + 1) n = true) (ht : mapT P t = some (k, e)) (kk : ∀ b, AllLe S b → OL P n ops Q rest ((dd, true, .map (some b)) :: l) (Cls (mapS b [] :: H) S)) :
    OL P n ops Q (⟨some dd, .makeMap t none, ty, pos, af, none⟩ :: rest) l (Cls H S) :=
  OL.new (C' := fun b w => AllLe S b ∧ Cls (mapS b [] :: H) S w) rfl rfl hn (fun b => .map (some b))
    (fun a w hs hc => ⟨w.heap.size, w.alloc (.map #[] 0), rfl, AllLe.mk hc, hc.add (ext_alloc w _) _ ⟨#[], 0, heap_alloc_new w _, rfl⟩ (fun k hk => by
      have hk' : k = w.heap.size := hk
      subst hk'; simp)⟩)
    (fun b => ⟨fun a w hs hc => (kk b hc.1).run a w hs hc.2⟩)
theorem set_heap {w : World} {b : Nat} {o o' : Obj} (hb : w.heap[b]? = some o) : ({ w with heap := w.heap.setIfInBounds b o' } : World).heap[b]? = some o' ∧ Keep (fun k => k = b) w { w with heap := w.heap.setIfInBounds b o' } := by
  have hlt := (Array.getElem?_eq_some_iff.1 hb).1
  refine ⟨by simp [Array.getElem?_setIfInBounds, hlt], rfl, rfl, rfl, by simp, fun k hk hne => ?_⟩
  have : ¬ b = k := fun e => hne e.symm
  simp [Array.getElem?_setIfInBounds, this]
/-- a key that is not there yet -/
theorem OL.mapPut {k e : TypeId} {b p : Nat} {m : MP} {s : ByteArray} {v : Value} {F : Item → List Item} (hx : evl l x = some (true, .map (some b))) (hy : evl l y = some (true, .string s)) (hz : evl l z = some (true, v)) (ht : mapT P t = some (k, e)) (hH : Hole p H (mapS b m) F) (hno : mget m s = none)
    (kk : OL P n ops Q rest l (Cls (F (mapS b (m ++ [(s, v)]))) S)) : OL P n ops Q (⟨none, .mapUpdate t x y z, ty, pos, af, none⟩ :: rest) l (Cls H S) := by
  obtain ⟨hp, hF⟩ := hH.eq
  rw [hF] at kk
  obtain ⟨h1, h2⟩ := mapT_spec ht
  refine OL.store_ (C' := Cls (H.set p (mapS b (m ++ [(s, v)]))) S) rfl rfl (fun a w hs hc => ?_) kk
  obtain ⟨es, clock, hb, hes⟩ := hc.item (List.mem_of_getElem? hp)
  obtain ⟨hh, hk⟩ := set_heap (o' := .map (es.push { key := .string s, val := v, born := clock }) (clock + 1)) hb
  refine ⟨_, ?_, hc.turn p hp (j := mapS b (m ++ [(s, v)])) hk ⟨_, _, hh, ?_⟩ (fun q hq => ?_) (fun q hq => hq)⟩
  · have h3 : Instr.findNow .string (.string s) es.toList 0 = some none := by
      rcases now_str es.toList m 0 s hes with ⟨h3, h4⟩ | ⟨j, v', h3, h4, _⟩
      · exact h3
      · rw [hno] at h4; cases h4
    have hr : (Instr.mapUpdate t (.map (some b)) (.string s) v).run P w = .ok () { w with heap := w.heap.setIfInBounds b (.map (es.push { key := .string s, val := v, born := clock }) (clock + 1)) } := by
      simp only [Instr.mapUpdate, Sem.run_bind, run_underlying h1, Result.andThen_ok, Go.MapKept.run_getObj_map (P := P) hb, run_checkKey h2 (isKey_str s), run_findKey h2 h3, run_setObj_map _ hb]
    simp only [execOp, hs.eval hx rfl, hs.eval hy rfl, hs.eval hz rfl, Sem.run_bind, hr, Result.andThen_ok]
    rfl
  · simp [hes, mcells]
  · have hq' : q = b := hq
    subst hq'
    exact ⟨.inl rfl, Nat.lt_of_lt_of_le (hc.lt _ (List.mem_of_getElem? hp) q rfl) hk.size⟩
theorem OL.mapDel {k e : TypeId} {b p : Nat} {m : MP} {s : ByteArray} {t2 : TypeId} {F : Item → List Item} (hx : evl l x = some (true, .map (some b))) (hy : evl l y = some (true, .string s)) (ht : mapT P t = some (k, e)) (hH : Hole p H (mapS b m) F) (hin : (mget m s).isSome = true)
    (kk : OL P n ops Q rest l (Cls (F (mapS b (mdel m s))) S)) : OL P n ops Q (⟨none, .call { callee := .builtin .delete, args := #[x, y], argTypes := #[t, t2] }, ty, pos, af, none⟩ :: rest) l (Cls H S) := by
  obtain ⟨hp, hF⟩ := hH.eq
  rw [hF] at kk
  obtain ⟨h1, h2⟩ := mapT_spec ht
  refine ⟨fun a w hs hc => ?_⟩
  refine wpList_plain rfl fun K hK => ?_
  show Oper.upon P _ a K Q ((execOp a.eval _).run P w)
  obtain ⟨es, clock, hb, hes⟩ := hc.item (List.mem_of_getElem? hp)
  rcases now_str es.toList m 0 s hes with ⟨h3, h4⟩ | ⟨j, v, h3, h4, _, h5, h6⟩
  · rw [h4] at hin; cases hin
  rw [Nat.zero_add] at h3
  obtain ⟨hh, hk⟩ := set_heap (o' := .map (es.eraseIdxIfInBounds j) clock) hb
  have hr : (Builtin.delete_ #[t, t2] ty #[.map (some b), .string s]).run P w = .ok (.tuple #[]) { w with heap := w.heap.setIfInBounds b (.map (es.eraseIdxIfInBounds j) clock) } := by
    simp [Builtin.delete_, run_underlying h1, Go.MapKept.run_getObj_map (P := P) hb, run_checkKey h2 (isKey_str s), run_findKey h2 h3, run_setObj_map _ hb]
  simp only [execOp, resolve, invoke, builtin, Sem.run_bind, Sem.run_pure, Result.andThen_ok, List.map_toArray, List.map_cons, List.map_nil, hs.eval hx rfl, hs.eval hy rfl, hr]
  refine hK _ _ (kk.run a _ hs (hc.turn p hp (j := mapS b (mdel m s)) hk ⟨_, _, hh, ?_⟩ (fun q hq => ?_) (fun q hq => hq)))
  · have : (es.eraseIdxIfInBounds j).toList = es.toList.eraseIdx j := by
      unfold Array.eraseIdxIfInBounds
      rw [dif_pos (by simpa using h6)]
      simp
    rw [this]; exact h5
  · have hq' : q = b := hq
    subst hq'
    exact ⟨.inl rfl, Nat.lt_of_lt_of_le (hc.lt _ (List.mem_of_getElem? hp) q rfl) hk.size⟩
end
end Go.Eng
