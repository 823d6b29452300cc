/- Texts of the proof of LexerTokens, part 2: rules of a calculus for walking, plain laws, and walks of the functions that the law reaches. No condition. -/
import Derived.Laws.Slices
import Derived.Laws.Small
import Derived.Test.YtnnpheacekieaaaDoorRows
import Derived.Lib.Strings
import Derived.Lib.Walk
import Derived.Lib.BufferWrite
import Derived.Lib.UnsafeStr
import Derived.Lib.Hide
import Derived.Laws.MakeOwn
import Derived.WalkKit
import Derived.OwnWalk
import Derived.Laws.IdiomStrings
import Derived.Shelf.Strings.Split
import Derived.Shelf.Strings.Count
import Derived.Shelf.Small.Strs
import Derived.RangeFuncNested
import Derived.MapKept
import Derived.LaidEqlPtr
import Derived.Lib.Builder
import Derived.Laws.Pointers
import Derived.ArgAppend
import Derived.Test.YtnnpheacekieaaaDoorLexerTokens1
set_option linter.unusedVariables false
set_option linter.unusedSimpArgs false
set_option linter.unusedSectionVars false
/- Slices over a block of the call's own that is changed in place: append within its room, clear; slices in two and three numbers; min; loads of several cells that the class tells. General. No condition. -/
namespace Go.Eng
open Go.RowKit
section
variable {P : Program} {n : Nm} {l : Env} {H : List Item} {S : List World} {C : World → Prop} {c : Bool} {d : Option Nat} {ty : TypeId} {pos : String} {af : Array Edge} {g : Option (Nat × Bool)}
variable {ops : Array Oper} {rest : List Oper} {Q : Exit → Act → World → Prop} {t : TypeId} {x y z u : Operand} {cx cy cz cu : Bool}
theorem slElem_both {e : TypeId} {sz : Nat} (hu : slElem P t = some (e, sz)) : P.underlying t = some (.slice e) ∧ sizeN P e = some sz := by
  unfold slElem at hu
  cases h1 : P.underlying t with
  | none => simp [h1] at hu
  | some d1 =>
    rw [h1] at hu
    cases d1 <;> simp only [reduceCtorEq] at hu
    rename_i e'
    cases h2 : sizeN P e' with
    | none => simp [h2] at hu
    | some k' =>
      rw [h2] at hu
      simp only [Option.some.injEq, Prod.mk.injEq] at hu
      obtain ⟨rfl, rfl⟩ := hu
      exact ⟨rfl, h2⟩
theorem elem_eq {e : TypeId} (h : P.underlying t = some (.slice e)) : P.elem t = e := by simp [Program.elem, h]
theorem Pev.load_clsA {q : Addr} {vs : List Value} {k : Nat} (hx : evl l x = some (cx, .pointer (some q))) (hcx : c = true → cx = true) (hs : aggN P t = some k) (hk : vs.length = k) (hv : c = true → ∀ w, C w → CellsAt w q vs) :
    Pev P n l C ⟨d, .load t x, ty, pos, af, g⟩ c (.agg vs.toArray) :=
  .load_of hx hcx fun h w hw => run_loadVar_agg (by rw [hk]; exact hs) (hv h w hw)
theorem Pev.slice_lh {e : TypeId} {sz len cp i j : Nat} {k k' : IntKind} {a b : Int} {q : Option Addr} (hx : evl l x = some (cx, .slice q len cp)) (hcx : c = true → cx = true) (hy : evl l y = some (cy, .int k a)) (hcy : c = true → cy = true)
    (hz : evl l z = some (cz, .int k' b)) (hcz : c = true → cz = true) (hu : slElem P t = some (e, sz)) (ha : a = (i : Int)) (hb : b = (j : Int)) (hr : c = true → i ≤ j ∧ j ≤ cp) :
    Pev P n l C ⟨d, .slice t x (some y) (some z) none, ty, pos, af, g⟩ c (.slice (cutq q cp i sz) (j - i) (cp - i)) :=
  .of_run fun h a w hs hw => by
    subst ha
    subst hb
    obtain ⟨h1, h2⟩ := hr h
    obtain ⟨hus, hsz⟩ := slElem_both hu
    simp only [execOp, hs.eval hx (hcx h), Option.map_some, Option.map_none, hs.eval hy (hcy h), hs.eval hz (hcz h), Instr.sliceAt, Instr.slice, Sem.run_bind, run_underlying hus, Result.andThen_ok, Instr.sliceBounds, Instr.sliceBound, asIntOf, Sem.run_pure, run_sizeN hsz]
    simp [h1, h2, cutq]
theorem Pev.slice_lhm {e : TypeId} {sz len cp i j m : Nat} {k k' k'' : IntKind} {a b e3 : Int} {q : Option Addr} (hx : evl l x = some (cx, .slice q len cp)) (hcx : c = true → cx = true) (hy : evl l y = some (cy, .int k a)) (hcy : c = true → cy = true)
    (hz : evl l z = some (cz, .int k' b)) (hcz : c = true → cz = true) (hm : evl l u = some (cu, .int k'' e3)) (hcm : c = true → cu = true) (hu : slElem P t = some (e, sz)) (ha : a = (i : Int)) (hb : b = (j : Int)) (hm3 : e3 = (m : Int)) (hr : c = true → i ≤ j ∧ j ≤ m ∧ m ≤ cp) :
    Pev P n l C ⟨d, .slice t x (some y) (some z) (some u), ty, pos, af, g⟩ c (.slice (cutq q m i sz) (j - i) (m - i)) :=
  .of_run fun h a w hs hw => by
    subst ha
    subst hb
    subst hm3
    obtain ⟨h1, h2, h3⟩ := hr h
    obtain ⟨hus, hsz⟩ := slElem_both hu
    simp only [execOp, hs.eval hx (hcx h), Option.map_some, Option.map_none, hs.eval hy (hcy h), hs.eval hz (hcz h), hs.eval hm (hcm h), Instr.sliceAt, Instr.slice, Sem.run_bind, run_underlying hus, Result.andThen_ok, Instr.sliceBounds, Instr.sliceBound, asIntOf, Sem.run_pure, run_sizeN hsz]
    simp [h1, h2, h3, cutq]
theorem Pev.min2 {k k' : IntKind} {a b : Int} {ats : Array TypeId} (hx : evl l x = some (cx, .int k a)) (hcx : c = true → cx = true) (hy : evl l y = some (cy, .int k' b)) (hcy : c = true → cy = true) :
    Pev P n l C ⟨d, .call { callee := .builtin .min, args := #[x, y], argTypes := ats }, ty, pos, af, g⟩ c (.int k (if b < a then b else a)) :=
  .of_run fun h ac w hs hw => by
    have hr := run_min_int2 (P := P) w ats ty k k' a b
    simp [execOp, resolve, invoke, builtin, hs.eval hx (hcx h), hs.eval hy (hcy h), hr]
theorem Pev.max2 {k k' : IntKind} {a b : Int} {ats : Array TypeId} (hx : evl l x = some (cx, .int k a)) (hcx : c = true → cx = true) (hy : evl l y = some (cy, .int k' b)) (hcy : c = true → cy = true) :
    Pev P n l C ⟨d, .call { callee := .builtin .max, args := #[x, y], argTypes := ats }, ty, pos, af, g⟩ c (.int k (if a < b then b else a)) :=
  .of_run fun h ac w hs hw => by
    have hr := run_max_int2 (P := P) w ats ty k k' a b
    simp [execOp, resolve, invoke, builtin, hs.eval hx (hcx h), hs.eval hy (hcy h), hr]
/-- an array's literal -/
theorem Pev.buildArr {parts : List (Nat × Operand)} {zv : Value} {cs cs' : List Value} {len k : Nat} (hz : zeroV P t = some zv) (hcs : CellsL zv cs) (hu : arrElem P t = some (len, k)) (hf : Fill l (fun i => some (i * k, k)) cs parts cs') (hc : c = true) :
    Pev P n l C ⟨d, .build t parts.toArray, ty, pos, af, g⟩ c (.agg cs'.toArray) :=
  .of_run fun h a w hs hw => by
    unfold arrElem at hu
    cases h1 : P.underlying t with
    | none => simp [h1] at hu
    | some d1 =>
      rw [h1] at hu
      cases d1 <;> simp only [reduceCtorEq] at hu
      rename_i len' e'
      cases h2 : sizeN P e' with
      | none => simp [h2] at hu
      | some k' =>
        rw [h2] at hu
        simp only [Option.some.injEq, Prod.mk.injEq] at hu
        obtain ⟨rfl, rfl⟩ := hu
        have hrun := hf.run hs
        have hparts : (parts.toArray.map fun p => (p.1, a.eval p.2)).toList = parts.map fun p => (p.1, a.eval p.2) := by simp
        simp only [execOp, Instr.build, Sem.run_bind, run_zeroV hz, Result.andThen_ok, run_underlying h1, run_sizeN h2, hcs.eq]
        rw [hparts, hrun]
        rfl
theorem oneL_zero {z : Value} {zs : List Value} (hz : CellsL z zs) (h1 : oneL zs = true) (m : Nat) : oneL (Builtin.zeroCells z.cells m).toList = true := by
  have key : ∀ (xs : List Value), (∀ v ∈ xs, v.oneCell' = true) → oneL xs = true := by
    intro xs
    induction xs with
    | nil => intro _; rfl
    | cons v r ih => intro h; rw [oneL, h v (.head _), ih (fun u hu => h u (.tail _ hu))]; rfl
  refine key _ fun v hv => ?_
  rw [hz.eq] at hv
  simp only [Builtin.zeroCells, Array.toList_map, List.mem_map] at hv
  obtain ⟨i, hi, rfl⟩ := hv
  simp only [Array.toList_range, List.mem_range, List.size_toArray] at hi
  have hpos : 0 < zs.length := by
    rcases Nat.eq_zero_or_pos zs.length with h0 | h0
    · rw [h0] at hi; omega
    · exact h0
  have hlt : i % zs.toArray.size < zs.length := by simpa using Nat.mod_lt i hpos
  rw [getElem!_pos zs.toArray _ (by simpa using hlt)]
  exact oneL_mem h1 _ (by simp)
theorem putL_take : ∀ (vs cs : List Value) (o : Nat), (putL cs o vs).take o = cs.take o
  | [], cs, o => rfl
  | v :: vs, cs, o => by
    rw [putL]
    have h := putL_take vs (cs.set o v) (o + 1)
    have h2 := congrArg (List.take o) h
    rw [List.take_take, List.take_take, Nat.min_eq_left (by omega)] at h2
    rw [h2, List.take_set_of_le (Nat.le_refl _)]
theorem set_same {α : Type} {H : List α} {p : Nat} {i : α} (h : H[p]? = some i) : H.set p i = H := by
  obtain ⟨hlt, rfl⟩ := List.getElem?_eq_some_iff.1 h
  exact List.set_getElem_self hlt
theorem putL_drop {vs cs : List Value} {o m : Nat} (hf : o + vs.length ≤ cs.length) (h : o + vs.length ≤ m) : (putL cs o vs).drop m = cs.drop m := by
  rw [putL_eq _ _ _ hf, List.drop_append, List.drop_append, List.drop_of_length_le (by simp; omega), List.drop_of_length_le (l := vs) (by simp; omega), List.drop_drop]
  simp only [List.nil_append, List.length_append, List.length_take]
  congr 1
  omega
theorem putL_take2 {vs cs : List Value} {o : Nat} (hf : o + vs.length ≤ cs.length) : (putL cs o vs).take (o + vs.length) = cs.take o ++ vs := by
  rw [putL_eq _ _ _ hf, List.take_append_of_le_length (by simp; omega), List.take_of_length_le (by simp; omega)]
/-- clear, at a part of a block: what stands ahead of it stays -/
theorem OL.clear {e : TypeId} {sz m cp b o p : Nat} {q : Option Addr} {zv : Value} {zs cs : List Value} {t' : TypeId} {F : Item → List Item} (hx : evl l x = some (true, .slice q m cp)) (hu : slElem P t = some (e, sz)) (hz : zeroV P e = some zv) (hzs : CellsL zv zs) (hz1 : oneL zs = true) (hzl : zs.length = sz)
    (hH : Hole p H (blk b t' cs) F) (hq : 0 < m → q = some ⟨b, o, none⟩ ∧ o + m * sz ≤ cs.length)
    (k : ∀ cs' : List Value, cs'.length = cs.length → cs'.take o = cs.take o → OL P n ops Q rest l (Cls (F (blk b t' cs')) S)) :
    OL P n ops Q (⟨none, .call { callee := .builtin .clear, args := #[x], argTypes := #[t] }, ty, pos, af, none⟩ :: rest) l (Cls H S) := by
  obtain ⟨hp, hF⟩ := hH.eq
  obtain ⟨hus, hsz⟩ := slElem_both hu
  rcases Nat.eq_zero_or_pos m with rfl | hm
  · have k0 := k cs rfl rfl
    rw [hF, set_same hp] at k0
    refine ⟨fun a w hs hc => ?_⟩
    refine wpList_plain rfl fun K hK => ?_
    show Oper.upon P _ a K Q ((execOp a.eval _).run P w)
    have hr : (Builtin.clear_ #[t] ty #[.slice q 0 cp]).run P w = .ok (.tuple #[]) w := by
      cases q <;> simp [Builtin.clear_, run_underlying hus]
    simp only [execOp, resolve, invoke, builtin, Sem.run_bind, Sem.run_pure, Result.andThen_ok, List.map_toArray, List.map_cons, List.map_nil, hs.eval hx rfl, hr]
    exact hK _ _ (k0.run a w hs hc)
  · obtain ⟨rfl, hfit⟩ := hq hm
    have hzc : (Builtin.zeroCells zv.cells m).size = m * sz := by rw [size_zeroCells, hzs.eq, List.size_toArray, hzl]
    have k0 := k (putL cs o (Builtin.zeroCells zv.cells m).toList) (putL_length' _ _ _) (putL_take _ _ _)
    rw [hF] at k0
    refine ⟨fun a w hs hc => ?_⟩
    refine wpList_plain rfl fun K hK => ?_
    show Oper.upon P _ a K Q ((execOp a.eval _).run P w)
    obtain ⟨w', hr, hh, hkp⟩ := run_storeCells_blk (P := P) (o := o) (Builtin.zeroCells zv.cells m).toList 0 cs w (hc.item (List.mem_of_getElem? hp)) (by simp [hzc]; omega) (oneL_zero hzs hz1 m)
    have hr2 : (Builtin.clear_ #[t] ty #[.slice (some ⟨b, o, none⟩) m cp]).run P w = .ok (.tuple #[]) w' := by
      cases m with
      | zero => omega
      | succ m =>
        simp only [Builtin.clear_, List.getElem?_toArray, List.getElem?_cons_zero, Sem.run_bind, run_underlying hus, Result.andThen_ok, run_zeroV hz, hr, Sem.run_pure]
    simp only [execOp, resolve, invoke, builtin, Sem.run_bind, Sem.run_pure, Result.andThen_ok, List.map_toArray, List.map_cons, List.map_nil, hs.eval hx rfl, hr2]
    refine hK _ _ (k0.run a w' hs (hc.turn p hp (j := blk b t' (putL cs o (Builtin.zeroCells zv.cells m).toList)) hkp hh (fun q hq => ?_) (fun q hq => hq)))
    have hq' : q = b := hq
    subst hq'
    exact ⟨.inl rfl, Nat.lt_of_lt_of_le (hc.lt _ (List.mem_of_getElem? hp) q rfl) hkp.size⟩
/-- append within the room of a block of the call's own; the source may lie in that block -/
theorem OL.appendIn {e : TypeId} {dd sz b sLen sCap m cp p : Nat} {ad : Addr} {cs news : List Value} {F : Item → List Item} (hx : evl l x = some (true, .slice (some ⟨b, 0, none⟩) sLen sCap)) (hy : evl l y = some (true, .slice (some ad) m cp)) (hn : Nat.ble (dd + 1) n.n = true) (hu : slElem P t = some (e, sz))
    (hH : Hole p H (blk b e cs) F) (hsrc : ∀ w, Cls H S w → CellsAt w ad news) (hl : news.length = m * sz) (h1 : oneL news = true) (hroom : sLen + m ≤ sCap) (hfit : sLen * sz + news.length ≤ cs.length)
    (k : OL P n ops Q rest ((dd, true, .slice (some ⟨b, 0, none⟩) (sLen + m) sCap) :: l) (Cls (F (blk b e (cs.take (sLen * sz) ++ news ++ cs.drop (sLen * sz + news.length)))) S)) :
    OL P n ops Q (⟨some dd, .call { callee := .builtin .append, args := #[x, y], argTypes := #[t, t] }, ty, pos, af, none⟩ :: rest) l (Cls H S) := by
  obtain ⟨hp, hF⟩ := hH.eq
  rw [hF] at k
  obtain ⟨hus, hsz⟩ := slElem_both hu
  obtain ⟨i, hi, his⟩ := sizeN_info hsz
  have hn' := Nat.le_of_ble_eq_true hn
  refine ⟨fun a w hs hc => ?_⟩
  refine wpList_plain rfl fun K hK => ?_
  show Oper.upon P _ a K Q ((execOp a.eval _).run P w)
  have hg : w.heap[b]? = some (.cells cs.toArray e (0, 0)) := hc.item (List.mem_of_getElem? hp)
  have hr := run_append_room (P := P) w t ty e i hus hi b sLen sCap cs.toArray hg ad m cp news (by rw [his]; exact hl) (hsrc w hc) (oneL_mem h1) hroom (by rw [his]; simpa using hfit)
  simp only [execOp, resolve, invoke, builtin, Sem.run_bind, Sem.run_pure, Result.andThen_ok, List.map_toArray, List.map_cons, List.map_nil, hs.eval hx rfl, hs.eval hy rfl, hr]
  rw [his]
  refine hK _ _ (k.run _ _ (hs.put hn' true _) ?_)
  refine hc.turn p hp (j := blk b e (cs.take (sLen * sz) ++ news ++ cs.drop (sLen * sz + news.length))) ⟨rfl, rfl, rfl, by simp [World.setRow], fun k hk hne => setRow_other w b k _ (fun e => hne e)⟩ ?_ (fun q hq => ?_) (fun q hq => hq)
  · exact setRow_heap w b cs.toArray _ e _ hg
  · have hq' : q = b := hq
    subst hq'
    exact ⟨.inl rfl, by
      have := hc.lt _ (List.mem_of_getElem? hp) q rfl
      simpa [World.setRow] using this⟩
theorem Ext_keep {w w0 w' : World} {b : Nat} (h : Ext w w0) (hk : Keep (fun k => k = b) w0 w') (hb : w.heap.size ≤ b) : Ext w w' :=
  ⟨hk.os.trans h.os, hk.tape.trans h.tape, hk.output.trans h.output, Nat.le_trans h.size hk.size, fun k hk' _ => (hk.block k (Nat.lt_of_lt_of_le hk' h.size) (fun e => by subst e; omega)).trans (h.block k hk' id)⟩
/-- append to a new empty slice: a copy -/
theorem OL.appendNew {e : TypeId} {dd sz bb b m cp : Nat} {ad : Addr} {news : List Value} (hx : evl l x = some (true, .slice (some ⟨b, 0, none⟩) 0 0)) (hy : evl l y = some (true, .slice (some ad) m cp)) (hn : Nat.ble (dd + 1) n.n = true) (hu : rowElem P t = some (e, sz, bb))
    (hb : blk b e [] ∈ H) (hsrc : ∀ w, Cls H S w → CellsAt w ad news) (hl : news.length = m * sz) (h1 : oneL news = true) (hlim : m ≤ maxLen ∧ m * bb ≤ 140737488355328)
    (k : ∀ (q' : Option Addr) (cap' : Nat), OL P n ops Q rest ((dd, true, .slice q' m cap') :: l) (fun w' => ∃ w0, Cls H S w0 ∧ Keep (fun k => k = b) w0 w' ∧ w'.ownsRow b e sz (.slice q' m cap') m news)) :
    OL P n ops Q (⟨some dd, .call { callee := .builtin .append, args := #[x, y], argTypes := #[t, t] }, ty, pos, af, none⟩ :: rest) l (Cls H S) := by
  refine OL.newT (α := Option Addr × Nat) (C' := fun r w' => ∃ w0, Cls H S w0 ∧ Keep (fun k => k = b) w0 w' ∧ w'.ownsRow b e sz (.slice r.1 m r.2) m news) rfl rfl hn (fun r => .slice r.1 m r.2) (fun a w hs' hc => ?_) (fun r => k r.1 r.2)
  obtain ⟨i, z, g1, g2, g3, g4, g5, g6, g7⟩ := rowElem_spec hu
  have hblk := hc.item hb
  have hbl := blk_lt hblk
  have hown : w.ownsRow b e sz (.slice (some ⟨b, 0, none⟩) 0 0) 0 [] := ⟨by simp, .inr ⟨b, 0, #[], rfl, Nat.le_refl _, hblk, Nat.le_refl _, by simp [maxLen], by simp, by simp⟩⟩
  obtain ⟨v', w', hr, h2, h3, h4, h5⟩ := run_append_own_at (P := P) (w := w) b t ty e i z sz bb g1 g2 g3 g4 g5 g6 g7 _ 0 [] hown ad m cp news hl (hsrc w hc) (oneL_mem h1) (by rw [Nat.zero_add]; exact hlim.1) (by rw [Nat.zero_add]; exact hlim.2) (by omega)
  rw [Nat.zero_add, List.nil_append] at h2
  have hv : ∃ q' cap', v' = .slice q' m cap' := by
    rcases h2.2 with ⟨rfl, rfl⟩ | ⟨g', cap', cur, rfl, _⟩
    · exact ⟨none, 0, rfl⟩
    · exact ⟨_, _, rfl⟩
  obtain ⟨q', cap', rfl⟩ := hv
  refine ⟨(q', cap'), w', ?_, w, hc, ⟨h3.os, h3.tape, h3.output, h3.size, fun k hk hne => h3.block k hk (fun e => hne (by simpa [Value.ownBlock] using e))⟩, h2⟩
  simp only [execOp, resolve, invoke, builtin, Sem.run_bind, Sem.run_pure, Result.andThen_ok, List.map_toArray, List.map_cons, List.map_nil, hs'.eval hx rfl, hs'.eval hy rfl, hr]
end
end Go.Eng

/- A region that draws its order and whose operations write memory beside one another: an invariant over the set of operations that are done. General. No condition. -/
namespace Go.Eng
open Go.RowKit
/-- as Sub, where an entry may also tell what its slot held before -/
inductive SubO (l : Env) (n : Nm) (old : Nat → Value) : Env → Prop where
  | nil : SubO l n old []
  | cons {t : Nat} {c : Bool} {v : Value} {l' : Env} (h : look l t = some (c, v)) (r : SubO l n old l') : SubO l n old ((t, c, v) :: l')
  | old {t : Nat} {l' : Env} (h : Nat.ble (t + 1) n.n = true) (r : SubO l n old l') : SubO l n old ((t, true, old t) :: l')
theorem Sees.subO {n : Nm} {l l' : Env} {a : Act} {old : Nat → Value} (h : Sees n l a) (ho : ∀ t, t < n.n → a.tmps[t]? = some (old t)) (hs : SubO l n old l') : Sees n l' a := by
  refine ⟨h.df, h.sz, ?_⟩
  induction hs with
  | nil => intro t c v ht; cases ht
  | @cons t0 c0 v0 l0 h0 _ ih =>
    intro t c v ht
    simp only [Eng.look] at ht
    by_cases e : t0 = t
    · subst e
      rw [Nat.beq_refl, cond_true] at ht
      exact h.at_ t0 c v (by rw [h0]; exact ht)
    · rw [show Nat.beq t0 t = false from by rw [Bool.eq_false_iff]; intro hb; exact e (Nat.eq_of_beq_eq_true hb), cond_false] at ht
      exact ih t c v ht
  | @old t0 l0 h0 _ ih =>
    intro t c v ht
    simp only [Eng.look] at ht
    by_cases e : t0 = t
    · subst e
      rw [Nat.beq_refl, cond_true] at ht
      simp only [Option.some.injEq, Prod.mk.injEq] at ht
      obtain ⟨rfl, rfl⟩ := ht
      exact ho t0 (Nat.le_of_ble_eq_true h0)
    · rw [show Nat.beq t0 t = false from by rw [Bool.eq_false_iff]; intro hb; exact e (Nat.eq_of_beq_eq_true hb), cond_false] at ht
      exact ih t c v ht
def upd (e : Nat → Bool) (i : Nat) : Nat → Bool := fun j => Nat.beq j i || e j
/-- how many of the first n are not done -/
def cnt (e : Nat → Bool) : Nat → Nat
  | 0 => 0
  | n + 1 => cnt e n + (if e n then 0 else 1)
theorem upd_ne {e : Nat → Bool} {i j : Nat} (h : j ≠ i) : upd e i j = e j := by
  have : Nat.beq j i = false := by
    rw [Bool.eq_false_iff]; intro hb; exact h (Nat.eq_of_beq_eq_true hb)
  simp [upd, this]
theorem upd_eq {e : Nat → Bool} {i : Nat} : upd e i i = true := by simp [upd, Nat.beq_refl]
theorem cnt_upd {e : Nat → Bool} {i : Nat} (h : e i = false) : ∀ n, cnt (upd e i) n = if i < n then cnt e n - 1 else cnt e n
  | 0 => by simp [cnt]
  | n + 1 => by
    have ih := cnt_upd h n
    have hpos : ∀ n, i < n → 1 ≤ cnt e n := by
      intro n
      induction n with
      | zero => intro h; omega
      | succ n ih =>
        intro hn
        rw [cnt]
        by_cases hin : i = n
        · subst hin; rw [h]; simp
        · have := ih (by omega); omega
    rw [cnt, cnt, ih]
    by_cases hin : i = n
    · subst hin
      rw [upd_eq, h]; simp
    · rw [upd_ne (Ne.symm hin)]
      by_cases hl : i < n
      · have := hpos n hl
        have h3 : i < n + 1 := by omega
        rw [if_pos hl, if_pos h3]; omega
      · have h3 : ¬ i < n + 1 := by omega
        rw [if_neg hl, if_neg h3]
theorem cnt_zero {e : Nat → Bool} : ∀ {n}, cnt e n = 0 → ∀ i, i < n → e i = true
  | 0, _, i, hi => by omega
  | n + 1, h, i, hi => by
    rw [cnt] at h
    by_cases hin : i = n
    · subst hin
      cases he : e i
      · rw [he] at h; simp at h
      · rfl
    · exact cnt_zero (n := n) (by omega) i (by omega)
theorem cnt_pos {e : Nat → Bool} : ∀ {n}, (∀ i, i < n → e i = true) → cnt e n = 0
  | 0, _ => rfl
  | n + 1, h => by rw [cnt, cnt_pos (fun i hi => h i (by omega)), h n (by omega)]; rfl
section
variable {P : Program} {ops : Array Oper} {Q : Exit → Act → World → Prop}
/-- every operation waits for earlier ones alone -/
def backB (ops : Array Oper) : Bool := (List.range ops.size).all fun j => match ops[j]? with
  | some o => o.after.all fun e => !Region.binds .any e || Nat.blt e.on j
  | none => true
theorem backB_spec (h : backB ops = true) {j : Nat} {o : Oper} (hj : ops[j]? = some o) {e : Edge} (he : e ∈ o.after) (hbd : Region.binds .any e = true) : e.on < j := by
  have h1 := List.all_eq_true.1 h j (List.mem_range.2 (Array.getElem?_eq_some_iff.1 hj).1)
  simp only [hj] at h1
  have h2 := Array.all_eq_true_iff_forall_mem.1 h1 e he
  rw [hbd, Bool.not_true, Bool.false_or] at h2
  exact Nat.le_of_ble_eq_true h2
theorem ready_some (hb : backB ops = true) {li : Array Bool} {e : Nat → Bool} (hl : ∀ i, i < ops.size → e i = li.getD i false) (hs : li.size = ops.size) {k : Nat} (hk : k < ops.size) (hk' : e k = false) : Region.ready .any ops li ≠ [] := by
  -- the least one that is not done is ready
  obtain ⟨i, hi, hmin⟩ : ∃ i, (i < ops.size ∧ e i = false) ∧ ∀ j, j < i → ¬ (j < ops.size ∧ e j = false) := by
    induction k using Nat.strongRecOn with
    | _ k ih =>
      by_cases hex : ∃ j, j < k ∧ (j < ops.size ∧ e j = false)
      · obtain ⟨j, hj, h1, h2⟩ := hex
        exact ih j hj h1 h2
      · exact ⟨k, ⟨hk, hk'⟩, fun j hj h => hex ⟨j, hj, h⟩⟩
  have hmem : i ∈ Region.ready .any ops li := by
    rw [mem_ready]
    refine ⟨?_, ops[i], Array.getElem?_eq_getElem hi.1, fun d hd hbd => ?_⟩
    · have := hl i hi.1
      rw [hi.2] at this
      have hlt : i < li.size := by omega
      simp [hlt] at this ⊢
      first | exact this | exact this.symm
    · have h1 := backB_spec hb (Array.getElem?_eq_getElem hi.1) hd hbd
      have h2 : e d.on = true := by
        cases hd' : e d.on
        · exact absurd ⟨by omega, hd'⟩ (hmin d.on h1)
        · rfl
      rw [← hl d.on (by omega)]; exact h2
  intro h0
  rw [h0] at hmem
  cases hmem
theorem wpAny_inv (hb : backB ops = true) (I : (Nat → Bool) → Act → World → Prop)
    (hstep : ∀ e i o a w, I e a w → ops[i]? = some o → e i = false → (∀ d ∈ o.after, Region.binds .any d = true → e d.on = true) → wpOp P ops Q i (I (upd e i)) a w)
    (hend : ∀ e a w, I e a w → (∀ i, i < ops.size → e i = true) → Q .normal a w) :
    ∀ (f : Nat) (li : Array Bool) (e : Nat → Bool) (a : Act) (w : World), (∀ i, i < ops.size → e i = li.getD i false) → li.size = ops.size → cnt e ops.size = f → I e a w → wpAny P .any ops Q f li a w
  | 0, li, e, a, w, hl, hs, hc, hI => by
    have hall := cnt_zero hc
    refine ⟨?_, hend e a w hI hall⟩
    rw [List.eq_nil_iff_forall_not_mem]
    intro i hi
    obtain ⟨h1, o, ho, _⟩ := mem_ready.1 hi
    have hlt := (Array.getElem?_eq_some_iff.1 ho).1
    have h2 := hl i hlt
    rw [hall i hlt] at h2
    have hlt' : i < li.size := by omega
    simp [hlt'] at h1 h2
    rw [h1] at h2
    cases h2
  | f + 1, li, e, a, w, hl, hs, hc, hI => by
    refine ⟨fun h0 => ?_, fun i hi => ?_⟩
    · exfalso
      have : ∃ k, k < ops.size ∧ e k = false := by
        refine Classical.byContradiction fun hn => ?_
        have := cnt_pos (e := e) (n := ops.size) (fun i hi => by
          cases he : e i
          · exact absurd ⟨i, hi, he⟩ hn
          · rfl)
        omega
      obtain ⟨k, hk, hk'⟩ := this
      exact ready_some hb hl hs hk hk' h0
    · obtain ⟨h1, o, ho, hall⟩ := mem_ready.1 hi
      have hlt := (Array.getElem?_eq_some_iff.1 ho).1
      have hlt' : i < li.size := by omega
      have hei : e i = false := by
        rw [hl i hlt]
        simp [hlt'] at h1 ⊢
        exact h1
      refine wpOp_mono (fun a' w' hI' => wpAny_inv hb I hstep hend f (li.setIfInBounds i true) (upd e i) a' w' (fun j hj => ?_) (by simp [hs]) ?_ hI') (hstep e i o a w hI ho hei (fun d hd hb' => ?_))
      · by_cases hji : j = i
        · subst hji; rw [upd_eq]; simp [hlt']
        · rw [upd_ne hji, getD_set_ne false (Ne.symm hji)]; exact hl j hj
      · rw [cnt_upd hei, if_pos hlt]; omega
      · have h2 := hall d hd hb'
        rw [← hl d.on (Nat.lt_trans (backB_spec hb ho hd hb') hlt)] at h2
        exact h2
end
section
variable {P : Program} {n : Nm} {l : Env} {C : World → Prop} {Q : Exit → Act → World → Prop} {S : List World}
/-- what one operation of the region is to leave -/
def Beside (n : Nm) (S : List World) {X : Type} (E : X → (Nat → Bool) → Env) (H : X → (Nat → Bool) → List Item) (e : Nat → Bool) (Q : Exit → Act → World → Prop) : Exit → Act → World → Prop := fun ex a w => match ex with
  | .normal => ∃ x, Sees n (E x e) a ∧ Cls (H x e) S w
  | ex => Q ex a w
/-- what is done is done with all that it waits for -/
def Closed (l0 : List Oper) (e : Nat → Bool) : Prop := ∀ j o, l0[j]? = some o → e j = true → ∀ d ∈ o.after, Region.binds .any d = true → e d.on = true
theorem upd_mono {e : Nat → Bool} {i j : Nat} (h : e j = true) : upd e i j = true := by simp [Eng.upd, h]
theorem Closed.upd {l0 : List Oper} {e : Nat → Bool} (h : Closed l0 e) {i : Nat} {o : Oper} (ho : l0[i]? = some o) (hd : ∀ d ∈ o.after, Region.binds .any d = true → e d.on = true) : Closed l0 (Eng.upd e i) := fun j o' ho' hj d hd' hb => by
  by_cases hji : j = i
  · subst hji
    rw [ho] at ho'
    obtain rfl := Option.some.inj ho'
    exact upd_mono (hd d hd' hb)
  · rw [upd_ne hji] at hj
    exact upd_mono (h j o' ho' hj d hd' hb)
/-- what waits for an operation that is not done is not done -/
theorem Closed.not {l0 : List Oper} {e : Nat → Bool} (h : Closed l0 e) {i j : Nat} {o : Oper} (ho : l0[j]? = some o) (hi : e i = false) (hd : (o.after.any fun d => Nat.beq d.on i && Region.binds .any d) = true) : e j = false := by
  cases hj : e j
  · rfl
  · rw [Array.any_eq_true] at hd
    obtain ⟨k, hk, h3⟩ := hd
    simp only [Bool.and_eq_true, Nat.beq_eq] at h3
    have := h j o ho hj _ (Array.getElem_mem hk) h3.2
    rw [h3.1, hi] at this
    exact this.symm
theorem At.beside {X : Type} {E : X → (Nat → Bool) → Env} {H : X → (Nat → Bool) → List Item} {e : Nat → Bool} (x : X) (hs : Sub l (E x e)) (hc : ∀ w, C w → Cls (H x e) S w) : At n (Beside n S E H e Q) .normal l C :=
  ⟨fun a w s c => ⟨x, s.sub hs, hc w c⟩⟩
theorem upon_Q {o : Oper} {a : Act} {K : Act → World → Prop} {Q Q' : Exit → Act → World → Prop} (hp : ∀ e a w, e ≠ .normal → Q e a w → Q' e a w) {r : Result Next} (h : Oper.upon P o a K Q r) : Oper.upon P o a K Q' r := by
  have hlet : LetsOut Q → LetsOut Q' := fun ⟨a, w, hq⟩ => ⟨a, w, hp _ _ _ (by simp) hq⟩
  cases r with
  | ok n w' =>
    cases n <;> simp only [Oper.upon] at h ⊢ <;>
      first
        | exact h
        | exact Calls.mono h (fun e w'' he => by cases e <;> first | exact he | exact hp _ _ _ (by simp) he | exact hlet he)
  | halt x w' =>
    cases x <;> simp only [Oper.upon] at h ⊢ <;> first | exact h | exact hp _ _ _ (by simp) h
theorem wpOp_of_one {ops : Array Oper} {i : Nat} {o : Oper} {a : Act} {w : World} {X : Type} {E : X → (Nat → Bool) → Env} {H : X → (Nat → Bool) → List Item} {e : Nat → Bool} (ho : ops[i]? = some o)
    (h : wpList P ops (Beside n S E H e Q) [o] a w) : wpOp P ops Q i (fun a w => ∃ x, Sees n (E x e) a ∧ Cls (H x e) S w) a w := by
  have hp : ∀ ex a w, ex ≠ .normal → Beside n S E H e Q ex a w → Q ex a w := fun ex a w hne h => by
    cases ex <;> first | exact h | exact absurd rfl hne
  unfold wpOp
  simp only [ho]
  unfold wpList at h
  split
  · rename_i hw
    rw [if_pos hw] at h
    rcases h with h | ⟨h, a', w', hq⟩
    · refine .inl ?_
      unfold Oper.wp at h ⊢
      exact upon_Q hp h
    · exact .inr ⟨h, a', w', hp _ _ _ (by simp) hq⟩
  · rename_i hw
    rw [if_neg hw] at h
    exact h
theorem W.regany {id : Nat} {l0 : List Oper} {X : Type} (E : X → (Nat → Bool) → Env) (H : X → (Nat → Bool) → List Item) (x0 : (Nat → Value) → X) (hm : P.follows .mixedOrders = true) (hb : backB l0.toArray = true) (hC : ∀ w, C w → C { w with drawn := w.drawn + 1 })
    (h0 : ∀ old, SubO l n old (E (x0 old) (fun _ => false))) (hc0 : ∀ old w, C w → Cls (H (x0 old) (fun _ => false)) S w)
    (step : ∀ x e i o, l0[i]? = some o → e i = false → (∀ d ∈ o.after, Region.binds .any d = true → e d.on = true) → Closed l0 e → OL P n l0.toArray (Beside n S E H (upd e i) Q) [o] (E x e) (Cls (H x e) S))
    (fin : ∀ x e, (∀ i, i < l0.length → e i = true) → At n Q .normal (E x e) (Cls (H x e) S)) : W P n (.region id l0.toArray true) Q l C := ⟨fun a w hs hc => by
  refine wpp_region_any hm (wpAny_inv hb (fun e a w => Closed l0 e ∧ ∃ x, Sees n (E x e) a ∧ Cls (H x e) S w) ?_ ?_ _ _ (fun _ => false) a _ ?_ (by simp) ?_ ⟨fun j o _ h => (by cases h), x0 (fun t => (a.tmps[t]?).getD undef), hs.subO (fun t ht => (by rw [Array.getElem?_eq_getElem (by rw [hs.sz]; exact ht)]; rfl)) (h0 _), hc0 _ _ (hC w hc)⟩)
  · rintro e i o a w ⟨hcl, x, hs, hc⟩ ho hei hd
    have ho' : l0[i]? = some o := by simpa using ho
    exact wpOp_mono (fun a w h => ⟨hcl.upd ho' hd, h⟩) (wpOp_of_one (by simpa using ho) ((step x e i o ho' hei hd hcl).run a w hs hc))
  · rintro e a w ⟨_, x, hs, hc⟩ hall
    exact (fin x e (fun i hi => hall i (by simpa using hi))).run a w hs hc
  · intro i hi
    simp at hi
    simp [hi]
  · have : ∀ n, cnt (fun _ => false) n = n := by
      intro n; induction n with
      | zero => rfl
      | succ n ih => rw [cnt, ih]; rfl
    rw [this]⟩
end
/-- an item that says nothing: a place for a block that is not there yet -/
def nothing : Item := ⟨fun _ => False, fun _ => True, fun _ _ _ _ => trivial⟩
theorem NotOwned.nothing {H : List Item} {k : Nat} (r : NotOwned H k) : NotOwned (Eng.nothing :: H) k := NotOwned.any (fun h => h) r
theorem NotOwned.bif {c : Bool} {i j : Item} {H : List Item} {k : Nat} (hi : NotOwned [i] k) (hj : NotOwned [j] k) (r : NotOwned H k) : NotOwned ((bif c then i else j) :: H) k := by
  refine NotOwned.any (fun h => ?_) r
  cases c
  · exact hj.not ⟨j, by simp, h⟩
  · exact hi.not ⟨i, by simp, h⟩
theorem Hole.parts {p : Nat} {H : List Item} {i : Item} {F : Item → List Item} (h : Hole p H i F) : ∃ H1 H2, H = H1 ++ i :: H2 ∧ ∀ j, F j = H1 ++ j :: H2 := by
  induction h with
  | z => exact ⟨[], _, rfl, fun j => rfl⟩
  | s h ih =>
    obtain ⟨H1, H2, h1, h2⟩ := ih
    exact ⟨_ :: H1, H2, by rw [h1]; rfl, fun j => by show _ :: _ = _; rw [h2 j]; rfl⟩
theorem Cls.fill {p : Nat} {H : List Item} {S : List World} {j : Item} {F : Item → List Item} {w : World} (hh : Hole p H nothing F) (h : Cls (j :: H) S w) : Cls (F j) S w := by
  obtain ⟨H1, H2, rfl, hF⟩ := hh.parts
  rw [hF]
  have hsub : ∀ i, i ∈ H1 ++ j :: H2 → i ∈ j :: (H1 ++ nothing :: H2) := fun i hi => by
    simp only [List.mem_append, List.mem_cons] at hi ⊢
    rcases hi with h | h | h
    · exact .inr (.inl h)
    · exact .inl h
    · exact .inr (.inr (.inr h))
  have hd := h.dj
  rw [List.pairwise_cons, List.pairwise_append, List.pairwise_cons] at hd
  obtain ⟨hj, h1, ⟨_, h2⟩, h12⟩ := hd
  refine ⟨fun i hi => h.holds i (hsub i hi), fun i hi => h.lt i (hsub i hi), ?_, fun s hs => (h.kp s hs).mono fun k _ ⟨i, hi, hk⟩ => ?_⟩
  · rw [List.pairwise_append, List.pairwise_cons]
    refine ⟨h1, ⟨fun b hb => hj b (by simp [hb]), h2⟩, fun a ha b hb => ?_⟩
    rcases List.mem_cons.1 hb with rfl | hb
    · exact fun k hk hk' => hj a (by simp [ha]) k hk' hk
    · exact h12 a ha b (by simp [hb])
  · simp only [List.mem_cons, List.mem_append] at hi
    rcases hi with rfl | h | rfl | h
    · exact ⟨_, by simp, hk⟩
    · exact ⟨i, by simp [h], hk⟩
    · exact hk.elim
    · exact ⟨i, by simp [h], hk⟩
theorem Cls.add_nothing {H : List Item} {S : List World} {w : World} (h : Cls H S w) : Cls (H ++ [nothing]) S w := by
  refine ⟨fun i hi => ?_, fun i hi => ?_, ?_, fun s hs => (h.kp s hs).mono fun k _ ⟨i, hi, hk⟩ => ⟨i, by simp [hi], hk⟩⟩
  · rcases List.mem_append.1 hi with h' | h'
    · exact h.holds i h'
    · rw [List.mem_singleton.1 h']; trivial
  · rcases List.mem_append.1 hi with h' | h'
    · exact h.lt i h'
    · rw [List.mem_singleton.1 h']; exact fun k hk => hk.elim
  · rw [List.pairwise_append]
    exact ⟨h.dj, List.pairwise_singleton _ _, fun a _ b hb k _ hk => by rw [List.mem_singleton.1 hb] at hk; exact hk⟩
end Go.Eng

/- More rules: what a class tells, calls of function values that change the class, a store into a grown row, forgetting ahead of an unknown rest. General. No condition. -/
namespace Go.Eng
open Go.RowKit
section
variable {P : Program} {n : Nm} {l : Env} {H : List Item} {S : List World} {C : World → Prop} {c : Bool} {d : Option Nat} {ty : TypeId} {pos : String} {af : Array Edge} {g : Option (Nat × Bool)}
variable {ops : Array Oper} {rest : List Oper} {Q : Exit → Act → World → Prop} {t : TypeId} {x y z : Operand} {cx cy cz : Bool}
theorem W.fact {code : Code} {φ : Prop} (h : ∀ w, C w → φ) (k : φ → W P n code Q l C) : W P n code Q l C := ⟨fun a w hs hc => (k (h w hc)).run a w hs hc⟩
theorem OL.fact {φ : Prop} (h : ∀ w, C w → φ) (k : φ → OL P n ops Q rest l C) : OL P n ops Q rest l C := ⟨fun a w hs hc => (k (h w hc)).run a w hs hc⟩
theorem At.fact {e : Exit} {φ : Prop} (h : ∀ w, C w → φ) (k : φ → At n Q e l C) : At n Q e l C := ⟨fun a w hs hc => (k (h w hc)).run a w hs hc⟩
theorem OL.sub {l' : Env} {C' : World → Prop} (hs : Sub l l') (hc : ∀ w, C w → C' w) (h : OL P n ops Q rest l' C') : OL P n ops Q rest l C := ⟨fun a w s c => h.run a w (s.sub hs) (hc w c)⟩
/-- a call of a function value whose result is one of several: told by u -/
theorem OL.callvE {α : Type} (V : α → Value) (Φ : α → Prop) (C' : α → World → Prop) {f : FuncId} {first cap : List Value} {args : List Operand} {vs : List Value} {ats : Array TypeId} {dd : Nat} (hx : evl l x = some (true, .func (.func f) first.toArray cap.toArray)) (hn : Nat.ble (dd + 1) n.n = true) (hf : callable P f = true) (ha : Args l true args vs)
    (h : ∀ w, C w → Calls P f (first ++ vs ++ cap).toArray w fun e w' => ∃ u, e = .returned (V u) ∧ Φ u ∧ C' u w')
    (k : ∀ u, Φ u → OL P n ops Q rest ((dd, true, V u) :: l) (C' u)) : OL P n ops Q (⟨some dd, .call { callee := .value x, args := args.toArray, argTypes := ats }, ty, pos, af, none⟩ :: rest) l C := by
  have hn' := Nat.le_of_ble_eq_true hn
  refine ⟨fun a w hs hc => ?_⟩
  refine wpList_plain rfl fun K hK => ?_
  show Oper.upon P _ a K Q ((execOp a.eval _).run P w)
  rw [run_callv hf (hs.eval hx rfl)]
  show Calls P f _ w _
  rw [List.map_toArray, ha.map hs rfl]
  have h2 := h w hc
  simp only [List.append_toArray] at h2 ⊢
  refine h2.mono fun e w' ⟨u, he, hu, hr⟩ => ?_
  subst he
  exact hK _ _ ((k u hu).run _ w' (hs.put hn' true (V u)) hr)
/-- where two ways meet: what both leave is told once -/
theorem W.joinc {code r : Code} (l' : Env) (C' : World → Prop) (h1 : W P n code (Exit.then (fun a w => Sees n l' a ∧ C' w) Q) l C) (h2 : W P n r Q l' C') : W P n code (Exit.then (wpp n.r P r Q) Q) l C :=
  ⟨fun a w hs hc => wpp_mono (h1.run a w hs hc) fun e a' w' hq => by
    cases e with
    | normal => exact h2.run a' w' hq.1 hq.2
    | _ => exact hq⟩
theorem At.joined {l' : Env} {C' : World → Prop} (hs : Sub l l') (hc : ∀ w, C w → C' w) : At n (Exit.then (fun a w => Sees n l' a ∧ C' w) Q) .normal l C := ⟨fun a w s c => ⟨s.sub hs, hc w c⟩⟩
theorem Thin.same : ∀ {H : List Item}, Thin S H H
  | [] => .nil
  | _ :: _ => .keep Thin.same
theorem row_some {w : World} {base m cap size : Nat} {O : Nat → Prop} {q : Option Addr} {e : TypeId} {xs : List Value} (h : (row base O q m cap e size xs).holds w) (hm : 0 < m) : ∃ g0, q = some ⟨g0, 0, none⟩ := by
  rcases h.2.2 with ⟨h3, h4⟩ | ⟨g, cap', cur, h3, _⟩
  · omega
  · simp only [Value.slice.injEq] at h3
    exact ⟨g, h3.1⟩
/-- a store of one cell into a grown row -/
theorem OL.storeR {g0 o p base m cap : Nat} {O : Nat → Prop} {e : TypeId} {xs : List Value} {v : Value} {F : Item → List Item} (hx : evl l x = some (true, .pointer (some ⟨g0, o, none⟩))) (hy : evl l y = some (true, v)) (hv : v.cells = #[v])
    (hs : sizeN P t = some 1) (h1 : oneL [v] = true) (hH : Hole p H (row base O (some ⟨g0, 0, none⟩) m cap e 1 xs) F) (hl : o < xs.length)
    (kk : OL P n ops Q rest l (Cls (F (row base O (some ⟨g0, 0, none⟩) m cap e 1 (xs.set o v))) S)) : OL P n ops Q (⟨none, .store t x y, ty, pos, af, none⟩ :: rest) l (Cls H S) := by
  obtain ⟨hp, hF⟩ := hH.eq
  rw [hF] at kk
  refine OL.store_ (C' := Cls (H.set p (row base O (some ⟨g0, 0, none⟩) m cap e 1 (xs.set o v))) S) rfl rfl (fun a w hs' hc => ?_) kk
  have hi := hc.item (List.mem_of_getElem? hp)
  obtain ⟨hO, hxl, hor⟩ := hi
  rcases hor with ⟨h3, _⟩ | ⟨gg, cap', cur, h3, hb, hg, h4, h5, h6, h7⟩
  · cases h3
  · simp only [Value.slice.injEq, Option.some.injEq, Addr.mk.injEq] at h3
    obtain ⟨⟨rfl, _⟩, _, rfl⟩ := h3
    have hcl : o < cur.toList.length := by
      rw [← h7, List.length_take] at hl
      omega
    obtain ⟨w', hr', hh, hkp⟩ := run_storeAt_blk (P := P) (o := o) (vs := [v]) (cs := cur.toList) (t' := e) (w := w) (b := g0) (by simpa using hg) hs hv rfl (show o + 1 ≤ cur.toList.length from hcl) h1
    refine ⟨w', ?_, hc.turn p hp (j := row base O (some ⟨g0, 0, none⟩) m cap e 1 (xs.set o v)) ⟨hkp.os, hkp.tape, hkp.output, hkp.size, fun k hk hn => hkp.block k hk (fun e2 => hn (by rw [show k = g0 from e2]; exact ⟨hb, hO _ rfl⟩))⟩ ?_ (fun q hq => ⟨.inl hq, Nat.lt_of_lt_of_le (hc.lt _ (List.mem_of_getElem? hp) q hq) hkp.size⟩) (fun q hq => hq)⟩
    · simp only [execOp, hs'.eval hx rfl, hs'.eval hy rfl, Sem.run_bind, hr', Result.andThen_ok]; rfl
    · refine ⟨hO, by rw [List.length_set]; exact hxl, .inr ⟨g0, cap, (cur.toList.set o v).toArray, rfl, hb, hh, h4, h5, by simpa using h6, ?_⟩⟩
      rw [← h7]
      simp only [List.take_set]
theorem OL.cls {C' : World → Prop} (hc : ∀ w, C w → C' w) (h : OL P n ops Q rest l C') : OL P n ops Q rest l C := ⟨fun a w s c => h.run a w s (hc w c)⟩
theorem W.cls {code : Code} {C' : World → Prop} (hc : ∀ w, C w → C' w) (h : W P n code Q l C') : W P n code Q l C := ⟨fun a w s c => h.run a w s (hc w c)⟩
theorem Cls.perm {H' : List Item} {w : World} (h : Cls H S w) (hp : H.Perm H') : Cls H' S w :=
  ⟨fun i hi => h.holds i (hp.mem_iff.2 hi), fun i hi => h.lt i (hp.mem_iff.2 hi), (hp.pairwise_iff (fun {i j} hij k hj hi => hij k hi hj)).1 h.dj, fun s hs => (h.kp s hs).mono fun k _ ⟨i, hi, hk⟩ => ⟨i, hp.mem_iff.1 hi, hk⟩⟩
theorem Cls.last {w : World} {i : Item} (h : Cls (i :: H) S w) : Cls (H ++ [i]) S w := h.perm (List.perm_append_comm (l₁ := [i]))
theorem Cls.back2 {w : World} {i j k : Item} (h : Cls (i :: j :: k :: H) S w) : Cls (j :: k :: i :: H) S w := h.perm (List.Perm.append_right H (List.perm_append_comm (l₁ := [i]) (l₂ := [j, k])))
theorem Cls.flip {w : World} {i j : Item} (h : Cls (i :: j :: H) S w) : Cls (j :: i :: H) S w := h.perm (List.Perm.swap _ _ _)
/-- a result that stands in a variable's own block -/
theorem At.finC {mm : Nat} {rr : Option Nat} {fn : Func} {R : Ending → World → Prop} {tt b k : Nat} {t' : TypeId} {cs : List Value} (hr : fn.results = #[.cell tt ty]) (ht : look l tt = some (true, .pointer (some ⟨b, 0, none⟩))) (hp : blk b t' cs ∈ H) (hs : aggN P ty = some k) (hk : cs.length = k)
    (h : ∀ w, Cls H S w → R (.returned (.agg cs.toArray)) w) : At ⟨mm, [], rr⟩ (bodyPost P fn R) .ret l (Cls H S) :=
  ⟨fun a w hs' hc => ⟨hs'.df, .agg cs.toArray, by
    have h1 := hs'.at_ tt true _ ht
    have h2 := run_loadVar_agg (P := P) (t := ty) (vs := cs) (a := ⟨b, 0, none⟩) (w := w) (by rw [hk]; exact hs) (fun j v hj => by rw [add_mid, Nat.zero_add, blk_cell (hc.item hp)]; exact hj)
    simp [results, hr, Array.getD_eq_getD_getElem?, h1, asAddr, h2], h w hc⟩⟩
/-- append to a grown row that is not empty: its base needs no look -/
theorem OL.appendP {F : Item → List Item} {e : TypeId} {dd sz bb p m cap cap2 o b m2 : Nat} {base : Nat} {O : Nat → Prop} {q : Option Addr} {xs cs news : List Value} {t' : TypeId}
    (hx : evl l x = some (true, .slice q m cap)) (hy : evl l y = some (true, .slice (some ⟨b, o, none⟩) m2 cap2)) (hn : Nat.ble (dd + 1) n.n = true)
    (hu : rowElem P t = some (e, sz, bb)) (hp' : Hole p H (row base O q m cap e sz xs) F) (hb : blk b t' cs ∈ H) (ht : Take (m2 * sz) (cs.drop o) news) (h1 : oneL news = true) (hm2 : Nat.ble 1 m2 = true)
    (hpos : 0 < m) (hlim : (m + m2) ≤ 9223372036854775807 ∧ (m + m2) * bb ≤ 140737488355328)
    (k : ∀ (O' : Nat → Prop) (g' cap' : Nat), OL P n ops Q rest ((dd, true, .slice (some ⟨g', 0, none⟩) (m + m2) cap') :: l) (Cls (F (row base O' (some ⟨g', 0, none⟩) (m + m2) cap' e sz (xs ++ news))) S)) :
    OL P n ops Q (⟨some dd, .call { callee := .builtin .append, args := #[x, y], argTypes := #[t, t] }, ty, pos, af, none⟩ :: rest) l (Cls H S) := by
  refine ⟨fun a w hs hc => ?_⟩
  have hi := hc.item (List.mem_of_getElem? hp'.eq.1)
  have hbw : base ≤ w.heap.size := by
    rcases hi.2.2 with ⟨_, h4⟩ | ⟨g, cap', cur, h3, hb', hg, _⟩
    · omega
    · have := (Array.getElem?_eq_some_iff.1 hg).1
      omega
  have key := OL.append (S := w :: S) (P := P) (n := n) (ops := ops) (Q := Q) (rest := rest) (ty := ty) (pos := pos) (af := af) hx hy hn hu hp' hb ht h1 hm2 ⟨w, .head _, hbw⟩ hlim (fun O' g' cap' => OL.cls (C' := Cls (F (row base O' (some ⟨g', 0, none⟩) (m + m2) cap' e sz (xs ++ news))) S) (fun w' hw' => hw'.forget (fun s hs => .tail _ hs)) (k O' g' cap'))
  exact key.run a w hs hc.note
theorem Cls.nothing_cons {w : World} (h : Cls H S w) : Cls (nothing :: H) S w :=
  h.add (Keep.refl _ w) _ trivial (fun k hk => hk.elim)
end
end Go.Eng

/- The walks of strings.Clone (turned from the kit's contract of internal/stringslite.Clone). Conditions: none. -/
namespace Go.Proofs.YtnnpheacekieaaaDoor.cln
open Go.RowKit Go.Eng
set_option maxRecDepth 100000
theorem Clone_raw (s : ByteArray) (w : World) (hlim : s.size ≤ 281474976710656) :
    Calls Tryd.prog 44 #[.string s] w fun e w' => e = .returned (.string s) ∧ Below w.heap.size w w' := by
  by_cases h0 : s.size = 0
  · have hs : s = ⟨#[]⟩ := by
      apply ByteArray.ext
      exact Array.eq_empty_of_size_eq_zero h0
    subst hs
    go_enter Tryd.func44, Tryd.ntmps44
    go_wp2
    go_ret
    exact ⟨rfl, Below.refl _ _⟩
  · have h37 : (Tryd.prog).underlying 42 = some (.slice 5) := rfl
    have h47 : (Tryd.prog).underlying 73 = some (.pointer 5) := rfl
    obtain ⟨i0, hi, hz0, hz1, hz2⟩ := info_parts (P := Tryd.prog) (e := 5) (z := .int .u8 0) (size := 1) (bytes := 1) rfl
    have hinfo : ((Tryd.prog).info? 5).map (·.size) = some 1 := by rw [hi]; simp [hz1]
    have hco : (Tryd.prog).cellsOf 5 = 1 := by simp [Program.cellsOf, hi, hz1]
    obtain ⟨M, hM⟩ : ∃ M, M = madeCells (Value.int .u8 0).cells (((s.size : Nat) : Int).toNat * i0.size) := ⟨_, rfl⟩
    have hMs : M.size = s.size := by rw [hM, size_madeCells, hz1]; simp
    have hmk : ∀ W : World, (Instr.makeSlice 42 (.int .i64 (s.size : Int)) (.int .i64 (s.size : Int))).run Tryd.prog W = .ok (.slice (some ⟨W.heap.size, 0, none⟩) s.size s.size) (W.alloc (.cells M 5)) := fun W => by
      have h := run_make (P := Tryd.prog) W 42 5 i0 (.int .u8 0) h37 hi hz0 .i64 .i64 (s.size : Int) (s.size : Int) (by omega) (by omega) (by rw [hz2]; omega) (by omega)
      rw [← hM] at h
      simpa using h
    clear hM
    have hcp := Lib.run_copy_row_string (P := Tryd.prog) (w.alloc (.cells M 5)) 42 9 3 5 w.heap.size 0 s.size s.size s M 5 h37 hinfo (heap_alloc_new w _) (Nat.le_refl _) (by omega)
    obtain ⟨Y, hY⟩ : ∃ Y, Y = (M.toList.take 0 ++ Lib.byteCells s.data.toList ++ M.toList.drop (0 + s.size)).toArray := ⟨_, rfl⟩
    rw [← hY] at hcp
    have hYl : Y.toList = Lib.byteCells s.data.toList := by
      rw [hY, List.toList_toArray, List.take_zero, List.nil_append, List.drop_of_length_le (by rw [Array.length_toList]; omega), List.append_nil]
    have hYs : Y.size = s.size := by rw [← Array.length_toList, hYl, Lib.byteCells_length, ← Lib.size_eq]
    have hgY : ((w.alloc (.cells M 5)).setRow w.heap.size Y).heap[w.heap.size]? = some (.cells Y 5 (0, 0)) := setRow_heap _ _ M _ 5 (0, 0) (heap_alloc_new w _)
    have hne : s.data.toList ≠ [] := fun e => h0 (by rw [Lib.size_eq, e]; rfl)
    have hUS := Lib.run_unsafeString_row (P := Tryd.prog) ((w.alloc (.cells M 5)).setRow w.heap.size Y) 73 3 9 5 h47 hco w.heap.size Y.size (by unfold World.shape?; rw [hgY]) s.data.toList hne (by rw [← Lib.size_eq]; omega) (by rw [← Lib.size_eq]; omega)
      (fun j x hx => Lib.cells_of_row hgY Y.size j _ (by rw [List.take_of_length_le (by rw [Array.length_toList]; exact Nat.le_refl _), hYl]; simp [Lib.byteCells, hx]))
    rw [← Lib.size_eq] at hUS
    clear hY
    go_enter Tryd.func44, Tryd.ntmps44
    go_wp2
    go_ret
    have hb1 : Below w.heap.size w (w.alloc (.cells M 5)) := (Below.refl _ w).alloc (Nat.le_refl _) _
    have hb2 : Below w.heap.size (w.alloc (.cells M 5)) ((w.alloc (.cells M 5)).setRow w.heap.size Y) := ⟨rfl, rfl, rfl, by simp, fun k hk => setRow_other _ _ _ _ (by omega)⟩
    exact ⟨rfl, Lib.below_freeze (hb1.trans hb2) (p := ⟨w.heap.size, 0, none⟩) (Nat.le_refl _) _⟩
theorem Clone_calls (s : ByteArray) (H : List Eng.Item) (S : List World) (w : World) (hlim : s.size ≤ 281474976710656) (hc : Cls H S w) :
    Calls Tryd.prog 28 #[.string s] w fun e w' => e = .returned (.string s) ∧ Cls H S w' := by
  refine enter Tryd.func28 rfl Tryd.ntmps28 rfl hc ?_
  (simp only [argEnv, Nat.zero_add, Nat.reduceAdd])
  apply W.sr
  apply oas; rfl; rfl
  apply OL.nsr
  apply omv; rfl; rfl
  refine OL.callE (α := Unit) (fun _ => .string s) (fun _ => True) (fun _ => Cls H S) rfl rfl (by exact Args.au) (fun w2 hw2 => (Clone_raw s w2 hlim).mono fun _ w' h => ⟨(), h.1, trivial, hw2.ext (Ext.of_below h.2)⟩) ?_
  intro _ _
  apply oas; rfl; rfl
  apply OL.nx
  apply W.ret
  ((with_reducible apply At.fin1); rfl; rfl; intro w' hw')
  exact ⟨rfl, hw'⟩
end Go.Proofs.YtnnpheacekieaaaDoor.cln

/- A string made a slice of bytes. General. No condition. -/
namespace Go.Eng
open Go.RowKit
section
variable {P : Program} {n : Nm} {l : Env} {H : List Item} {S : List World} {c : Bool} {d : Option Nat} {ty : TypeId} {pos : String} {af : Array Edge}
variable {ops : Array Oper} {rest : List Oper} {Q : Exit → Act → World → Prop} {x : Operand}
theorem OL.toBytes {src dst : TypeId} {s : ByteArray} {dd : Nat} (hx : evl l x = some (true, .string s)) (hn : Nat.ble (dd + 1) n.n = true) (hs : strB P src = true) (hd : bytesB P dst = true)
    (k : ∀ (w1 : World) (b cap : Nat), AllLe S b → SlAt w1 w1.heap.size (some ⟨b, 0, none⟩) (s.data.toList.map byteCell) → OL P n ops Q rest ((dd, true, .slice (some ⟨b, 0, none⟩) s.size cap) :: l) (Cls H (w1 :: S))) :
    OL P n ops Q (⟨some dd, .convert src dst x, ty, pos, af, none⟩ :: rest) l (Cls H S) := by
  unfold strB at hs
  unfold bytesB at hd
  cases h1 : P.underlying src with
  | none => simp [h1] at hs
  | some d1 =>
    rw [h1] at hs
    cases d1 <;> simp only [Bool.false_eq_true] at hs
    cases h2 : P.underlying dst with
    | none => simp [h2] at hd
    | some d2 =>
      rw [h2] at hd
      cases d2 <;> simp only [Bool.false_eq_true] at hd
      rename_i e
      have he : P.underlying e = some (.int .u8) := by
        cases h3 : P.underlying e with
        | none => simp [h3] at hd
        | some d3 =>
          rw [h3] at hd
          split at hd
          · rename_i hq; exact hq
          · cases hd
      refine OL.newT (α := World × Nat × Nat) (C' := fun r w => (AllLe S r.2.1 ∧ SlAt r.1 r.1.heap.size (some ⟨r.2.1, 0, none⟩) (s.data.toList.map byteCell)) ∧ Cls H (r.1 :: S) w) rfl rfl hn (fun r => .slice (some ⟨r.2.1, 0, none⟩) s.size r.2.2) (fun a w hs' hc => ?_) (fun r => ⟨fun a w hs hc => (k r.1 r.2.1 r.2.2 hc.1.1 hc.1.2).run a w hs hc.2⟩)
      obtain ⟨O, hO⟩ : ∃ O, O = (Obj.cells (bytesRow s (grownCap w s.size 0 e)) e ((bytesRow s (grownCap w s.size 0 e)).size, (bytesRow s (grownCap w s.size 0 e)).size + 1)) := ⟨_, rfl⟩
      have hr := run_bytes_of_string (P := P) w src dst e s h1 h2 he
      rw [← hO] at hr
      have hx0 : Ext w (w.drew.alloc O) := (Keep.trans (b := w.drew) ⟨rfl, rfl, rfl, Nat.le_refl _, fun _ _ _ => rfl⟩ (ext_alloc _ O))
      have hnew : (w.drew.alloc O).heap[w.heap.size]? = some O := by
        show (w.heap.push O)[w.heap.size]? = _
        simp
      refine ⟨(w.drew.alloc O, w.heap.size, grownCap w s.size 0 e), w.drew.alloc O, ?_, ⟨AllLe.mk hc, fun _ => ⟨_, rfl, (Array.getElem?_eq_some_iff.1 hnew).1, fun j v hj => ?_⟩⟩, (hc.ext hx0).note⟩
      · simp only [execOp, hs'.eval hx rfl, Sem.run_bind, hr, Result.andThen_ok]; rfl
      · rw [add_mid, Nat.zero_add]
        unfold World.cell?
        rw [hnew, hO]
        simp only
        unfold bytesRow
        have hjl := (List.getElem?_eq_some_iff.1 hj).1
        rw [List.length_map, Array.length_toList] at hjl
        rw [Array.getElem?_append_left (by simpa using hjl), Array.getElem?_map]
        rw [List.getElem?_map, Array.getElem?_toList] at hj
        exact hj
theorem SlAt.byte {w : World} {B : Nat} {q : Option Addr} {s : ByteArray} (h : SlAt w B q (s.data.toList.map byteCell)) {i : Nat} (hi : i < s.size) :
    ∃ a, q = some a ∧ a.block < B ∧ w.cell? (a.add (i * 1)) = some (.int .u8 (bt s i)) := by
  have hi' : i < s.data.toList.length := by rw [Array.length_toList]; exact hi
  obtain ⟨a, rfl, hab, hc⟩ := h (by rw [List.length_map]; omega)
  refine ⟨a, rfl, hab, ?_⟩
  rw [Nat.mul_one]
  refine hc i _ ?_
  rw [List.getElem?_map, List.getElem?_eq_getElem hi']
  unfold bt byteCell
  rw [List.getD_eq_getElem?_getD, List.getElem?_eq_getElem hi']
  rfl
end
end Go.Eng

/- A region that draws its order, whose pure operations come first, whatever its other ones wait for, and whose other ones then follow one behind another. General. No condition. -/
namespace Go.Eng
open Go.RowKit
/-- an operation that makes nothing and writes nothing -/
def pureB (o : Oper) : Bool := match o.op with
  | .move _ => true
  | .assign _ => true
  | .pick .. => true
  | .build .. => true
  | .load .. => true
  | .nilCheck _ => true
  | .binOp .. => true
  | .unOp .. => true
  | .convert .. => true
  | .makeFunc .. => true
  | .slice .. => true
  | .fieldAddr .. => true
  | .field .. => true
  | .indexAddr .. => true
  | .index .. => true
  | .lookup .. => true
  | .extract .. => true
  | .call c => match c.callee with
    | .builtin .len => true
    | .builtin .min => true
    | .builtin .max => true
    | _ => false
  | _ => false
/-- an operation that looks at memory -/
def depB (o : Oper) : Bool := match o.op with
  | .load .. => true
  | .lookup .. => true
  | .index .. => true
  | .convert .. => true
  | _ => false
section
variable {P : Program} {ops : Array Oper} {C0 : World → Prop}
theorem value_only {M : Sem Value} {w : World} {n : Next} {w' : World} (h : (do pure (.value (← M)) : Sem Next).run P w = .ok n w') : ∃ u, n = .value u := by
  rw [Sem.run_bind] at h
  generalize M.run P w = r at h
  cases r with
  | ok v w1 => simp [Result.andThen] at h; exact ⟨v, h.1.symm⟩
  | halt x w1 => simp [Result.andThen] at h
theorem value_bind {α : Type} {M : Sem α} {f : α → Sem Next} (hf : ∀ x w n w', (f x).run P w = .ok n w' → ∃ u, n = .value u) (w : World) (n : Next) (w' : World) (h : (M >>= f).run P w = .ok n w') : ∃ u, n = .value u := by
  rw [Sem.run_bind] at h
  generalize M.run P w = r at h
  cases r with
  | ok v w1 => exact hf _ _ _ _ h
  | halt x w1 => simp [Result.andThen] at h
theorem pure_value {o : Oper} {ρ : Operand → Value} {w : World} {n : Next} {w' : World} (hp : pureB o = true) (h : (execOp ρ o).run P w = .ok n w') : ∃ u, n = .value u := by
  obtain ⟨dst, op, type, pos, after, guard⟩ := o
  cases op <;> simp only [pureB, Bool.false_eq_true] at hp <;> simp only [execOp] at h <;> try (exact value_only h)
  case move x => simp at h; exact ⟨_, h.1.symm⟩
  case assign x => simp at h; exact ⟨_, h.1.symm⟩
  case pick c a b =>
    rw [Sem.run_bind] at h
    generalize (asBool (ρ c)).run P w = r at h
    cases r with
    | ok v w1 => simp [Result.andThen] at h; exact ⟨_, h.1.symm⟩
    | halt x w1 => simp [Result.andThen] at h
  case nilCheck x =>
    split at h
    · simp [runtimePanic] at h
    · simp [runtimePanic] at h
    · simp [runtimePanic] at h
    · split at h
      · simp [runtimePanic] at h
      · refine value_bind (fun p => value_bind (fun q => ?_)) _ _ _ h
        intro w n w' h
        split at h
        · simp only [unsupported, Sem.run_bind] at h
          simp at h
        · simp at h; exact ⟨_, h.1.symm⟩
      · simp at h; exact ⟨_, h.1.symm⟩
    · simp at h; exact ⟨_, h.1.symm⟩
  case call c =>
    obtain ⟨callee, args, ats⟩ := c
    cases callee with
    | builtin b =>
      cases b <;> simp only [Bool.false_eq_true] at hp <;> simp only [resolve, invoke, builtin, Sem.run_bind, Sem.run_pure, Result.andThen_ok] at h
      case len =>
        generalize (Builtin.len_ ats type (Array.map ρ args)).run P w = r at h
        cases r with
        | ok v w1 => simp [Result.andThen] at h; exact ⟨v, h.1.symm⟩
        | halt x w1 => simp [Result.andThen] at h
      case min =>
        generalize (Builtin.min_ ats type (Array.map ρ args)).run P w = r at h
        cases r with
        | ok v w1 => simp [Result.andThen] at h; exact ⟨v, h.1.symm⟩
        | halt x w1 => simp [Result.andThen] at h
      case max =>
        generalize (Builtin.max_ ats type (Array.map ρ args)).run P w = r at h
        cases r with
        | ok v w1 => simp [Result.andThen] at h; exact ⟨v, h.1.symm⟩
        | halt x w1 => simp [Result.andThen] at h
    | value f => simp at hp
    | invoke r m => simp at hp
theorem still_of {D : World → Prop} {o : Oper} {ρ : Operand → Value} {w : World} {v : Value} (hp : pureB o = true) (h : Oper.quietUpon P D w v ((execOp ρ o).run P w)) : (execOp ρ o).run P w = .ok (.value v) w := by
  cases hr : (execOp ρ o).run P w with
  | ok n w' =>
    obtain ⟨u, rfl⟩ := pure_value hp hr
    rw [hr] at h
    simp only [Oper.quietUpon] at h
    rw [h.1, h.2]
  | halt x w' => rw [hr] at h; simp only [Oper.quietUpon] at h
/-! ### What one operation yields, where the class is asked of operations that look at memory alone -/
def YieldsZ (P : Program) (ops : Array Oper) (C0 : World → Prop) (o : Oper) (v : Value) (a : Act) : Prop :=
  (Region.wanted o (yielded ops a.tmps) = true ∧ ∀ w, (depB o = true → C0 w) → (execOp a.eval o).run P w = .ok (.value v) w) ∨
  (Region.wanted o (yielded ops a.tmps) = false ∧ v = undef)
theorem YieldsZ.of_same {o : Oper} {v : Value} {a a' : Act} (hy : YieldsZ P ops C0 o v a) (he : execOp a'.eval o = execOp a.eval o)
    (hw : Region.wanted o (yielded ops a'.tmps) = Region.wanted o (yielded ops a.tmps)) : YieldsZ P ops C0 o v a' := by
  unfold YieldsZ at *
  rw [he, hw]
  exact hy
variable {Q : Exit → Act → World → Prop}
theorem YieldsZ.wpOp {i : Nat} {o : Oper} {v : Value} {a : Act} (hi : ops[i]? = some o) (hy : YieldsZ P ops C0 o v a) {K : Act → World → Prop} {w : World} (hw0 : depB o = true → C0 w) (h : K (a.put o.dst v) w) : wpOp P ops Q i K a w := by
  unfold Go.wpOp
  simp only [hi]
  rcases hy with ⟨hw, hv⟩ | ⟨hw, rfl⟩
  · simp only [hw, if_true, Oper.wp, hv w hw0, Oper.upon]; exact .inl h
  · simp only [hw, Bool.false_eq_true, if_false]; exact h
theorem wpOp_putZ {j : Nat} {oi oj : Oper} {v : Value} (hj : ops[j]? = some oj) (hap : oi.apart ops oj = true)
    (hsi : ∀ cs b, oi.op ≠ .select cs b) (hsj : ∀ cs b, oj.op ≠ .select cs b) (hQ : ∀ c a w, ¬ Q (.panic c) a w) {K : Act → World → Prop} {a : Act} {w : World}
    (hy : YieldsZ P ops C0 oi v a) (h : wpOp P ops Q j K (a.put oi.dst v) w) :
    wpOp P ops Q j (fun a' w' => YieldsZ P ops C0 oi v a' ∧ K (a'.put oi.dst v) w') a w := by
  obtain ⟨h1, h2, h3⟩ := Oper.apart_spec hap
  have keep : ∀ (a : Act), YieldsZ P ops C0 oi v a → ∀ u, YieldsZ P ops C0 oi v (a.put oj.dst u) := fun a hy u =>
    hy.of_same (execOp_put oi hsi a oj.dst u h3) (wanted_put oi a oj.dst u h3)
  have keepD : ∀ d, YieldsZ P ops C0 oi v { a with defers := d :: a.defers } := fun d => hy.of_same rfl rfl
  unfold Go.wpOp at *
  simp only [hj] at *
  rw [wanted_put oj a oi.dst v h1] at h
  split
  · rename_i hw
    simp only [hw, if_true] at h
    rcases h with h | ⟨hasks, hlets⟩
    case inr => exact .inr ⟨by unfold Oper.asks at *; rw [execOp_put oj hsj a oi.dst v h1] at hasks; exact hasks, hlets⟩
    refine .inl ?_
    unfold Oper.wp at *
    rw [execOp_put oj hsj a oi.dst v h1] at h
    generalize (execOp a.eval oj).run P w = r at *
    cases r with
    | ok n w' =>
      cases n <;> simp only [Oper.upon] at h ⊢
      case value u => exact ⟨keep a hy u, by rw [← Act.put_comm a v u h2]; exact h⟩
      case skip => exact ⟨keep a hy _, by rw [← Act.put_comm a v undef h2]; exact h⟩
      case defer d =>
        refine ⟨keep _ (keepD d) _, ?_⟩
        rw [← Act.put_comm _ v undef h2, ← Act.put_defers]
        exact h
      case enter f args =>
        refine Calls.mono h fun e w'' he => ?_
        cases e with
        | returned u => exact ⟨keep a hy u, by rw [← Act.put_comm a v u h2]; exact he⟩
        | panicked c => exact absurd he (hQ _ _ _)
        | outgrown => exact he
      case row row args => exact Rows.mono h fun u w'' he => ⟨keep a hy u, by rw [← Act.put_comm a v u h2]; exact he⟩
    | halt x w' =>
      cases x <;> simp only [Oper.upon] at h ⊢
      case panic u => exact absurd h (hQ _ _ _)
  · rename_i hw
    simp only [hw] at h
    exact ⟨keep a hy _, by rw [← Act.put_comm a v undef h2]; exact h⟩
/-! ### Whatever order: what some operations keep is told -/
def wpZ (P : Program) (ops : Array Oper) (C0 : World → Prop) (need : Nat → Bool) (Q : Exit → Act → World → Prop) : Nat → Array Bool → Act → World → Prop
  | 0, li, a, w => Region.ready .any ops li = [] ∧ Q .normal a w
  | f + 1, li, a, w => (Region.ready .any ops li = [] → Q .normal a w) ∧ ∀ i ∈ Region.ready .any ops li, wpOp P ops Q i (fun a' w' => (need i = true → C0 w → C0 w') ∧ wpZ P ops C0 need Q f (li.setIfInBounds i true) a' w') a w
theorem wpAny_of_Z {need : Nat → Bool} : ∀ (f : Nat) (li : Array Bool) (a : Act) (w : World), wpZ P ops C0 need Q f li a w → wpAny P .any ops Q f li a w
  | 0, _, _, _, h => h
  | f + 1, li, a, w, h => ⟨h.1, fun i hi => wpOp_mono (fun a' w' h' => wpAny_of_Z f _ a' w' h'.2) (h.2 i hi)⟩
theorem wpZ_first {need : Nat → Bool} {i : Nat} {oi : Oper} {v : Value} (hi : ops[i]? = some oi) (hsel : ∀ (j : Nat) (o : Oper) cs b, ops[j]? = some o → o.op ≠ .select cs b) (hQ : ∀ c a w, ¬ Q (.panic c) a w) :
    ∀ (fuel : Nat) (li : Array Bool) (a : Act) (w : World), Dn ops li →
      (∀ j oj, ops[j]? = some oj → j ≠ i → li.getD j true = false → waitsB ops ops.size j i = false → oi.apart ops oj = true ∧ (depB oi = true → need j = true)) →
      i ∈ Region.ready .any ops li → YieldsZ P ops C0 oi v a → (depB oi = true → C0 w) →
      wpZ P ops C0 need Q fuel (li.setIfInBounds i true) (a.put oi.dst v) w → wpZ P ops C0 need Q (fuel + 1) li a w := by
  intro fuel
  induction fuel with
  | zero =>
    intro li a w hD _ hr hy hC H
    refine ⟨fun h => (by rw [h] at hr; cases hr), fun j hj => ?_⟩
    by_cases hji : j = i
    · subst hji; exact hy.wpOp hi hC ⟨fun _ h => h, H⟩
    · have := ready_mono hj hji
      rw [H.1] at this
      cases this
  | succ fuel ih =>
    intro li a w hD hfree hr hy hC H
    refine ⟨fun h => (by rw [h] at hr; cases hr), fun j hj => ?_⟩
    by_cases hji : j = i
    · subst hji; exact hy.wpOp hi hC ⟨fun _ h => h, H⟩
    · have h1 := H.2 j (ready_mono hj hji)
      obtain ⟨hjun, oj, hoj, hall⟩ := mem_ready.1 hj
      have hnw : waitsB ops ops.size j i = false := by
        cases hw : waitsB ops ops.size j i with
        | false => rfl
        | true =>
          have h2 := waits_done hD _ j oj hoj hall hw
          rw [getD_ft (mem_ready.1 hr).1] at h2
          cases h2
      obtain ⟨hap, hn⟩ := hfree j oj hoj hji hjun hnw
      have h2 := wpOp_putZ hoj hap (fun cs b => hsel i oi cs b hi) (fun cs b => hsel j oj cs b hoj) hQ hy h1
      have hfree' : ∀ k ok, ops[k]? = some ok → k ≠ i → (li.setIfInBounds j true).getD k true = false → waitsB ops ops.size k i = false → oi.apart ops ok = true ∧ (depB oi = true → need k = true) := fun k ok hk hki hun hno => by
        refine hfree k ok hk hki ?_ hno
        by_cases hjk : j = k
        · subst hjk; exact hjun
        · rw [getD_set_ne true hjk] at hun; exact hun
      refine wpOp_mono (fun a' w' h3 => ⟨h3.2.1, ih (li.setIfInBounds j true) a' w' (hD.set hj) hfree' (ready_mono hr (Ne.symm hji)) h3.1 (fun hd => h3.2.1 (hn hd) (hC hd)) ?_⟩) h2
      rw [Array.setIfInBounds_comm _ _ hji]
      exact h3.2.2
/-! ### The pure ones first -/
def freeZ (ops : Array Oper) (li : Array Bool) (i : Nat) : Bool :=
  match ops[i]? with
  | none => false
  | some oi => (List.range ops.size).all fun j => Nat.beq j i || (li.getD j true || (waitsB ops ops.size j i || (match ops[j]? with
      | some oj => oi.apart ops oj
      | none => true)))
/-- must operation k keep the class for one of the pure ones? -/
def needZ (ops : Array Oper) (xi : List Nat) (k : Nat) : Bool := xi.any fun i => (match ops[i]? with | some o => depB o | none => false) && !waitsB ops ops.size k i
theorem freeZ_spec {i : Nat} {oi : Oper} {li : Array Bool} {xi : List Nat} (hi : ops[i]? = some oi) (hx : i ∈ xi) (h : freeZ ops li i = true) (j : Nat) (oj : Oper) (hj : ops[j]? = some oj) (hne : j ≠ i) (hun : li.getD j true = false) (hno : waitsB ops ops.size j i = false) :
    oi.apart ops oj = true ∧ (depB oi = true → needZ ops xi j = true) := by
  simp only [freeZ, hi, List.all_eq_true, List.mem_range] at h
  have h1 := h j (Array.getElem?_eq_some_iff.1 hj).1
  have hb : Nat.beq j i = false := by
    rw [Bool.eq_false_iff]; intro hb; exact hne (Nat.eq_of_beq_eq_true hb)
  simp only [hj, hun, hno, hb, Bool.false_or] at h1
  refine ⟨h1, fun hd => List.any_eq_true.2 ⟨i, hx, ?_⟩⟩
  simp [hi, hd, hno]
def preZ (ops : Array Oper) : List Nat → Array Bool → Bool
  | [], _ => true
  | i :: r, li => (Region.ready .any ops li).contains i && (freeZ ops li i && preZ ops r (li.setIfInBounds i true))
def runZ : List Nat → Array Bool → Array Bool
  | [], li => li
  | i :: r, li => runZ r (li.setIfInBounds i true)
def seqZ (ops : Array Oper) : List Nat → Array Bool → Bool
  | [], li => (Region.ready .any ops li).isEmpty
  | k :: t, li => (Region.ready .any ops li == [k]) && seqZ ops t (li.setIfInBounds k true)
def wpZL (P : Program) (ops : Array Oper) (C0 : World → Prop) (K : Act → Prop) : List Oper → Act → Prop
  | [], a => K a
  | o :: r, a => if Region.wanted o (yielded ops a.tmps) then ∃ v, (∀ w, (depB o = true → C0 w) → (execOp a.eval o).run P w = .ok (.value v) w) ∧ wpZL P ops C0 K r (a.put o.dst v) else wpZL P ops C0 K r (a.put o.dst undef)
def wpT (P : Program) (ops : Array Oper) (C0 : World → Prop) (need : Nat → Bool) (Q : Exit → Act → World → Prop) : List (Nat × Oper) → Act → World → Prop
  | [], a, w => Q .normal a w
  | (k, _) :: r, a, w => wpOp P ops Q k (fun a' w' => (need k = true → C0 w') ∧ wpT P ops C0 need Q r a' w') a w
theorem wpZ_seq {need : Nat → Bool} : ∀ (y : List (Nat × Oper)) (li : Array Bool) (a : Act) (w : World), seqZ ops (y.map (·.1)) li = true → wpT P ops C0 need Q y a w → wpZ P ops C0 need Q y.length li a w
  | [], li, a, w, hB, h => ⟨by simpa [seqZ] using hB, h⟩
  | (k, o) :: r, li, a, w, hB, h => by
    simp only [List.map_cons, seqZ, Bool.and_eq_true, beq_iff_eq] at hB
    refine ⟨fun h' => (by rw [hB.1] at h'; cases h'), fun i hi => ?_⟩
    rw [hB.1, List.mem_singleton] at hi
    subst hi
    exact wpOp_mono (fun a' w' h3 => ⟨fun hn _ => h3.1 hn, wpZ_seq r _ a' w' hB.2 h3.2⟩) h
theorem wpZ_pre {xi0 : List Nat} (hs : Region.noSelect ops = true) (hQ : ∀ c a w, ¬ Q (.panic c) a w) {K : Act → Prop} {f : Nat} {w : World} (hw : C0 w) : ∀ (x : List (Nat × Oper)) (li : Array Bool) (a : Act), (∀ p ∈ x, p.1 ∈ xi0 ∧ ops[p.1]? = some p.2) → Dn ops li →
    preZ ops (x.map (·.1)) li = true → wpZL P ops C0 K (x.map (·.2)) a → (∀ a, K a → wpZ P ops C0 (needZ ops xi0) Q f (runZ (x.map (·.1)) li) a w) → wpZ P ops C0 (needZ ops xi0) Q (x.length + f) li a w
  | [], li, a, _, _, _, h, hK => by
    rw [List.length_nil, Nat.zero_add]; exact hK a h
  | (i, o) :: r, li, a, hx, hD, hB, h, hK => by
    obtain ⟨hmem, hi⟩ := hx _ (.head _)
    simp only [List.map_cons, preZ, Bool.and_eq_true] at hB
    obtain ⟨hr, hf, hB'⟩ := hB
    have hr' : i ∈ Region.ready .any ops li := by simpa using hr
    have key : ∃ v, YieldsZ P ops C0 o v a ∧ wpZL P ops C0 K (r.map (·.2)) (a.put o.dst v) := by
      simp only [List.map_cons, wpZL] at h
      split at h
      · rename_i hw
        obtain ⟨v, h1, h2⟩ := h
        exact ⟨v, .inl ⟨hw, h1⟩, h2⟩
      · rename_i hw
        exact ⟨undef, .inr ⟨by simpa using hw, rfl⟩, h⟩
    obtain ⟨v, hy, h2⟩ := key
    rw [List.length_cons, show r.length + 1 + f = (r.length + f) + 1 by omega]
    exact wpZ_first hi (Region.noSelect_spec hs) hQ _ li a w hD (freeZ_spec hi hmem hf) hr' hy (fun _ => hw)
      (wpZ_pre hs hQ hw r _ _ (fun p hp => hx p (.tail _ hp)) (hD.set hr') hB' h2 hK)
def NoPanic (Q : Exit → Act → World → Prop) : Exit → Act → World → Prop := fun e a w => match e with
  | .panic _ => False
  | e => Q e a w
theorem wpOp_np {i : Nat} {K : Act → World → Prop} {a : Act} {w : World} (h : wpOp P ops (NoPanic Q) i K a w) : wpOp P ops Q i K a w := by
  have hp : ∀ e a w, e ≠ .normal → NoPanic Q e a w → Q e a w := fun e a w _ h => by
    cases e <;> first | exact h | exact h.elim
  unfold wpOp at *
  split
  · rename_i ho; simp only [ho] at h; exact h
  · rename_i o ho
    simp only [ho] at h
    split
    · rename_i hw
      rw [if_pos hw] at h
      rcases h with h | ⟨h, a', w', hq⟩
      · refine .inl ?_
        unfold Oper.wp at h ⊢
        exact upon_Q hp h
      · exact .inr ⟨h, a', w', hq⟩
    · rename_i hw
      rw [if_neg hw] at h
      exact h
theorem wpAny_np : ∀ (f : Nat) (li : Array Bool) (a : Act) (w : World), wpAny P .any ops (NoPanic Q) f li a w → wpAny P .any ops Q f li a w
  | 0, _, _, _, h => h
  | f + 1, li, a, w, h => ⟨h.1, fun i hi => wpOp_np (wpOp_mono (fun a' w' h' => wpAny_np f _ a' w' h') (h.2 i hi))⟩
end
/-- the pure operations that wait for none of the others, and the others -/
inductive ZSplit : Nat → List Nat → List Oper → List (Nat × Oper) → List (Nat × Oper) → Prop where
  | nil {k : Nat} {tl : List Nat} : ZSplit k tl [] [] []
  | pure {k : Nat} {tl : List Nat} {o : Oper} {r : List Oper} {x y : List (Nat × Oper)} (hp : (pureB o && o.after.toList.all fun e => tl.all fun t => !Nat.beq t e.on) = true) (h : ZSplit (k + 1) tl r x y) : ZSplit k tl (o :: r) ((k, o) :: x) y
  | tail {k : Nat} {tl : List Nat} {o : Oper} {r : List Oper} {x y : List (Nat × Oper)} (h : ZSplit (k + 1) (k :: tl) r x y) : ZSplit k tl (o :: r) x ((k, o) :: y)
theorem ZSplit.spec {k : Nat} {tl : List Nat} {l : List Oper} {x y : List (Nat × Oper)} (h : ZSplit k tl l x y) : (∀ p ∈ x, k ≤ p.1 ∧ l[p.1 - k]? = some p.2 ∧ pureB p.2 = true) ∧ (∀ p ∈ y, k ≤ p.1 ∧ l[p.1 - k]? = some p.2) ∧ x.length + y.length = l.length := by
  induction h with
  | nil => simp
  | @pure k tl o r x y hp h ih =>
    simp only [Bool.and_eq_true] at hp
    refine ⟨fun p hpm => ?_, fun p hpm => ?_, by simp only [List.length_cons]; omega⟩
    · rcases List.mem_cons.1 hpm with rfl | hpm
      · exact ⟨Nat.le_refl _, by simp, hp.1⟩
      · obtain ⟨h1, h2, h3⟩ := ih.1 p hpm
        exact ⟨by omega, by rw [show p.1 - k = (p.1 - (k + 1)) + 1 by omega, List.getElem?_cons_succ]; exact h2, h3⟩
    · obtain ⟨h1, h2⟩ := ih.2.1 p hpm
      exact ⟨by omega, by rw [show p.1 - k = (p.1 - (k + 1)) + 1 by omega, List.getElem?_cons_succ]; exact h2⟩
  | @tail k tl o r x y h ih =>
    refine ⟨fun p hpm => ?_, fun p hpm => ?_, by simp only [List.length_cons]; omega⟩
    · obtain ⟨h1, h2, h3⟩ := ih.1 p hpm
      exact ⟨by omega, by rw [show p.1 - k = (p.1 - (k + 1)) + 1 by omega, List.getElem?_cons_succ]; exact h2, h3⟩
    · rcases List.mem_cons.1 hpm with rfl | hpm
      · exact ⟨Nat.le_refl _, by simp⟩
      · obtain ⟨h1, h2⟩ := ih.2.1 p hpm
        exact ⟨by omega, by rw [show p.1 - k = (p.1 - (k + 1)) + 1 by omega, List.getElem?_cons_succ]; exact h2⟩
structure ZL (P : Program) (n : Nm) (ops : Array Oper) (C0 : World → Prop) (K : Act → Prop) (rest : List (Nat × Oper)) (l : Env) : Prop where
  run : ∀ a, Sees n l a → wpZL P ops C0 K (rest.map (·.2)) a
structure TL (P : Program) (n : Nm) (ops : Array Oper) (C0 : World → Prop) (need : Nat → Bool) (Q : Exit → Act → World → Prop) (y : List (Nat × Oper)) (l : Env) (C : World → Prop) : Prop where
  run : ∀ a w, Sees n l a → C w → wpT P ops C0 need Q y a w
def TQ (P : Program) (ops : Array Oper) (C0 : World → Prop) (need : Nat → Bool) (k : Nat) (r : List (Nat × Oper)) (Q : Exit → Act → World → Prop) : Exit → Act → World → Prop := fun e a w => match e with
  | .normal => (need k = true → C0 w) ∧ wpT P ops C0 need Q r a w
  | e => Q e a w
def zB (ops : Array Oper) (xi yi : List Nat) : Bool := Region.noSelect ops && (preZ ops xi (Array.replicate ops.size false) && seqZ ops yi (runZ xi (Array.replicate ops.size false)))
section
variable {P : Program} {n : Nm} {l : Env} {C C0 : World → Prop} {ops : Array Oper} {Q : Exit → Act → World → Prop} {K : Act → Prop} {o : Oper} {k : Nat} {x y r : List (Nat × Oper)} {need : Nat → Bool}
theorem W.regz {id : Nat} {l0 : List Oper} (hs : ZSplit 0 [] l0 x y) (hm : P.follows .mixedOrders = true) (hB : zB l0.toArray (x.map (·.1)) (y.map (·.1)) = true) (hC : ∀ w, C w → C { w with drawn := w.drawn + 1 })
    (h : ZL P n l0.toArray C (fun a' => ∀ w', C w' → wpT P l0.toArray C (needZ l0.toArray (x.map (·.1))) (NoPanic Q) y a' w') x l) : W P n (.region id l0.toArray true) Q l C := ⟨fun a w hs' hc => by
  simp only [zB, Bool.and_eq_true] at hB
  obtain ⟨h1, h2, h3⟩ := hB
  obtain ⟨hx, hy, hlen⟩ := hs.spec
  refine wpp_region_any hm (wpAny_np _ _ _ _ (wpAny_of_Z (C0 := C) (need := needZ l0.toArray (x.map (·.1))) _ _ _ _ ?_))
  have key := wpZ_pre (P := P) (ops := l0.toArray) (C0 := C) (Q := NoPanic Q) (xi0 := x.map (·.1)) (f := y.length) (w := { w with drawn := w.drawn + 1 }) h1 (fun _ _ _ h => h) (hC w hc) x (Array.replicate l0.toArray.size false) a
    (fun p hp => ⟨List.mem_map.2 ⟨p, hp, rfl⟩, by have := (hx p hp).2.1; simpa using this⟩) (fun j o _ hj => by rw [getD_rep] at hj; cases hj) h2 (h.run a hs')
    (fun a' hK => wpZ_seq y _ a' _ h3 (hK _ (hC w hc)))
  have e : x.length + y.length = l0.toArray.size := by simpa using hlen
  exact (congrArg (fun s => wpZ P l0.toArray C (needZ l0.toArray (x.map (·.1))) (NoPanic Q) s (Array.replicate l0.toArray.size false) a { w with drawn := w.drawn + 1 }) e).mp key⟩
theorem ZL.nil (h : TL P n ops C0 need Q y l C0) : ZL P n ops C0 (fun a' => ∀ w', C0 w' → wpT P ops C0 need Q y a' w') [] l := ⟨fun a hs w hc => h.run a w hs hc⟩
theorem ZL.step {d : Nat} {c : Bool} {v : Value} (hp : pureB o = true) (hg : Guard l ops o.guard c) (hd : o.dst = some d) (hn : Nat.ble (d + 1) n.n = true) (hv : Pev P n l (fun w => depB o = true → C0 w) o c v)
    (kk : ZL P n ops C0 K r ((d, c, v) :: l)) : ZL P n ops C0 K ((k, o) :: r) l := by
  have hn' := Nat.le_of_ble_eq_true hn
  refine ⟨fun a hs => ?_⟩
  show wpZL P ops C0 K (o :: r.map (·.2)) a
  unfold wpZL
  rw [hg.wanted hs]
  cases c with
  | true => exact ⟨v, fun w hw => still_of hp (hv.run rfl a w hs hw), by rw [hd]; exact kk.run _ (hs.put hn' true v)⟩
  | false => rw [hd]; exact kk.run _ (hs.put hn' false v)
theorem ZL.op {d : Nat} {c : Bool} {v : Value} (hb : (pureB o && !depB o) = true) (hg : Guard l ops o.guard c) (hd : o.dst = some d) (hn : Nat.ble (d + 1) n.n = true) (hv : Pev P n l (fun _ => True) o c v)
    (kk : ZL P n ops C0 K r ((d, c, v) :: l)) : ZL P n ops C0 K ((k, o) :: r) l := by
  simp only [Bool.and_eq_true, Bool.not_eq_true'] at hb
  exact ZL.step hb.1 hg hd hn ⟨fun hc a w hs hw => by
    have := hv.run hc a w hs trivial
    rw [still_of hb.1 this]; exact ⟨rfl, rfl⟩⟩ kk
theorem ZL.ld {d : Nat} {c : Bool} {v : Value} (hb : (pureB o && depB o) = true) (hg : Guard l ops o.guard c) (hd : o.dst = some d) (hn : Nat.ble (d + 1) n.n = true) (hv : Pev P n l C0 o c v)
    (kk : ZL P n ops C0 K r ((d, c, v) :: l)) : ZL P n ops C0 K ((k, o) :: r) l := by
  simp only [Bool.and_eq_true] at hb
  exact ZL.step hb.1 hg hd hn ⟨fun hc a w hs hw => by
    have := hv.run hc a w hs (hw hb.2)
    rw [still_of hb.1 this]; exact ⟨rfl, rfl⟩⟩ kk
theorem TL.nil (h : At n Q .normal l C) : TL P n ops C0 need Q [] l C := ⟨fun a w hs hc => h.run a w hs hc⟩
theorem TL.one (hi : ops[k]? = some o) (h : OL P n ops (TQ P ops C0 need k r Q) [o] l C) : TL P n ops C0 need Q ((k, o) :: r) l C := ⟨fun a w hs hc => by
  have hp : ∀ ex a w, ex ≠ .normal → TQ P ops C0 need k r Q ex a w → Q ex a w := fun ex a w hne h => by
    cases ex <;> first | exact h | exact absurd rfl hne
  have h := h.run a w hs hc
  show wpOp P ops Q k _ a w
  unfold wpOp
  simp only [hi]
  unfold wpList at h
  split
  · rename_i hw
    rw [if_pos hw] at h
    rcases h with h | ⟨h, a', w', hq⟩
    · refine .inl ?_
      unfold Oper.wp at h ⊢
      exact upon_Q hp h
    · exact .inr ⟨h, a', w', hp _ _ _ (by simp) hq⟩
  · rename_i hw
    rw [if_neg hw] at h
    exact h⟩
theorem At.tn (hk : need k = false) (h : TL P n ops C0 need Q r l C) : At n (TQ P ops C0 need k r Q) .normal l C := ⟨fun a w hs hc => ⟨fun h' => (by rw [hk] at h'; cases h'), h.run a w hs hc⟩⟩
theorem At.tk (hk : ∀ w, C w → C0 w) (h : TL P n ops C0 need Q r l C) : At n (TQ P ops C0 need k r Q) .normal l C := ⟨fun a w hs hc => ⟨fun _ => hk w hc, h.run a w hs hc⟩⟩
theorem At.np (h : At n Q .normal l C) : At n (NoPanic Q) .normal l C := ⟨h.run⟩
end
/-! a guard that is known, among the quiet operations -/
section
variable {P : Program} {n : Nm} {l : Env} {C : World → Prop} {c : Bool} {d : Option Nat} {op : Op} {ty : TypeId} {pos : String} {af : Array Edge} {g : Option (Nat × Bool)} {ops : Array Oper} {K : Act → Prop} {rest : List Oper}
theorem QL.gateOff {dd : Nat} (hg : Guard l ops g c) (hc : c = false) (hn : Nat.ble (dd + 1) n.n = true) (h : QL P n ops C K rest ((dd, false, undef) :: l)) : QL P n ops C K (⟨some dd, op, ty, pos, af, g⟩ :: rest) l := by
  have hn' := Nat.le_of_ble_eq_true hn
  refine ⟨fun a hs => ?_⟩
  unfold wpQuiet
  rw [hg.wanted hs]
  subst hc
  exact h.run _ (hs.put hn' false undef)
end
end Go.Eng

/- The walks of source.Check and of the reference's TextError; strings.Split. Condition: the variable bytealg.MaxLen holds some int. -/
namespace Go.Proofs.YtnnpheacekieaaaDoor.sp
open Go.RowKit Go.Eng Go.Sp Go.Shelf
set_option maxRecDepth 100000
def maxAt (w : World) : Prop := ∃ m, w.cell? ⟨0, 0, none⟩ = some (.int .i64 m)
theorem maxAt_of {w : World} (h : w.ShapedOpen Tryd.prog) : maxAt w := Tryd.laysM146.s1_3 w h
theorem maxAt_ext {w w' : World} (hx : Ext w w') (h : maxAt w) : maxAt w' := h.elim fun m hm => ⟨m, (World.cell?_of_block (hx.below.block _ (cell_lt hm))).trans hm⟩
theorem indexByte_calls (s : ByteArray) (c : Int) (w : World) :
    Calls Tryd.prog 23 #[.string s, .int .u8 c] w fun e w' => e = .returned (.int .i64 (Lib.indexByte s.data.toList c.toNat.toUInt8)) ∧ w' = w := Any.strings_IndexByte Tryd.lays137 s c w
theorem count_calls (s : ByteArray) (w : World) :
    Calls Tryd.prog 32 #[.string s, .string ⟨#[10]⟩] w fun e w' => e = .returned (.int .i64 (s.data.toList.count 10 : Nat)) ∧ w' = w := Any.strings_Count_one Tryd.lays138 s 10 w
theorem split_calls (s : ByteArray) (hs : s.size < 4294967281) (w : World) (hm : maxAt w) :
    Calls Tryd.prog 13 #[.string s, .string ⟨#[10]⟩] w fun e w' => e = .returned (.slice (some ⟨w.heap.size, 0, none⟩) (pcs s).length (pcs s).length) ∧ w' = w.alloc (.cells (strs (pcs s)).toArray 9) := by
  obtain ⟨m, hm⟩ := hm
  rw [pcs_len]
  exact Any.strings_Split { Tryd.laysM146 with } Tryd.laysM146.i9 s nl m w hs hm (by decide)
theorem Check_calls (s : ByteArray) (hs : s.size ≤ 9223372036854775807) (w : World) : Calls Tryd.prog 9 #[.string s] w fun e w' => e = .returned (.int .i64 (chk s)) ∧ Ext w w' := by
  refine enter Tryd.func9 rfl Tryd.ntmps9 rfl (Cls.start w) ?_
  (simp only [argEnv, Nat.zero_add, Nat.reduceAdd])
  apply W.sr
  apply oas; rfl; rfl
  apply OL.nx
  apply W.seq
  apply W.sr
  apply omv; rfl; rfl
  apply oop; rfl; apply Pev.len_str; rfl; exact yes; rfl
  apply obn; rfl; rfl; rfl; apply Bin.gtr
  apply OL.nx
  (refine W.cnd (fun hl => ?_) (fun hl => ?_)) <;> (try (exfalso; first | omega | exact hl trivial | contradiction))
  · apply W.sr
    apply oas; rfl; rfl
    apply OL.nx
    refine W.rt ?_
    ((with_reducible apply At.fin1); rfl; rfl; intro w' hw')
    exact ⟨by unfold chk; rw [if_pos (by omega)], by (exact hw'.fr)⟩
  have hc : chk s = if badL s.data.toList then 5 else 0 := by unfold chk; rw [if_neg (by omega)]
  rw [hc]
  apply W.sk
  apply W.seq
  apply W.sr
  apply omv; rfl; rfl
  apply oop; rfl; apply Pev.len_str; rfl; exact yes; rfl
  apply omv; rfl; rfl
  apply OL.nx
  apply W.block
  refine W.loop (G := Nat) (fun i => i ≤ s.size ∧ badL (s.data.toList.drop i) = badL s.data.toList) (fun i => s.size - i)
    (fun i => [(0, true, .string s), (9, true, .int .i64 (s.size : Int)), (10, true, .int .i64 (i : Int))])
    (fun i => Cls [] [w]) 0 ⟨by omega, rfl⟩ (by exact Sub.au) (fun w' hw' => hw') ?_
  rintro i ⟨hi, hrest⟩
  apply W.sr
  apply obn; rfl; rfl; rfl; apply Bin.lss
  apply OL.nx
  apply W.seq
  (refine W.cnd (fun hlt => ?_) (fun hlt => ?_)) <;> (try (exfalso; first | omega | exact hlt trivial | contradiction))
  · have hil : i < s.size := by omega
    have hbt := bt_lo s i
    rw [badL_step hil] at hrest
    apply W.sk
    apply W.sb
    apply W.sr
    apply omv; rfl; rfl
    apply oas; rfl; rfl
    apply OL.nsr
    apply omv; rfl; rfl
    apply omv; rfl; rfl
    apply oop; rfl; apply Pev.index_str; rfl; exact yes; rfl; exact yes; rfl; (intro hcond; refine ⟨rfl, ?_⟩); omega
    apply oas; rfl; rfl
    apply OL.nsr
    apply omv; rfl; rfl
    apply obn; rfl; rfl; rfl; apply Bin.neq
    apply omv; rfl; rfl
    apply oy; rfl; rfl; rfl; apply Pev.move; rfl; exact yes
    apply oy; rfl; rfl; rfl; apply Pev.bin; rfl; exact fun h => h; rfl; exact yes; intro hcond; apply Bin.lss
    apply oy; rfl; rfl; rfl; apply Pev.move; rfl; exact fun h => h
    apply OL.op; exact Guard.cno rfl rfl; rfl; rfl; apply Pev.move; rfl; exact yes
    apply OL.op; exact Guard.cno rfl rfl; rfl; rfl; apply Pev.bin; rfl; exact fun h => h; rfl; exact yes; intro hcond; apply Bin.gtr
    apply oy; rfl; rfl; rfl; apply Pev.pick_or; rfl; exact fun h => h; rfl; exact fun h => h
    apply oop; rfl; apply Pev.pick_and; rfl; exact yes; rfl; exact fun h => h
    apply OL.nx
    refine W.cond rfl (fun hb => ?_) (fun hb => ?_)
    · have hbad : badI (bt s i) = true := hb
      apply W.sr
      apply oas; rfl; rfl
      apply OL.nx
      refine W.rt ?_
      ((with_reducible apply At.fin1); rfl; rfl; intro w' hw')
      exact ⟨by rw [← hrest, hbad]; rfl, by (exact hw'.fr)⟩
    · have hbad : badI (bt s i) = false := hb
      rw [hbad, Bool.false_or] at hrest
      apply W.skip
      with_reducible apply At.in_normal
      with_reducible apply At.next
      apply W.reg
      apply obn; rfl; rfl; rfl; apply Bin.add_in; omega
      apply omv; rfl; rfl
      apply OL.nil
      exact At.again (i + 1) ⟨by omega, hrest⟩ (by omega) (by exact Sub.au) (fun w' hw' => hw')
  · rw [badL_end (by omega)] at hrest
    refine W.xt ?_
    with_reducible apply At.next
    apply W.sr
    apply oas; rfl; rfl
    apply OL.nx
    apply W.ret
    ((with_reducible apply At.fin1); rfl; rfl; intro w' hw')
    exact ⟨by rw [← hrest]; rfl, by (exact hw'.fr)⟩
theorem TextError_calls (s : ByteArray) (hs : s.size ≤ 9223372036854775807) (w : World) : Calls Tryd.prog 5 #[.string s] w fun e w' => e = .returned (.int .i64 (chk s)) ∧ Ext w w' := by
  refine enter Tryd.func5 rfl Tryd.ntmps5 rfl (Cls.start w) ?_
  (simp only [argEnv, Nat.zero_add, Nat.reduceAdd])
  apply W.sr
  apply oas; rfl; rfl
  apply OL.nx
  apply W.seq
  apply W.sr
  apply omv; rfl; rfl
  apply oop; rfl; apply Pev.len_str; rfl; exact yes; rfl
  apply obn; rfl; rfl; rfl; apply Bin.gtr
  apply OL.nx
  (refine W.cnd (fun hl => ?_) (fun hl => ?_)) <;> (try (exfalso; first | omega | exact hl trivial | contradiction))
  · apply W.sr
    apply oas; rfl; rfl
    apply OL.nx
    refine W.rt ?_
    ((with_reducible apply At.fin1); rfl; rfl; intro w' hw')
    exact ⟨by unfold chk; rw [if_pos (by omega)], by (exact hw'.fr)⟩
  have hc : chk s = if badL s.data.toList then 5 else 0 := by unfold chk; rw [if_neg (by omega)]
  rw [hc]
  apply W.sk
  apply W.seq
  apply W.sr
  apply omv; rfl; rfl
  refine OL.toBytes rfl rfl rfl rfl (fun w1 b cap hb hbs => ?_)
  simp only [AllLe, and_true] at hb
  apply oop; rfl; apply Pev.len_slice; rfl; exact yes; rfl
  apply omv; rfl; rfl
  apply OL.nx
  apply W.block
  refine W.loop (G := Nat) (fun i => i ≤ s.size ∧ badL (s.data.toList.drop i) = badL s.data.toList) (fun i => s.size - i)
    (fun i => [(9, true, .slice (some ⟨b, 0, none⟩) s.size cap), (10, true, .int .i64 (s.size : Int)), (11, true, .int .i64 (i : Int))])
    (fun i => Cls [] [w1, w]) 0 ⟨by omega, rfl⟩ (by exact Sub.au) (fun w' hw' => hw') ?_
  rintro i ⟨hi, hrest⟩
  apply W.sr
  apply obn; rfl; rfl; rfl; apply Bin.lss
  apply OL.nx
  apply W.seq
  (refine W.cnd (fun hlt => ?_) (fun hlt => ?_)) <;> (try (exfalso; first | omega | exact hlt trivial | contradiction))
  · have hil : i < s.size := by omega
    have hbt := bt_lo s i
    obtain ⟨a, ea, hab, hcell⟩ := SlAt.byte hbs hil
    cases ea
    rw [badL_step hil] at hrest
    have hblk : b < w1.heap.size := hab
    apply W.sk
    apply W.sb
    apply W.sr
    apply oop; rfl; apply Pev.idxB; rfl; exact yes; rfl; exact yes; rfl; intro hcond; omega; rfl
    (((first | (with_reducible apply OL.op) | (with_reducible apply QL.op)); (exact Guard.au); rfl; rfl); (apply Pev.load_kept); rfl; ((first | exact fun _ => rfl | exact fun h => h | (intro h; simp_all; done))); (exact mau); rfl; (intro hcond; rw [add_mid] at hcell; exact hcell); (intro hcond; exact hab); (intro hcond; exact NotOwned.nil))
    apply oas; rfl; rfl
    apply OL.nsr
    apply omv; rfl; rfl
    apply obn; rfl; rfl; rfl; apply Bin.neq
    apply omv; rfl; rfl
    apply oy; rfl; rfl; rfl; apply Pev.move; rfl; exact yes
    apply oy; rfl; rfl; rfl; apply Pev.bin; rfl; exact fun h => h; rfl; exact yes; intro hcond; apply Bin.lss
    apply oy; rfl; rfl; rfl; apply Pev.move; rfl; exact fun h => h
    apply OL.op; exact Guard.cno rfl rfl; rfl; rfl; apply Pev.move; rfl; exact yes
    apply OL.op; exact Guard.cno rfl rfl; rfl; rfl; apply Pev.bin; rfl; exact fun h => h; rfl; exact yes; intro hcond; apply Bin.gtr
    apply oy; rfl; rfl; rfl; apply Pev.pick_or; rfl; exact fun h => h; rfl; exact fun h => h
    apply oop; rfl; apply Pev.pick_and; rfl; exact yes; rfl; exact fun h => h
    apply OL.nx
    refine W.cond rfl (fun hb2 => ?_) (fun hb2 => ?_)
    · have hbad : badI (bt s i) = true := hb2
      apply W.sr
      apply oas; rfl; rfl
      apply OL.nx
      refine W.rt ?_
      ((with_reducible apply At.fin1); rfl; rfl; intro w' hw')
      exact ⟨by rw [← hrest, hbad]; rfl, by (exact hw'.fr)⟩
    · have hbad : badI (bt s i) = false := hb2
      rw [hbad, Bool.false_or] at hrest
      apply W.skip
      with_reducible apply At.in_normal
      with_reducible apply At.next
      apply W.reg
      apply obn; rfl; rfl; rfl; apply Bin.add_in; omega
      apply omv; rfl; rfl
      apply OL.nil
      exact At.again (i + 1) ⟨by omega, hrest⟩ (by omega) (by exact Sub.au) (fun w' hw' => hw')
  · rw [badL_end (by omega)] at hrest
    refine W.xt ?_
    with_reducible apply At.next
    apply W.sr
    apply oas; rfl; rfl
    apply OL.nx
    apply W.ret
    ((with_reducible apply At.fin1); rfl; rfl; intro w' hw')
    exact ⟨by rw [← hrest]; rfl, by (exact hw'.fr)⟩
end Go.Proofs.YtnnpheacekieaaaDoor.sp

/- A drawn region whose pure operations look at a part of memory alone (the same as in SbI, which is not imported beside this). General. No condition. -/
namespace Go.Eng
open Go.RowKit
theorem AllLe.of {k : Nat} : ∀ {S : List World}, (∀ s ∈ S, s.heap.size ≤ k) → AllLe S k
  | [], _ => trivial
  | s :: S, h => ⟨h s (.head _), AllLe.of fun x hx => h x (.tail _ hx)⟩
section
variable {P : Program} {n : Nm} {l : Env} {H : List Item} {S : List World} {ops : Array Oper} {rest : List Oper} {Q : Exit → Act → World → Prop} {t ty : TypeId} {pos : String} {af : Array Edge}
/-- a part of what is owned -/
theorem Cls.sub {w : World} {L : List Item} (h : Cls H S w) (hs : L.Sublist H) : Cls L [] w where
  holds := fun j hj => h.holds _ (hs.subset hj)
  lt := fun j hj => h.lt _ (hs.subset hj)
  dj := h.dj.sublist hs
  kp := fun s hs => by cases hs
theorem Cls.onlyI {w : World} {i : Item} (h : Cls H S w) (hi : i ∈ H) : Cls [i] [] w where
  holds := fun j hj => by obtain rfl := List.mem_singleton.1 hj; exact h.holds _ hi
  lt := fun j hj => by obtain rfl := List.mem_singleton.1 hj; exact h.lt _ hi
  dj := List.pairwise_singleton _ _
  kp := fun s hs => by cases hs
variable {C C0 : World → Prop} {x y : List (Nat × Oper)}
/-- as W.regz, where the pure operations look at a part of memory alone -/
theorem W.regzC {id : Nat} {l0 : List Oper} (hs : ZSplit 0 [] l0 x y) (hm : P.follows .mixedOrders = true) (hB : zB l0.toArray (x.map (·.1)) (y.map (·.1)) = true) (hC : ∀ w, C w → C { w with drawn := w.drawn + 1 }) (hC0 : ∀ w, C w → C0 w)
    (h : ZL P n l0.toArray C0 (fun a' => ∀ w', C w' → wpT P l0.toArray C0 (needZ l0.toArray (x.map (·.1))) (NoPanic Q) y a' w') x l) : W P n (.region id l0.toArray true) Q l C := ⟨fun a w hs' hc => by
  simp only [zB, Bool.and_eq_true] at hB
  obtain ⟨h1, h2, h3⟩ := hB
  obtain ⟨hx, hy, hlen⟩ := hs.spec
  refine wpp_region_any hm (wpAny_np _ _ _ _ (wpAny_of_Z (C0 := C0) (need := needZ l0.toArray (x.map (·.1))) _ _ _ _ ?_))
  have key := wpZ_pre (P := P) (ops := l0.toArray) (C0 := C0) (Q := NoPanic Q) (xi0 := x.map (·.1)) (f := y.length) (w := { w with drawn := w.drawn + 1 }) h1 (fun _ _ _ h => h) (hC0 _ (hC w hc)) x (Array.replicate l0.toArray.size false) a
    (fun p hp => ⟨List.mem_map.2 ⟨p, hp, rfl⟩, by have := (hx p hp).2.1; simpa using this⟩) (fun j o _ hj => by rw [getD_rep] at hj; cases hj) h2 (h.run a hs')
    (fun a' hK => wpZ_seq y _ a' _ h3 (hK _ (hC w hc)))
  have e : x.length + y.length = l0.toArray.size := by simpa using hlen
  exact (congrArg (fun s => wpZ P l0.toArray C0 (needZ l0.toArray (x.map (·.1))) (NoPanic Q) s (Array.replicate l0.toArray.size false) a { w with drawn := w.drawn + 1 }) e).mp key⟩
theorem ZL.nilC {need : Nat → Bool} (h : TL P n ops C0 need Q y l C) : ZL P n ops C0 (fun a' => ∀ w', C w' → wpT P ops C0 need Q y a' w') [] l := ⟨fun a hs w hc => h.run a w hs hc⟩
end
end Go.Eng

/- A range over a function: the call of yield, a round, the statement, and the end of a function that holds one. General. No condition. -/
namespace Go.Eng
open Go.RowKit
/-- a loop's record -/
def setL (rc : Loop) (s : LoopState) (p : Option Code) : Loop := { rc with state := s, pending := p }
def lpI (lp : Nat) (rc : Loop) : Item := ⟨fun k => k = lp, fun w => w.heap[lp]? = some (.loop rc), fun w w' hk h => (hk lp rfl).trans h⟩
/-- the block for the rounds' deferred calls -/
def mkI (D : Nat) : Item := ⟨fun k => k = D, fun w => w.heap[D]? = some (.deferred (some [])), fun w w' hk h => (hk D rfl).trans h⟩
/-- all such blocks so far -/
def mks (B : Nat) (Ds : List Nat) : Item := ⟨fun k => k ∈ Ds, fun w => Ds.Nodup ∧ ∀ D ∈ Ds, B ≤ D ∧ w.heap[D]? = some (.deferred (some [])), fun w w' hk h => ⟨h.1, fun D hD => ⟨(h.2 D hD).1, (hk D hD).trans (h.2 D hD).2⟩⟩⟩
/-- they are shut -/
def mksN (B : Nat) (Ds : List Nat) : Item := ⟨fun k => k ∈ Ds, fun w => ∀ D ∈ Ds, B ≤ D, fun w w' hk h => h⟩
abbrev yv (lp : Nat) : Value := .func (.yield lp) #[] #[]
/-- those of Es are shut -/
def mksE (B : Nat) (Es Ds : List Nat) : Item := ⟨fun k => k ∈ Es ++ Ds, fun w => (Es ++ Ds).Nodup ∧ (∀ E ∈ Es ++ Ds, B ≤ E) ∧ ∀ E ∈ Ds, w.heap[E]? = some (.deferred (some [])), fun w w' hk h => ⟨h.1, h.2.1, fun E hE => (hk E (List.mem_append_right _ hE)).trans (h.2.2 E hE)⟩⟩
def dMark (D : Nat) : Deferred := { target := .collected D, args := #[] }
section
variable {P : Program} {n : Nm} {l : Env} {H : List Item} {S : List World} {C : World → Prop} {ops : Array Oper} {rest : List Oper} {Q : Exit → Act → World → Prop} {ty : TypeId} {pos : String} {af : Array Edge} {x : Operand}
theorem NotOwned.mks {B k : Nat} {Ds : List Nat} (h : k ∉ Ds) (r : NotOwned H k) : NotOwned (Eng.mks B Ds :: H) k := NotOwned.any h r
theorem Hole.other {p : Nat} {i : Item} {F : Item → List Item} (h : Hole p H i F) (j : Item) : Hole p (F j) j F := by
  induction h with
  | z => exact .z
  | s _ ih => exact .s ih
theorem Cls.mks_nil {w : World} (h : Cls H S w) (B : Nat) : Cls (mks B [] :: H) S w :=
  h.add (Keep.refl _ w) _ ⟨.nil, fun D hD => by cases hD⟩ (fun k hk => by cases hk)
theorem Cls.mks_in {w : World} {B D : Nat} {Ds : List Nat} (h : Cls (mkI D :: mks B Ds :: H) S w) (hB : B ≤ D) : Cls (mks B (D :: Ds) :: H) S w := by
  have hd := h.dj
  rw [List.pairwise_cons, List.pairwise_cons] at hd
  obtain ⟨h1, h2, h3⟩ := hd
  have a1 := h.holds (mkI D) (.head _)
  have a2 := h.holds (mks B Ds) (.tail _ (.head _))
  refine ⟨fun j hj => ?_, fun j hj => ?_, List.pairwise_cons.2 ⟨fun j hj k hk hjk => ?_, h3⟩, fun s hs => (h.kp s hs).mono fun k _ ⟨j, hj, hk⟩ => ?_⟩
  · rcases List.mem_cons.1 hj with rfl | hj
    · refine ⟨List.nodup_cons.2 ⟨fun hm => h1 _ (.head _) D rfl hm, a2.1⟩, fun E hE => ?_⟩
      rcases List.mem_cons.1 hE with rfl | hE
      · exact ⟨hB, a1⟩
      · exact a2.2 E hE
    · exact h.holds j (.tail _ (.tail _ hj))
  · rcases List.mem_cons.1 hj with rfl | hj
    · intro k hk
      rcases List.mem_cons.1 hk with rfl | hk
      · exact h.lt _ (.head _) _ rfl
      · exact h.lt _ (.tail _ (.head _)) k hk
    · exact h.lt j (.tail _ (.tail _ hj))
  · rcases List.mem_cons.1 hk with rfl | hk
    · exact h1 j (.tail _ hj) _ rfl hjk
    · exact h2 j hj k hk hjk
  · rcases List.mem_cons.1 hj with rfl | hj
    · exact ⟨_, .head _, by rw [show k = D from hk]; exact .head _⟩
    · rcases List.mem_cons.1 hj with rfl | hj
      · exact ⟨_, .head _, .tail _ hk⟩
      · exact ⟨j, .tail _ hj, hk⟩
/-- a block that is turned is an item's own -/
theorem Cls.putO {F : Item → List Item} {w : World} {p k : Nat} {i j : Item} {o : Obj} (h : Cls H S w) (hH : Hole p H i F) (hi : i.own k) (hk : k < w.heap.size) (hj : j.holds (w.putObj k o)) (ho : ∀ q, j.own q → i.own q) (ho2 : ∀ q, i.own q → j.own q) : Cls (F j) S (w.putObj k o) := by
  obtain ⟨hp, hF⟩ := hH.eq
  rw [hF]
  have hsz : (w.putObj k o).heap.size = w.heap.size := by simp [World.putObj]
  refine h.turn p hp (j := j) ⟨rfl, rfl, rfl, by rw [hsz]; exact Nat.le_refl _, fun q hq hn => World.putObj_heap_other (fun e => hn (by rw [e]; exact hi))⟩ hj (fun q hq => ⟨.inl (ho q hq), by rw [hsz]; exact h.lt _ (List.mem_of_getElem? hp) q (ho q hq)⟩) ho2
/-! ### The call of yield -/
/-- a call of yield in the middle of a region -/
def YQ (P : Program) (ops : Array Oper) (Q : Exit → Act → World → Prop) (o : Oper) (post : List Oper) : Exit → Act → World → Prop := fun e a w => match e with
  | .normal => ∃ lp args, o.guard = none ∧ (∀ c, o.op ≠ .defer c) ∧ (execOp a.eval o).run P w = (Instr.yield lp args).run P w ∧ YieldAt Fence.wide 0 P lp args w fun e' w' => ∃ v, e' = .returned v ∧ wpList P ops Q post (a.put o.dst v) w'
  | e => Q e a w
theorem yieldAt_mono {F : Fence} {m lp : Nat} {args : Array Value} {w : World} {R R' : Ending → World → Prop} (h : YieldAt F m P lp args w R) (hr : ∀ e w, R e w → R' e w) : YieldAt F m P lp args w R' := by
  obtain ⟨fn, tmps, assign, body, hy, hR⟩ := h
  exact ⟨fn, tmps, assign, body, hy, hR.mono hr⟩
inductive CutN : Nat → List Oper → List Oper → Oper → List Oper → Prop where
  | z {o : Oper} {r : List Oper} : CutN 0 (o :: r) [] o r
  | s {k : Nat} {x o : Oper} {r pre post : List Oper} (h : CutN k r pre o post) : CutN (k + 1) (x :: r) (x :: pre) o post
theorem CutN.eq {k : Nat} {l0 pre post : List Oper} {o : Oper} (h : CutN k l0 pre o post) : l0 = pre ++ o :: post := by
  induction h with
  | z => rfl
  | s _ ih => rw [ih]; rfl
theorem W.regY {id : Nat} (k : Nat) {l0 pre post : List Oper} {o : Oper} (hc : CutN k l0 pre o post) (h : OL P n l0.toArray (YQ P l0.toArray Q o post) pre l C) : W P n (.region id l0.toArray false) Q l C := ⟨fun a w hs hC hp b k cs hro _ _ => by
  have hl := hc.eq
  have h1 := h.run a w hs hC
  have hsz : l0.toArray.size = pre.length + (post.length + 1) := by rw [List.size_toArray, hl, List.length_append, List.length_cons]
  have hrange : List.range l0.toArray.size = List.range' 0 pre.length ++ pre.length :: List.range' (pre.length + 1) post.length := by
    rw [List.range_eq_range', hsz, ← List.range'_append_1, Nat.zero_add, List.range'_succ]
  have hops : ∀ j, l0.toArray[j]? = (pre ++ o :: post)[j]? := fun j => by rw [List.getElem?_toArray, hl]
  have hwl := wpOps_of_list (P := P) (ops := l0.toArray) (Q := YQ P l0.toArray Q o post) pre 0 (fun j hj => by rw [hops, Nat.zero_add, List.getElem?_append_left hj]) a w h1
  have key := wpp_ops2 (r := n.r) (P := P) (Q := Q) (ops := l0.toArray) (Y := YQ P l0.toArray Q o post) (pre.length :: List.range' (pre.length + 1) post.length) ?_ (fun e a w hne hy => by cases e <;> first | exact hy | exact absurd rfl hne) (List.range' 0 pre.length) a w hwl hp b k cs hro
  · obtain ⟨e, a', w', hq, harr⟩ := key
    refine ⟨e, a', w', hq, .of_steps (.one (fencedR _ _ _) stepR_region) ?_⟩
    rw [hrange]
    exact harr
  · rintro a w ⟨lp, args, hg, hdf, hrun, fn, tmps, assign, body, hy, hF, hR⟩ b k cs hro
    have ho : l0.toArray[pre.length]? = some o := by rw [hops]; simp
    have hw : Region.wanted o (yielded l0.toArray a.tmps) = true := by simp [Region.wanted, hg]
    have hsem : o.semAt b.roundOf a.eval = execOp a.eval o := Oper.semAt_eq _ _ _ hdf
    have hgo := stepGR_op (P := P) (b := b) (k := k) (cs := cs) (w := w) (rest := List.range' (pre.length + 1) post.length) ho hw
    rw [hsem] at hgo
    have hfin : ∀ v, (b.atR a (.inRegion l0.toArray (pre.length :: List.range' (pre.length + 1) post.length) :: k)).finish v = b.atR (a.put o.dst v) (.inRegion l0.toArray (List.range' (pre.length + 1) post.length) :: k) := by
      intro v; rw [Frame.finish_atR, ho]; rfl
    have henter : step P (lone (b.atR a (.inRegion l0.toArray (pre.length :: List.range' (pre.length + 1) post.length) :: k)) cs w) =
        .next (lone (Frame.round lp fn tmps assign body .normal) (b.atR a (.inRegion l0.toArray (pre.length :: List.range' (pre.length + 1) post.length) :: k) :: cs) w) :=
      step_lone_go (by rw [hgo]; simp [stepG.apply, hrun, hy, Frame.atR])
    obtain ⟨e, w', ⟨v, rfl, hwl⟩, hsteps⟩ := hR (b.atR a (.inRegion l0.toArray (pre.length :: List.range' (pre.length + 1) post.length) :: k)) cs (room_wide _)
    have hpost := wpOps_of_list (P := P) (ops := l0.toArray) (Q := Q) post (pre.length + 1) (fun j hj => by rw [hops, List.getElem?_append_right (by omega), show pre.length + 1 + j - pre.length = j + 1 by omega, List.getElem?_cons_succ]) _ _ hwl
    obtain ⟨e2, a2, w2, hq, harr⟩ := wpp_ops (r := n.r) _ _ _ hpost hp b k cs hro
    refine ⟨e2, a2, w2, hq, .of_steps (.head (fencedR _ _ _) henter ?_) harr⟩
    rw [← hfin]
    exact hsteps⟩
theorem At.yield {α : Type} (V : α → Bool) (Φ : α → Prop) (C' : α → World → Prop) {lp dd : Nat} {args : List Operand} {vs : List Value} {ats : Array TypeId} {post : List Oper} (hx : evl l x = some (true, .func (.yield lp) #[] #[])) (hn : Nat.ble (dd + 1) n.n = true) (ha : Args l true args vs)
    (h : ∀ w, C w → YieldAt Fence.wide 0 P lp vs.toArray w fun e w' => ∃ u, e = .returned (.bool (V u)) ∧ Φ u ∧ C' u w')
    (k : ∀ u, Φ u → OL P n ops Q post ((dd, true, .bool (V u)) :: l) (C' u)) : At n (YQ P ops Q ⟨some dd, .call { callee := .value x, args := args.toArray, argTypes := ats }, ty, pos, af, none⟩ post) .normal l C := ⟨fun a w hs hC => by
  have hn' := Nat.le_of_ble_eq_true hn
  refine ⟨lp, vs.toArray, rfl, (fun c hc => by cases hc), ?_, yieldAt_mono (h w hC) ?_⟩
  · have h1 := hs.eval hx rfl
    have h2 := ha.map hs rfl
    have h3 : (args.toArray.map a.eval) = vs.toArray := by rw [List.map_toArray, h2]
    simp only [execOp, resolve, h1, h3, Sem.run_bind, Sem.run_pure, Result.andThen_ok, invoke]
    simp [go_sem]
  · rintro e w' ⟨u, rfl, hu, hc⟩
    exact ⟨_, rfl, (k u hu).run _ w' (hs.put hn' true _) hc⟩⟩
/-! ### A round -/
/-- between a round's assignment and its body -/
def BegQ (P : Program) (lp : Nat) (body : Code) (R : Ending → World → Prop) : Exit → Act → World → Prop := fun e a w => match e with
  | .normal => ∃ w2, (Instr.beginRound lp).run P w = .ok () w2 ∧ wpp (some lp) P body (roundPost P lp R) a w2
  | _ => False
theorem Cls.loopTo {w : World} {p lp : Nat} {rc rc' : Loop} {F : Item → List Item} (h : Cls H S w) (hH : Hole p H (lpI lp rc) F) : Cls (F (lpI lp rc')) S (w.putObj lp (.loop rc')) := by
  have hi := h.item (List.mem_of_getElem? hH.eq.1)
  have hlt := h.lt _ (List.mem_of_getElem? hH.eq.1) lp rfl
  exact h.putO hH rfl hlt (World.putObj_heap_same hlt) (fun q hq => hq) (fun q hq => hq)
theorem At.begin {p lp m : Nat} {M : List Deferred} {rc : Loop} {F : Item → List Item} {body : Code} {R : Ending → World → Prop} (hH : Hole p H (lpI lp (setL rc .ready none)) F) (h : W P ⟨m, M, some lp⟩ body (roundPost P lp R) l (Cls (F (lpI lp (setL rc .busy none))) S)) :
    At ⟨m, M, some lp⟩ (BegQ P lp body R) .normal l (Cls H S) := ⟨fun a w hs hc => by
  have hi := hc.item (List.mem_of_getElem? hH.eq.1)
  exact ⟨_, run_beginRound hi rfl, h.run a _ ⟨hs.df, hs.sz, hs.at_⟩ (hc.loopTo hH)⟩⟩
theorem At.round {p lp m : Nat} {M : List Deferred} {rc : Loop} {F : Item → List Item} {R : Ending → World → Prop} (hH : Hole p H (lpI lp (setL rc .busy none)) F) (h : ∀ w, Cls (F (lpI lp (setL rc .ready none))) S w → R (.returned (.bool true)) w) :
    At ⟨m, M, some lp⟩ (roundPost P lp R) .normal l (Cls H S) := ⟨fun a w hs hc => by
  have hi := hc.item (List.mem_of_getElem? hH.eq.1)
  exact ⟨_, _, run_endRound none hi, h _ (hc.loopTo hH)⟩⟩
theorem At.roundR {p lp m : Nat} {M : List Deferred} {rc : Loop} {F : Item → List Item} {R : Ending → World → Prop} (hH : Hole p H (lpI lp (setL rc .busy none)) F) (h : ∀ w, Cls (F (lpI lp (setL rc .done (some .ret)))) S w → R (.returned (.bool false)) w) :
    At ⟨m, M, some lp⟩ (roundPost P lp R) .ret l (Cls H S) := ⟨fun a w hs hc => by
  have hi := hc.item (List.mem_of_getElem? hH.eq.1)
  exact ⟨_, _, run_endRound (some .ret) hi, h _ (hc.loopTo hH)⟩⟩
theorem At.roundX {p lp m id : Nat} {M : List Deferred} {rc : Loop} {F : Item → List Item} {R : Ending → World → Prop} (hH : Hole p H (lpI lp (setL rc .busy none)) F) (h : ∀ w, Cls (F (lpI lp (setL rc .done (some (.exit id))))) S w → R (.returned (.bool false)) w) :
    At ⟨m, M, some lp⟩ (roundPost P lp R) (.exit id) l (Cls H S) := ⟨fun a w hs hc => by
  have hi := hc.item (List.mem_of_getElem? hH.eq.1)
  exact ⟨_, _, run_endRound (some (.exit id)) hi, h _ (hc.loopTo hH)⟩⟩
/-! ### The statement -/
/-- the parameters with their values -/
def zipE : List Nat → List Value → Env → Env
  | p :: ps, v :: vs, l => zipE ps vs ((p, true, v) :: l)
  | _, _, l => l
def foldT (t : Array Value) (q : List (Nat × Value)) : Array Value := q.foldl (fun t (p, v) => t.setIfInBounds p v) t
theorem sees_zip {m : Nat} {M : List Deferred} {r : Option Nat} : ∀ (ps : List Nat) (vs : List Value) (l : Env) (a : Act), (∀ p ∈ ps, Nat.ble (p + 1) m = true) → Sees ⟨m, M, r⟩ l a → Sees ⟨m, M, r⟩ (zipE ps vs l) { a with tmps := foldT a.tmps (ps.zip vs) }
  | [], _, l, a, _, h => by simpa [zipE, foldT] using h
  | p :: ps, [], l, a, _, h => by simpa [zipE, foldT] using h
  | p :: ps, v :: vs, l, a, hb, h => by
    have h1 := h.put (Nat.le_of_ble_eq_true (hb p (.head _))) true v
    exact sees_zip ps vs _ _ (fun q hq => hb q (.tail _ hq)) h1
/-- what a round does: where it goes on, where it stops -/
def RdR (S : List World) {σ : Type} (I : σ → List Item) (B : σ → List Value → σ → Prop) (Z : Code → σ → Prop) (lp D : Nat) (rc : Loop) (x : σ) (vs : List Value) : Ending → World → Prop := fun e w =>
  (∃ x', e = .returned (.bool true) ∧ B x vs x' ∧ Cls (lpI lp (setL rc .ready none) :: mkI D :: I x') S w) ∨ (∃ c x', e = .returned (.bool false) ∧ Z c x' ∧ Cls (lpI lp (setL rc .done (some c)) :: mkI D :: I x') S w)
/-- an iterator's contract: it calls yield with what A allows, the rounds go from state to state, and at its end E holds or a round has stopped it -/
def Iter (P : Program) (gf : FuncId) (first cap : List Value) (S : List World) {σ : Type} (I : σ → List Item) (A : σ → List Value → Prop) (B : σ → List Value → σ → Prop) (E : σ → Prop) (x0 : σ) : Prop :=
  ∀ (lp D : Nat) (rc : Loop) (Z : Code → σ → Prop), AllLe S lp → AllLe S D →
    (∀ x vs w, A x vs → Cls (lpI lp (setL rc .ready none) :: mkI D :: I x) S w → YieldAt Fence.wide 0 P lp vs.toArray w (RdR S I B Z lp D rc x vs)) →
    ∀ w, Cls (lpI lp (setL rc .ready none) :: mkI D :: I x0) S w → Calls P gf (first ++ [yv lp] ++ cap).toArray w fun e w' => (∃ v, e = .returned v) ∧
      ((∃ x', E x' ∧ Cls (lpI lp (setL rc .ready none) :: mkI D :: I x') S w') ∨ (∃ c x', Z c x' ∧ Cls (lpI lp (setL rc .done (some c)) :: mkI D :: I x') S w'))
theorem AllLe.all {k : Nat} : ∀ {S : List World}, AllLe S k → ∀ s ∈ S, s.heap.size ≤ k
  | [], _, s, hs => by cases hs
  | s :: S, h, t, ht => by
    rcases List.mem_cons.1 ht with rfl | ht
    · exact h.1
    · exact AllLe.all h.2 t ht
theorem W.range {m : Nat} {M : List Deferred} {g : Operand} {ps : List Nat} {assign body : Code} {gf : FuncId} {first cap : List Value} {σ : Type} (I : σ → List Item) (A : σ → List Value → Prop) (B : σ → List Value → σ → Prop) (E : σ → Prop) (Z : Code → σ → Prop) (x0 : σ)
    (hg : evl l g = some (true, .func (.func gf) first.toArray cap.toArray)) (hf : callable P gf = true) (hps : ∀ p ∈ ps, Nat.ble (p + 1) m = true) (hcb : calmC assign && calmC body) (hI : ∀ w, C w → Cls (I x0) S w)
    (hvs : ∀ x vs, A x vs → vs.length = ps.length)
    (hiter : ∀ w, Cls (I x0) S w → Iter P gf first cap S I A B E x0)
    (hround : ∀ (lp D : Nat) (rc : Loop) (x : σ) (vs : List Value), AllLe S lp → AllLe S D → A x vs → W P ⟨m, [], some lp⟩ assign (BegQ P lp body (RdR S I B Z lp D rc x vs)) (zipE ps vs l) (Cls (lpI lp (setL rc .ready none) :: mkI D :: I x) S))
    (hdone : ∀ D x, AllLe S D → E x → At ⟨m, dMark D :: M, none⟩ Q .normal l (Cls (mkI D :: I x) S))
    (hstop : ∀ D c x, AllLe S D → Z c x → W P ⟨m, dMark D :: M, none⟩ c Q l (Cls (mkI D :: I x) S)) :
    W P ⟨m, M, none⟩ (.rangeFunc g ps.toArray assign body) Q l C := ⟨fun a w0 hs hC hp => by
  have hc := hI w0 hC
  simp only [Bool.and_eq_true] at hcb
  refine wpIn_rangeFunc ?_
  intro fn hfn
  have hev := hs.eval hg rfl
  obtain ⟨rc, hrc⟩ : ∃ rc : Loop, rc = { state := .ready, pending := none, fn, tmps := a.tmps, params := ps.toArray, assign, body, defers := w0.heap.size } := ⟨_, rfl⟩
  have hrc0 : setL rc .ready none = rc := by rw [hrc]; rfl
  obtain ⟨w1, hw1⟩ : ∃ w1, w0.alloc (.deferred (some [])) = w1 := ⟨_, rfl⟩
  have hz1 : w1.heap.size = w0.heap.size + 1 := by rw [← hw1, World.size_alloc]
  obtain ⟨w2, hw2⟩ : ∃ w2, w1.alloc (.loop rc) = w2 := ⟨_, rfl⟩
  have hz2 : w2.heap.size = w0.heap.size + 2 := by rw [← hw2, World.size_alloc, hz1]
  have hE1 : Ext w0 w1 := by rw [← hw1]; exact Ext.of_below ((Below.refl _ w0).alloc (Nat.le_refl _) _)
  have hE2 : Ext w1 w2 := by rw [← hw2]; exact Ext.of_below ((Below.refl _ w1).alloc (Nat.le_refl _) _)
  have c1 : Cls (mkI w0.heap.size :: I x0) S w1 := hc.add hE1 _ (by rw [← hw1]; exact World.alloc_heap_new w0 _) (fun k hk => by rw [show k = w0.heap.size from hk]; omega)
  have c2 : Cls (lpI (w0.heap.size + 1) rc :: mkI w0.heap.size :: I x0) S w2 := c1.add hE2 _ (by rw [← hw2, ← hz1]; exact World.alloc_heap_new w1 _) (fun k hk => by rw [show k = w0.heap.size + 1 from hk]; omega)
  have hlD : AllLe S w0.heap.size := AllLe.of fun s hs => (hc.kp s hs).size
  have hlp : AllLe S (w0.heap.size + 1) := AllLe.of fun s hs => Nat.le_trans (hc.kp s hs).size (Nat.le_succ _)
  refine ⟨w0.heap.size + 1, [dMark w0.heap.size], w2, { target := .fn (.func gf) cap.toArray, args := first.toArray ++ #[yv (w0.heap.size + 1)] }, w2, gf, (first ++ [yv (w0.heap.size + 1)] ++ cap).toArray, w2, ?_, ?_, fun _ _ => trivial, ?_, (fun h => by cases h), ?_⟩
  · rw [← hw2, ← hw1, hrc]
    exact run_enterLoop_outer _ _ _ _ _
  · simp only [resolve, hev]
    simp [go_sem]
  · have := run_callFunc_body (P := P) hf (first ++ [yv (w0.heap.size + 1)] ++ cap).toArray w2
    simp only [invoke]
    simpa using this
  · refine callsIn_wide.2 ?_
    rw [← hrc0] at c2
    refine (hiter w0 hc (w0.heap.size + 1) w0.heap.size rc Z hlp hlD (fun x vs w hA hw => ?_) w2 c2).mono ?_
    · have hi := hw.item (i := lpI (w0.heap.size + 1) (setL rc .ready none)) (.head _)
      refine ⟨fn, foldT a.tmps (ps.zip vs), assign, body, ?_, ?_⟩
      · have := run_yield (P := P) (args := vs.toArray) hi (by rw [hrc]; simp [setL, hvs x vs hA])
        rw [this, hrc]
        simp [setL, foldT]
      · refine roundIn_of_wpIn hfn ?_
        have hsr : Sees ⟨m, [], some (w0.heap.size + 1)⟩ l { a with defers := [] } := ⟨rfl, hs.sz, hs.at_⟩
        have hrun := (hround _ _ rc x vs hlp hlD hA).run _ w (sees_zip ps vs l _ hps hsr) hw (fun _ => hcb.1)
        refine wpIn_mono hrun fun e a1 w1 hq => ?_
        cases e with
        | normal =>
          obtain ⟨w2, h1, h2⟩ := hq
          exact ⟨w2, h1, h2 fun _ => hcb.2⟩
        | _ => exact hq.elim
    · have hfinal : ∀ (x' : σ) (st : LoopState) (pe : Option Code) (w3 : World), st ≠ .busy → Cls (lpI (w0.heap.size + 1) (setL rc st pe) :: mkI w0.heap.size :: I x') S w3 → ∃ w4, (Instr.endLoop (w0.heap.size + 1)).run P w3 = .ok pe w4 ∧ Cls (mkI w0.heap.size :: I x') S w4 := fun x' st pe w3 hst hw => by
        have hi := hw.item (i := lpI (w0.heap.size + 1) (setL rc st pe)) (.head _)
        refine ⟨_, run_endLoop hi hst, ?_⟩
        have h5 := hw.loopTo (rc' := { setL rc st pe with state := .exhausted }) .z
        exact h5.thin (.any (fun k hk => by rw [show k = w0.heap.size + 1 from hk]; exact hlp) Thin.same)
      have hsa : Sees ⟨m, dMark w0.heap.size :: M, none⟩ l { a with defers := [dMark w0.heap.size] ++ a.defers } := ⟨congrArg (fun z => [dMark w0.heap.size] ++ z) hs.df, hs.sz, hs.at_⟩
      rintro e w3 ⟨⟨v, rfl⟩, ⟨x', hE, hw⟩ | ⟨c, x', hZ, hw⟩⟩
      · obtain ⟨w4, h1, h2⟩ := hfinal x' _ _ w3 (by simp) hw
        exact ⟨none, w4, h1, (hdone _ x' hlD hE).run _ w4 hsa h2⟩
      · obtain ⟨w4, h1, h2⟩ := hfinal x' _ _ w3 (by simp) hw
        exact ⟨some c, w4, h1, (hstop _ c x' hlD hZ).run _ w4 hsa h2 (fun h => by cases h)⟩⟩
/-! ### The end of a function that holds such a statement -/
theorem enterM {f : FuncId} {fn : Func} {c : Code} {args : List Value} {R : Ending → World → Prop} {w : World} {m : Nat} (hf : P.funcs[f]? = some fn) (hb : fn.body = some c) (hn : fn.ntmps = m) (ha : Nat.ble args.length m = true)
    (hC : C w) (h : W P ⟨m, [], none⟩ c (bodyPostM Fence.wide 0 P fn R) (argEnv 0 args) C) : Calls P f args.toArray w R := by
  subst hn
  refine callsIn_wide.1 (callsIn_of_wp_marks (n := 0) hf hb trivial ?_ rfl)
  have h1 := h.run _ w (by have := sees_args (args := args.toArray) (n := fn.ntmps) (by simpa using Nat.le_of_ble_eq_true ha); simpa using this) hC
  exact h1 (fun h => by cases h)
theorem Cls.shut {w : World} {p B D : Nat} {Ds Es : List Nat} {F : Item → List Item} (h : Cls H S w) (hH : Hole p H (mksE B Es (D :: Ds)) F) :
    (Instr.takeDeferred D).run P w = .ok [] (w.putObj D (.deferred none)) ∧ Cls (F (mksE B (Es ++ [D]) Ds)) S (w.putObj D (.deferred none)) := by
  have hi := h.item (List.mem_of_getElem? hH.eq.1)
  have hlt := h.lt _ (List.mem_of_getElem? hH.eq.1) D (show D ∈ Es ++ D :: Ds by simp)
  have e1 : (Es ++ [D]) ++ Ds = Es ++ D :: Ds := by simp
  refine ⟨run_takeDeferred (hi.2.2 D (.head _)), h.putO hH (show D ∈ Es ++ D :: Ds by simp) hlt ?_ (fun q hq => by have h9 : q ∈ (Es ++ [D]) ++ Ds := hq; rw [e1] at h9; exact h9) (fun q hq => by have h9 : q ∈ Es ++ D :: Ds := hq; rw [← e1] at h9; exact h9)⟩
  show ((Es ++ [D]) ++ Ds).Nodup ∧ (∀ E ∈ (Es ++ [D]) ++ Ds, B ≤ E) ∧ ∀ E ∈ Ds, (w.putObj D (.deferred none)).heap[E]? = some (.deferred (some []))
  rw [e1]
  refine ⟨hi.1, hi.2.1, fun E hE => ?_⟩
  have hne : E ≠ D := fun e => by
    have hn := hi.1
    rw [List.nodup_append] at hn
    have := (List.nodup_cons.1 hn.2.1).1
    rw [← e] at this
    exact this hE
  exact (World.putObj_heap_other hne).trans (hi.2.2 E (.tail _ hE))
theorem leaves_marks {fn : Func} {tmps : Array Value} {R : Ending → World → Prop} {p B : Nat} {v : Value} {F : Item → List Item} {i0 : Item} (hH0 : Hole p H i0 F) (hr : ∀ w, (results fn tmps).run P w = .ok v w) : ∀ (Ds Es : List Nat) (w : World),
    Cls (F (mksE B Es Ds)) S w →
    (∀ w, Cls (F (mksN B (Es ++ Ds))) S w → R (.returned v) w) → LeavesInM Fence.wide 0 P fn tmps R (Ds.map dMark) .returning w
  | [], Es, w, hc, hR => by
    refine ⟨v, hr w, hR w ?_⟩
    obtain ⟨q, hq⟩ : ∃ j, F j = H.set p j := ⟨i0, hH0.eq.2 i0⟩
    have hl : p < H.length := by
      have := hH0.eq.1
      exact (List.getElem?_eq_some_iff.1 this).1
    have h1 := hc
    rw [hH0.eq.2] at h1
    have h2 := h1.turn p (i := mksE B Es []) (j := mksN B (Es ++ [])) (by rw [List.getElem?_set_self hl]) (Keep.refl _ w) (h1.holds _ (List.mem_of_getElem? (List.getElem?_set_self hl))).2.1 (fun k hk => ⟨.inl hk, h1.lt _ (List.mem_of_getElem? (List.getElem?_set_self hl)) k hk⟩) (fun k hk => hk)
    rw [List.set_set] at h2
    rw [hH0.eq.2]
    exact h2
  | D :: Ds, Es, w, hc, hR => by
    have hl : p < H.length := (List.getElem?_eq_some_iff.1 hH0.eq.1).1
    have hH : Hole p (F (mksE B Es (D :: Ds))) (mksE B Es (D :: Ds)) F := hH0.other _
    obtain ⟨h1, h2⟩ := Cls.shut (P := P) hc hH
    refine ⟨by simp, .inl ⟨D, _, rfl, h1, ?_⟩⟩
    exact leaves_marks hH0 hr Ds (Es ++ [D]) _ h2 (fun w hw => hR w (by rw [show Es ++ D :: Ds = (Es ++ [D]) ++ Ds by simp]; exact hw))
theorem At.finM {m p B : Nat} {Ds : List Nat} {fn : Func} {R : Ending → World → Prop} {F : Item → List Item} {v : Value} (hH : Hole p H (mks B Ds) F) (hr : ∀ a, Sees ⟨m, Ds.map dMark, none⟩ l a → ∀ w, (results fn a.tmps).run P w = .ok v w)
    (h : ∀ w, Cls (F (mksN B Ds)) S w → R (.returned v) w) : At ⟨m, Ds.map dMark, none⟩ (bodyPostM Fence.wide 0 P fn R) .ret l (Cls H S) := ⟨fun a w hs hc => by
  show LeavesInM Fence.wide 0 P fn a.tmps R a.defers .returning w
  rw [show a.defers = Ds.map dMark from hs.df]
  refine leaves_marks (p := p) (B := B) hH (hr a hs) Ds [] w ?_ h
  have hl : p < H.length := (List.getElem?_eq_some_iff.1 hH.eq.1).1
  have hi := hc.item (List.mem_of_getElem? hH.eq.1)
  rw [hH.eq.2]
  exact hc.turn p hH.eq.1 (Keep.refl _ w) ⟨hi.1, fun E hE => (hi.2 E hE).1, fun E hE => (hi.2 E hE).2⟩ (fun k hk => ⟨.inl hk, hc.lt _ (List.mem_of_getElem? hH.eq.1) k hk⟩) (fun k hk => hk)⟩
theorem At.finM0 {m : Nat} {fn : Func} {R : Ending → World → Prop} {v : Value} (hr : ∀ a, Sees ⟨m, [], none⟩ l a → ∀ w, (results fn a.tmps).run P w = .ok v w)
    (h : ∀ w, C w → R (.returned v) w) : At ⟨m, [], none⟩ (bodyPostM Fence.wide 0 P fn R) .ret l C := ⟨fun a w hs hc => by
  show LeavesInM Fence.wide 0 P fn a.tmps R a.defers .returning w
  rw [show a.defers = [] from hs.df]
  exact ⟨v, hr a hs w, h w hc⟩⟩
theorem results2 {m : Nat} {Ds : List Deferred} {fn : Func} {t u : Nat} {v v' : Value} (hr : fn.results = #[.tmp t, .tmp u]) (ht : look l t = some (true, v)) (hu : look l u = some (true, v')) : ∀ a, Sees ⟨m, Ds, none⟩ l a → ∀ w, (results fn a.tmps).run P w = .ok (.tuple #[v, v']) w := fun a hs w => by
  have h1 := hs.at_ t true v ht
  have h2 := hs.at_ u true v' hu
  simp [results, hr, Array.getD_eq_getD_getElem?, h1, h2]
/-! ### A loop whose rounds leave such marks -/
def AgainM {G : Type} (Φ : G → Prop) (μ : G → Nat) (ng : G → Nm) (lg : G → Env) (Cg : G → World → Prop) (g : G) (a : Act) (w : World) : Prop :=
  ∃ g', Φ g' ∧ μ g' < μ g ∧ Sees (ng g') (lg g') a ∧ Cg g' w
theorem W.loopM {c : Code} {G : Type} (Φ : G → Prop) (μ : G → Nat) (ng : G → Nm) (lg : G → Env) (Cg : G → World → Prop) (g0 : G) (hn : ng g0 = n) (hr : ∀ g, (ng g).r = n.r) (h0 : Φ g0) (hs0 : Sub l (lg g0)) (hc0 : ∀ w, C w → Cg g0 w)
    (body : ∀ g, Φ g → W P (ng g) c (Exit.then (AgainM Φ μ ng lg Cg g) Q) (lg g) (Cg g)) : W P n (.loop c) Q l C := by
  have key : ∀ m g, μ g < m → Φ g → ∀ a w, Sees (ng g) (lg g) a → Cg g w → roundsP n.r P c Q m a w := by
    intro m
    induction m with
    | zero => intro g h; omega
    | succ m ih =>
      intro g hm hg a w hs hc
      show wpp n.r P c (Exit.then (roundsP n.r P c Q m) Q) a w
      have h1 := (body g hg).run a w hs hc
      rw [hr g] at h1
      refine wpp_mono h1 fun e a' w' hq => ?_
      cases e with
      | normal =>
        obtain ⟨g', hg', hlt, hs', hc'⟩ := hq
        exact ih g' (by omega) hg' a' w' hs' hc'
      | _ => exact hq
  exact ⟨fun a w hs hc => wpp_loop _ (key (μ g0 + 1) g0 (by omega) h0 a w (by rw [hn]; exact hs.sub hs0) (hc0 w hc))⟩
theorem At.againM {G : Type} {Φ : G → Prop} {μ : G → Nat} {ng : G → Nm} {lg : G → Env} {Cg : G → World → Prop} {g : G} (g' : G) (hn : ng g' = n) (hg : Φ g') (hm : μ g' < μ g) (hs : Sub l (lg g')) (hc : ∀ w, C w → Cg g' w) :
    At n (Exit.then (AgainM Φ μ ng lg Cg g) Q) .normal l C := ⟨fun a w s c => ⟨g', hg, hm, by rw [hn]; exact s.sub hs, hc w c⟩⟩
end
end Go.Eng

/- Grown rows of structs: their elements read in place, the last ones taken away. General. No condition. -/
namespace Go.Eng
open Go.RowKit
section
variable {P : Program} {n : Nm} {l : Env} {C : World → Prop} {Q : Exit → Act → World → Prop}
/-- where two ways meet in a state that is told by g -/
theorem W.joinx {G : Type} {code r : Code} (Φ : G → Prop) (lg : G → Env) (Cg : G → World → Prop) (h1 : W P n code (Exit.then (fun a w => ∃ g, Φ g ∧ Sees n (lg g) a ∧ Cg g w) Q) l C) (h2 : ∀ g, Φ g → W P n r Q (lg g) (Cg g)) : W P n code (Exit.then (wpp n.r P r Q) Q) l C :=
  ⟨fun a w hs hc => wpp_mono (h1.run a w hs hc) fun e a' w' hq => by
    cases e with
    | normal =>
      obtain ⟨g, hg, hs', hc'⟩ := hq
      exact (h2 g hg).run a' w' hs' hc'
    | _ => exact hq⟩
theorem At.joinedx {G : Type} {Φ : G → Prop} {lg : G → Env} {Cg : G → World → Prop} (g : G) (hg : Φ g) (hs : Sub l (lg g)) (hc : ∀ w, C w → Cg g w) : At n (Exit.then (fun a w => ∃ g, Φ g ∧ Sees n (lg g) a ∧ Cg g w) Q) .normal l C := ⟨fun a w s c => ⟨g, hg, s.sub hs, hc w c⟩⟩
end
theorem row_cap {w : World} {base m cap size : Nat} {O : Nat → Prop} {q : Option Addr} {e : TypeId} {xs : List Value} (h : (row base O q m cap e size xs).holds w) : m ≤ cap := by
  rcases h.2.2 with ⟨h3, h4⟩ | ⟨g, cap', cur, h3, _, _, hn, _⟩
  · omega
  · simp only [Value.slice.injEq] at h3
    omega
/-- the last elements of a grown row go -/
theorem Cls.rowPop {p : Nat} {H : List Eng.Item} {S : List World} {w : World} {base m cap size : Nat} {O : Nat → Prop} {q : Option Addr} {e : TypeId} {xs : List Value} {F : Eng.Item → List Eng.Item} (m' : Nat) (xs' : List Value) (hh : Hole p H (row base O q m cap e size xs) F) (hm : m' ≤ m) (hx : xs' = xs.take (m' * size)) (h : Cls H S w) : Cls (F (row base O q m' cap e size xs')) S w := by
  obtain ⟨h1, h2⟩ := hh.eq
  rw [h2]
  refine h.turn p h1 (Keep.refl _ _) ?_ (fun k hk => ⟨.inl hk, ?_⟩) (fun k hk => hk)
  · have hi := h.holds _ (List.mem_of_getElem? h1)
    obtain ⟨ha, hb, hc⟩ := hi
    refine ⟨ha, ?_, ?_⟩
    · rw [hx, List.length_take, hb]
      exact Nat.min_eq_left (Nat.mul_le_mul_right _ hm)
    · rcases hc with ⟨hv, hn⟩ | ⟨g, cap2, cur, hv, hg, hh2, hn, hc2, hs, ht⟩
      · simp only [Value.slice.injEq] at hv
        obtain ⟨rfl, _, rfl⟩ := hv
        exact .inl ⟨by rw [show m' = 0 by omega], by omega⟩
      · simp only [Value.slice.injEq] at hv
        obtain ⟨rfl, _, rfl⟩ := hv
        refine .inr ⟨g, _, cur, rfl, hg, hh2, by omega, hc2, hs, ?_⟩
        rw [hx, ← ht, List.take_take, Nat.min_eq_left (Nat.mul_le_mul_right _ hm)]
  · exact h.lt _ (List.mem_of_getElem? h1) k hk
theorem Cls.in3 {H : List Eng.Item} {S : List World} {w : World} {i a b c : Eng.Item} (h : Cls (i :: a :: b :: c :: H) S w) : Cls (a :: b :: c :: i :: H) S w := h.perm (List.Perm.append_right H (List.perm_append_comm (l₁ := [i]) (l₂ := [a, b, c])))
theorem Cls.out3 {H : List Eng.Item} {S : List World} {w : World} {i a b c : Eng.Item} (h : Cls (a :: b :: c :: i :: H) S w) : Cls (i :: a :: b :: c :: H) S w := h.perm (List.Perm.append_right H (List.perm_append_comm (l₁ := [a, b, c]) (l₂ := [i])))
theorem Cls.in4 {H : List Eng.Item} {S : List World} {w : World} {i a b c d : Eng.Item} (h : Cls (i :: a :: b :: c :: d :: H) S w) : Cls (a :: b :: c :: d :: i :: H) S w := h.perm (List.Perm.append_right H (List.perm_append_comm (l₁ := [i]) (l₂ := [a, b, c, d])))
theorem Cls.out4 {H : List Eng.Item} {S : List World} {w : World} {i a b c d : Eng.Item} (h : Cls (a :: b :: c :: d :: i :: H) S w) : Cls (i :: a :: b :: c :: d :: H) S w := h.perm (List.Perm.append_right H (List.perm_append_comm (l₁ := [a, b, c, d]) (l₂ := [i])))
/-- type and place of a field that is one cell -/
def fieldT (P : Program) (t : TypeId) (i : Nat) : Option (TypeId × Nat) := match P.underlying t with
  | some (.struct fs) => match fs[i]? with
    | some f => match lit f.offset with
      | some o => match scalB P f.type with
        | true => some (f.type, o)
        | false => none
      | none => none
    | none => none
  | _ => none
section
variable {P : Program} {n : Nm} {l : Env} {H : List Item} {S : List World} {C : World → Prop} {c : Bool} {d : Option Nat} {ty : TypeId} {pos : String} {af : Array Edge} {g : Option (Nat × Bool)} {t : TypeId} {x : Operand} {cx : Bool}
variable {α : Type} {f : α → List Value} {sz : Nat}
theorem Pev.pick_off {x y z : Operand} {cx cz b : Bool} {v : Value} (hx : evl l x = some (cx, .bool b)) (hc : c = true → cx = true) (hb : c = true → b = false) (hz : evl l z = some (cz, v)) (hcz : c = true → cz = true) : Pev P n l C ⟨d, .pick x y z, ty, pos, af, g⟩ c v :=
  .of_run fun h a w hs hw => by
    rw [run_pick (hs.eval hx (hc h)), hb h, cond_false, hs.eval hz (hcz h)]
theorem Pev.pick_on {x y z : Operand} {cx cy b : Bool} {v : Value} (hx : evl l x = some (cx, .bool b)) (hc : c = true → cx = true) (hb : c = true → b = true) (hy : evl l y = some (cy, v)) (hcy : c = true → cy = true) : Pev P n l C ⟨d, .pick x y z, ty, pos, af, g⟩ c v :=
  .of_run fun h a w hs hw => by
    rw [run_pick (hs.eval hx (hc h)), hb h, cond_true, hs.eval hy (hcy h)]
/-- a field of a struct that is no variable -/
theorem Pev.field {i o : Nat} {ft : TypeId} {cs : List Value} {v : Value} (hx : evl l x = some (cx, .agg cs.toArray)) (hcx : c = true → cx = true) (hf : fieldT P t i = some (ft, o)) (hv : cs[o]? = some v) : Pev P n l C ⟨d, .field t x i, ty, pos, af, g⟩ c v :=
  .of_run fun h a w hs hw => by
    unfold fieldT at hf
    cases hu : P.underlying t with
    | none => simp [hu] at hf
    | some dd =>
      rw [hu] at hf
      cases dd <;> simp only [reduceCtorEq] at hf
      rename_i fs
      cases hi : fs[i]? with
      | none => simp [hi] at hf
      | some f =>
        simp only [hi] at hf
        cases ho : lit f.offset with
        | none => simp [ho] at hf
        | some o' =>
          simp only [ho] at hf
          cases hb : scalB P f.type with
          | false => simp [hb] at hf
          | true =>
            simp only [hb] at hf
            simp only [Option.some.injEq, Prod.mk.injEq] at hf
            obtain ⟨_, rfl⟩ := hf
            have h2 := lit_eq ho
            simp [execOp, Instr.field, Sem.run_bind, run_underlying hu, hs.eval hx (hcx h), hi, asAgg, part, run_isAgg_scal hb, h2, hv]
/-- a field of an element of a grown row -/
theorem Pev.load_rowC {b o j i base m cap : Nat} {O : Nat → Prop} {e : TypeId} {L : List α} {u : α} {v : Value} (hx : evl l x = some (cx, .pointer (some ⟨b, o + j, none⟩))) (hcx : c = true → cx = true) (hp : row base O (some ⟨b, 0, none⟩) m cap e sz (cat f L) ∈ H)
    (hs : scalB P t = true) (hf : ∀ x, (f x).length = sz) (hL : c = true → L[i]? = some u) (hv : (f u)[j]? = some v) (ho : c = true → o = i * sz) : Pev P n l (Cls H S) ⟨d, .load t x, ty, pos, af, g⟩ c v :=
  .load_of hx hcx fun hc w hw => run_loadVar_scal hs (by
    rw [ho hc]
    exact row_cell (hw.item hp) (cat_get hf (hL hc) j v hv))
/-- an element of a grown row -/
theorem Pev.load_rowE {b o i base m cap : Nat} {O : Nat → Prop} {e : TypeId} {L : List α} {u : α} (hx : evl l x = some (cx, .pointer (some ⟨b, o, none⟩))) (hcx : c = true → cx = true) (hp : row base O (some ⟨b, 0, none⟩) m cap e sz (cat f L) ∈ H)
    (hs : aggN P t = some sz) (hf : ∀ x, (f x).length = sz) (hL : c = true → L[i]? = some u) (ho : c = true → o = i * sz) : Pev P n l (Cls H S) ⟨d, .load t x, ty, pos, af, g⟩ c (.agg (f u).toArray) :=
  .load_of hx hcx fun hc w hw => run_loadVar_agg (by rw [hf]; exact hs) fun j v hj => by
    rw [ho hc, add_mid]
    exact row_cell (hw.item hp) (cat_get hf (hL hc) j v hj)
end
end Go.Eng

/- A pile of slices: rows that are finished, with the blocks that they own. General. No condition. -/
namespace Go.Eng
open Go.RowKit
structure Sl where
  q : Option Addr
  cap : Nat
  xs : List Value
def slv (s : Sl) : Value := .slice s.q s.xs.length s.cap
theorem cell_heap {w w' : World} {a : Addr} (h : w'.heap[a.block]? = w.heap[a.block]?) : w'.cell? a = w.cell? a := by
  unfold World.cell?
  rw [h]
/-- finished slices; their blocks lie in O, at B or above -/
def pile (B : Nat) (O : Nat → Prop) (L : List Sl) : Item :=
  ⟨fun k => B ≤ k ∧ O k, fun w => ∀ s ∈ L, 0 < s.xs.length → ∃ a, s.q = some a ∧ (B ≤ a.block ∧ O a.block) ∧ CellsAt w a s.xs, fun w w' hk h s hs hl => by
    obtain ⟨a, h1, h2, h3⟩ := h s hs hl
    exact ⟨a, h1, h2, fun j v hj => by rw [cell_heap (w := w) (hk _ (by rw [add_block]; exact h2))]; exact h3 j v hj⟩⟩
theorem pile_at {w : World} {B : Nat} {O : Nat → Prop} {L : List Sl} {s : Sl} (h : (pile B O L).holds w) (hs : s ∈ L) : SlAt w w.heap.size s.q s.xs := fun hl => by
  obtain ⟨a, h1, h2, h3⟩ := h s hs hl
  refine ⟨a, h1, ?_, h3⟩
  have := h3 0 _ (List.getElem?_eq_getElem hl)
  have := cell_lt this
  rwa [add_block] at this
theorem pile_some {w : World} {B : Nat} {O : Nat → Prop} {L : List Sl} {s : Sl} (h : (pile B O L).holds w) (hs : s ∈ L) (hl : 0 < s.xs.length) : ∃ a, s.q = some a := by
  obtain ⟨a, h1, _⟩ := h s hs hl
  exact ⟨a, h1⟩
theorem NotOwned.pile {H : List Item} {B k : Nat} {O : Nat → Prop} {L : List Sl} (h : k < B) (r : NotOwned H k) : NotOwned (Eng.pile B O L :: H) k := NotOwned.any (fun ho => Nat.not_le_of_lt h ho.1) r
section
variable {P : Program} {n : Nm} {l : Env} {H : List Item} {S : List World} {C : World → Prop} {c : Bool} {d : Option Nat} {ty : TypeId} {pos : String} {af : Array Edge} {g : Option (Nat × Bool)}
variable {t : TypeId} {x : Operand} {cx : Bool}
theorem Cls.pile_nil {w : World} (h : Cls H S w) (B : Nat) : Cls (pile B (fun _ => False) [] :: H) S w :=
  h.add (Keep.refl _ w) _ (fun s hs => by cases hs) (fun k hk => hk.2.elim)
theorem Cls.pile_push {w : World} {B m cap : Nat} {O O' : Nat → Prop} {q : Option Addr} {e : TypeId} {xs : List Value} {L : List Sl} (h : Cls (row B O q m cap e 1 xs :: pile B O' L :: H) S w) : Cls (pile B (fun k => O k ∨ O' k) (L ++ [⟨q, cap, xs⟩]) :: H) S w := by
  have hr := h.item (i := row B O q m cap e 1 xs) (by simp)
  have hp := h.item (i := pile B O' L) (by simp)
  have hd := h.dj
  rw [List.pairwise_cons, List.pairwise_cons] at hd
  obtain ⟨hr1, hp1, hH⟩ := hd
  refine ⟨fun i hi => ?_, fun i hi => ?_, ?_, fun s hs => (h.kp s hs).mono fun k _ ⟨i, hi, hk⟩ => ?_⟩
  · rcases List.mem_cons.1 hi with rfl | hi
    · intro s hs hl
      rcases List.mem_append.1 hs with hs | hs
      · obtain ⟨a, h1, h2, h3⟩ := hp s hs hl
        exact ⟨a, h1, ⟨h2.1, .inr h2.2⟩, h3⟩
      · obtain rfl := List.mem_singleton.1 hs
        obtain ⟨a, h1, h2, h3⟩ := SlAt.of_row hr hl
        refine ⟨a, h1, ⟨?_, .inl (hr.1 a h1)⟩, h3⟩
        rcases hr.2.2 with ⟨h4, h5⟩ | ⟨g, cap', cur, h4, h5, _⟩
        · simp only [Value.slice.injEq] at h4
          rw [h4.1] at h1; cases h1
        · simp only [Value.slice.injEq] at h4
          rw [h4.1] at h1
          obtain rfl := Option.some.inj h1
          exact h5
    · exact h.holds i (by simp [hi])
  · rcases List.mem_cons.1 hi with rfl | hi
    · rintro k ⟨h1, h2 | h2⟩
      · exact h.lt (row B O q m cap e 1 xs) (by simp) k ⟨h1, h2⟩
      · exact h.lt (pile B O' L) (by simp) k ⟨h1, h2⟩
    · exact h.lt i (by simp [hi])
  · refine List.pairwise_cons.2 ⟨fun j hj k hk hj2 => ?_, hH⟩
    obtain ⟨h1, h2 | h2⟩ := hk
    · exact hr1 j (by simp [hj]) k ⟨h1, h2⟩ hj2
    · exact hp1 j hj k ⟨h1, h2⟩ hj2
  · rcases List.mem_cons.1 hi with rfl | hi
    · exact ⟨_, .head _, hk.1, .inl hk.2⟩
    · rcases List.mem_cons.1 hi with rfl | hi
      · exact ⟨_, .head _, hk.1, .inr hk.2⟩
      · exact ⟨i, by simp [hi], hk⟩
theorem Pev.load_pile {a : Addr} {k B : Nat} {O : Nat → Prop} {L : List Sl} {s : Sl} {v : Value} (hx : evl l x = some (cx, .pointer (some (a.add k)))) (hcx : c = true → cx = true) (hp : pile B O L ∈ H) (hs : scalB P t = true)
    (hL : s ∈ L) (hq : s.q = some a) (hv : s.xs[k]? = some v) : Pev P n l (Cls H S) ⟨d, .load t x, ty, pos, af, g⟩ c v :=
  .load_of hx hcx fun _ w hw => run_loadVar_scal hs (by
    obtain ⟨a', h1, _, h3⟩ := hw.item hp s hL (by have := (List.getElem?_eq_some_iff.1 hv).1; omega)
    rw [hq] at h1
    obtain rfl := Option.some.inj h1
    exact h3 k v hv)
end
end Go.Eng

/- Readings as relations: nested structs and slices as plain data, wherever they lie; items for memory that is finished. General. No condition. -/
namespace Go.Eng
open Go.RowKit Go.ChangeShapes Go.WideShapes Go.ChangeAt
/-- how a thing of type α is told by cells; μ: what the cells tell besides -/
structure Rel (α μ : Type) where
  sz : Nat
  pos : 0 < sz
  cells : α → μ → List Value
  ok : World → (Nat → Prop) → α → μ → Prop
  len : ∀ x y, (cells x y).length = sz
  stab : ∀ {w w' : World} {O : Nat → Prop} {x y}, (∀ k, O k → w'.heap[k]? = w.heap[k]?) → ok w O x y → ok w' O x y
  mono : ∀ {w : World} {O O' : Nat → Prop} {x y}, (∀ k, O k → O' k) → ok w O x y → ok w O' x y
abbrev low (w : World) (k : Nat) : Prop := k < w.heap.size
def fresh (w w' : World) (k : Nat) : Prop := w.heap.size ≤ k ∧ k < w'.heap.size
section
variable {α μ : Type} {R : Rel α μ} {w w' : World} {O O' : Nat → Prop} {l : List (α × μ)} {q : Option Addr}
abbrev Rel.c (R : Rel α μ) (p : α × μ) : List Value := R.cells p.1 p.2
theorem Rel.clen (R : Rel α μ) (p : α × μ) : (R.c p).length = R.sz := R.len _ _
structure Arr (R : Rel α μ) (w : World) (O : Nat → Prop) (l : List (α × μ)) (q : Option Addr) : Prop where
  at_ : 0 < l.length → ∃ a, q = some a ∧ O a.block ∧ CellsAt w a (cat R.c l)
  el : ∀ p ∈ l, R.ok w O p.1 p.2
theorem cells_stab {a : Addr} {cs : List Value} (h : w'.heap[a.block]? = w.heap[a.block]?) (hc : CellsAt w a cs) : CellsAt w' a cs := fun j v hj => by
  rw [cell_heap (w := w) (by rw [add_block]; exact h)]
  exact hc j v hj
theorem Arr.stab (hk : ∀ k, O k → w'.heap[k]? = w.heap[k]?) (h : Arr R w O l q) : Arr R w' O l q :=
  ⟨fun hl => by
    obtain ⟨a, h1, h2, h3⟩ := h.at_ hl
    exact ⟨a, h1, h2, cells_stab (hk _ h2) h3⟩, fun p hp => R.stab hk (h.el p hp)⟩
theorem Arr.mono (hk : ∀ k, O k → O' k) (h : Arr R w O l q) : Arr R w O' l q :=
  ⟨fun hl => by
    obtain ⟨a, h1, h2, h3⟩ := h.at_ hl
    exact ⟨a, h1, hk _ h2, h3⟩, fun p hp => R.mono hk (h.el p hp)⟩
theorem Arr.nil : Arr R w O [] q := ⟨fun h => by simp at h, fun p h => by cases h⟩
theorem Arr.get (h : Arr R w O l q) {i : Nat} (hi : i < l.length) : ∃ a p, q = some a ∧ O a.block ∧ l[i]? = some p ∧ CellsAt w (a.add (i * R.sz)) (R.cells p.1 p.2) ∧ R.ok w O p.1 p.2 := by
  obtain ⟨a, h1, h2, h3⟩ := h.at_ (by omega)
  have hp : l[i]? = some l[i] := List.getElem?_eq_getElem hi
  exact ⟨a, l[i], h1, h2, hp, fun j v hj => by rw [add_add]; exact h3 _ _ (cat_get (f := R.c) R.clen hp j v hj), h.el _ (List.getElem_mem hi)⟩
theorem Arr.take (h : Arr R w O l q) (n : Nat) : Arr R w O (l.take n) q :=
  ⟨fun hl => by
    obtain ⟨a, h1, h2, h3⟩ := h.at_ (by simp at hl; omega)
    refine ⟨a, h1, h2, fun j v hj => h3 j v ?_⟩
    have hjl := (List.getElem?_eq_some_iff.1 hj).1
    rw [← cat_take (f := R.c) R.clen l n] at hj hjl
    rw [List.length_take] at hjl
    rwa [List.getElem?_take_of_lt (by omega)] at hj, fun p hp => h.el p (List.mem_of_mem_take hp)⟩
theorem Arr.slAt (h : Arr R w (low w) l q) : SlAt w w.heap.size q (cat R.c l) := fun hv => by
  rw [cat_length (f := R.c) R.clen] at hv
  obtain ⟨a, h1, h2, h3⟩ := h.at_ (Nat.pos_of_mul_pos_right hv)
  exact ⟨a, h1, h2, h3⟩
/-- plain data alone -/
def ArrP (R : Rel α μ) (w : World) (O : Nat → Prop) (l : List α) (q : Option Addr) : Prop := ∃ ps : List (α × μ), ps.map Prod.fst = l ∧ Arr R w O ps q
theorem ArrP.stab {l : List α} (hk : ∀ k, O k → w'.heap[k]? = w.heap[k]?) (h : ArrP R w O l q) : ArrP R w' O l q := by
  obtain ⟨ps, h1, h2⟩ := h
  exact ⟨ps, h1, h2.stab hk⟩
theorem ArrP.mono {l : List α} (hk : ∀ k, O k → O' k) (h : ArrP R w O l q) : ArrP R w O' l q := by
  obtain ⟨ps, h1, h2⟩ := h
  exact ⟨ps, h1, h2.mono hk⟩
theorem ArrP.nil : ArrP R w O [] q := ⟨[], rfl, Arr.nil⟩
/-- an older world's reading in a later world -/
theorem Cls.same {H : List Item} {S : List World} (h : Cls H S w') (hs : w ∈ S) (hno : ∀ k, k < w.heap.size → NotOwned H k) : ∀ k, low w k → w'.heap[k]? = w.heap[k]? :=
  fun k hk => (h.kp w hs).block k hk (hno k hk).not
theorem Cls.up {H : List Item} {S : List World} (h : Cls H S w') (hs : w ∈ S) : ∀ k, low w k → low w' k :=
  fun k hk => Nat.lt_of_lt_of_le hk (h.kp w hs).size
theorem Rel.at {H : List Item} {S : List World} {x : α} {y : μ} (h : R.ok w (low w) x y) (hw : Cls H S w') (hs : w ∈ S) (hno : ∀ k, k < w.heap.size → NotOwned H k) : R.ok w' (low w') x y :=
  R.mono (hw.up hs) (R.stab (hw.same hs hno) h)
theorem Arr.at {H : List Item} {S : List World} (h : Arr R w (low w) l q) (hw : Cls H S w') (hs : w ∈ S) (hno : ∀ k, k < w.heap.size → NotOwned H k) : Arr R w' (low w') l q :=
  Arr.mono (hw.up hs) (Arr.stab (hw.same hs hno) h)
theorem ArrP.at {l : List α} {H : List Item} {S : List World} (h : ArrP R w (low w) l q) (hw : Cls H S w') (hs : w ∈ S) (hno : ∀ k, k < w.heap.size → NotOwned H k) : ArrP R w' (low w') l q :=
  ArrP.mono (hw.up hs) (ArrP.stab (hw.same hs hno) h)
theorem Rel.ext {x : α} {y : μ} (h : R.ok w (low w) x y) (hx : Ext w w') : R.ok w' (low w') x y :=
  R.mono (fun k hk => Nat.lt_of_lt_of_le hk hx.size) (R.stab (fun k hk => hx.block k hk id) h)
theorem Arr.ext (h : Arr R w (low w) l q) (hx : Ext w w') : Arr R w' (low w') l q :=
  Arr.mono (fun k hk => Nat.lt_of_lt_of_le hk hx.size) (Arr.stab (fun k hk => hx.block k hk id) h)
/-! ### Finished things that the call owns -/
/-- things whose memory lies in O, at B or above -/
def pool (R : Rel α μ) (B : Nat) (O : Nat → Prop) (l : List (α × μ)) : Item :=
  ⟨fun k => B ≤ k ∧ O k, fun w => ∀ p ∈ l, R.ok w (fun k => B ≤ k ∧ O k) p.1 p.2, fun w w' hk h p hp => R.stab hk (h p hp)⟩
theorem NotOwned.pool {H : List Item} {B k : Nat} {O : Nat → Prop} {l : List (α × μ)} (h : k < B) (r : NotOwned H k) : NotOwned (Eng.pool R B O l :: H) k := NotOwned.any (fun ho => Nat.not_le_of_lt h ho.1) r
theorem Cls.pool_nil {H : List Item} {S : List World} (h : Cls H S w) (R : Rel α μ) (B : Nat) : Cls (pool R B (fun _ => False) [] :: H) S w :=
  h.add (Keep.refl _ w) _ (fun s hs => by cases hs) (fun k hk => hk.2.elim)
/-- one more, of memory that is new -/
theorem Cls.pool_push {p B : Nat} {H : List Item} {S : List World} {F : Item → List Item} {x : α} {y : μ} (hh : Hole p H (pool R B O l) F) (h : Cls H S w) (hB : B ≤ w.heap.size) (he : Ext w w') (hx : R.ok w' (fresh w w') x y) :
    Cls (F (pool R B (fun k => O k ∨ fresh w w' k) (l ++ [(x, y)]))) S w' := by
  obtain ⟨h1, h2⟩ := hh.eq
  rw [h2]
  have hm := List.mem_of_getElem? h1
  have hi := h.holds _ hm
  have hl := h.lt _ hm
  refine h.turn p h1 ⟨he.os, he.tape, he.output, he.size, fun k hk hn => he.block k hk id⟩ (fun z hz => ?_) (fun k hk => ?_) (fun k hk => ⟨hk.1, .inl hk.2⟩)
  · rcases List.mem_append.1 hz with hz | hz
    · refine R.mono (O := fun k => B ≤ k ∧ O k) (fun k hk => ⟨hk.1, .inl hk.2⟩) (R.stab (fun k hk => he.block k (hl k hk) id) (hi z hz))
    · obtain rfl := List.mem_singleton.1 hz
      exact R.mono (fun k hk => ⟨Nat.le_trans hB hk.1, .inr hk⟩) hx
  · obtain ⟨h3, h4 | h4⟩ := hk
    · exact ⟨.inl ⟨h3, h4⟩, Nat.lt_of_lt_of_le (hl k ⟨h3, h4⟩) he.size⟩
    · exact ⟨.inr h4.1, h4.2⟩
/-- one more, of memory that is new or of things that are there -/
theorem Cls.pool_more {p B : Nat} {H : List Item} {S : List World} {F : Item → List Item} {x : α} {y : μ} (hh : Hole p H (pool R B O l) F) (h : Cls H S w) (hB : B ≤ w.heap.size) (he : Ext w w') (hx : R.ok w' (fun k => (B ≤ k ∧ O k) ∨ fresh w w' k) x y) :
    Cls (F (pool R B (fun k => O k ∨ fresh w w' k) (l ++ [(x, y)]))) S w' := by
  obtain ⟨h1, h2⟩ := hh.eq
  rw [h2]
  have hm := List.mem_of_getElem? h1
  have hi := h.holds _ hm
  have hl := h.lt _ hm
  refine h.turn p h1 ⟨he.os, he.tape, he.output, he.size, fun k hk hn => he.block k hk id⟩ (fun z hz => ?_) (fun k hk => ?_) (fun k hk => ⟨hk.1, .inl hk.2⟩)
  · rcases List.mem_append.1 hz with hz | hz
    · refine R.mono (O := fun k => B ≤ k ∧ O k) (fun k hk => ⟨hk.1, .inl hk.2⟩) (R.stab (fun k hk => he.block k (hl k hk) id) (hi z hz))
    · obtain rfl := List.mem_singleton.1 hz
      refine R.mono (fun k hk => ?_) hx
      rcases hk with hk | hk
      · exact ⟨hk.1, .inl hk.2⟩
      · exact ⟨Nat.le_trans hB hk.1, .inr hk⟩
  · obtain ⟨h3, h4 | h4⟩ := hk
    · exact ⟨.inl ⟨h3, h4⟩, Nat.lt_of_lt_of_le (hl k ⟨h3, h4⟩) he.size⟩
    · exact ⟨.inr h4.1, h4.2⟩
/-- a thing without memory of its own -/
theorem Cls.pool_flat {p B : Nat} {H : List Item} {S : List World} {F : Item → List Item} {x : α} {y : μ} (hh : Hole p H (pool R B O l) F) (h : Cls H S w) (hx : R.ok w (fun _ => False) x y) :
    Cls (F (pool R B O (l ++ [(x, y)]))) S w := by
  obtain ⟨h1, h2⟩ := hh.eq
  rw [h2]
  have hm := List.mem_of_getElem? h1
  have hi := h.holds _ hm
  refine h.turn p h1 (Keep.refl _ _) (fun z hz => ?_) (fun k hk => ⟨.inl hk, h.lt _ hm k hk⟩) (fun k hk => hk)
  rcases List.mem_append.1 hz with hz | hz
  · exact hi z hz
  · obtain rfl := List.mem_singleton.1 hz
    exact R.mono (fun k hk => hk.elim) hx
/-- a grown row and its things are an array -/
theorem Arr.of {B m cap : Nat} {O1 O2 : Nat → Prop} {e : TypeId} (h1 : (row B O1 q m cap e R.sz (cat R.c l)).holds w) (h2 : (pool R B O2 l).holds w) : Arr R w (fun k => B ≤ k ∧ (O1 k ∨ O2 k)) l q where
  at_ := fun hl => by
    have hc : 0 < (cat R.c l).length := by
      rw [cat_length (f := R.c) R.clen]
      exact Nat.mul_pos hl R.pos
    obtain ⟨a, h3, _, h5⟩ := SlAt.of_row h1 hc
    have h6 := h1.1 a h3
    refine ⟨a, h3, ⟨?_, .inl h6⟩, h5⟩
    rcases h1.2.2 with ⟨h7, _⟩ | ⟨g, cap', cur, h7, hb, _⟩
    · simp only [Value.slice.injEq] at h7
      rw [h7.1] at h3; cases h3
    · simp only [Value.slice.injEq] at h7
      rw [h7.1] at h3
      obtain rfl := Option.some.inj h3
      exact hb
  el := fun p hp => R.mono (fun k hk => ⟨hk.1, .inr hk.2⟩) (h2 p hp)
/-- what two items own, as a reach of memory that is new -/
theorem Cls.fresh2 {H : List Item} {S : List World} {B : Nat} {O1 O2 : Nat → Prop} {i j : Item} (h : Cls H S w') (hi : i ∈ H) (hj : j ∈ H) (e1 : i.own = fun k => B ≤ k ∧ O1 k) (e2 : j.own = fun k => B ≤ k ∧ O2 k) (hB : w.heap.size ≤ B) : ∀ k, (B ≤ k ∧ (O1 k ∨ O2 k)) → fresh w w' k := by
  rintro k ⟨h1, h2 | h2⟩
  · exact ⟨Nat.le_trans hB h1, h.lt i hi k (by rw [e1]; exact ⟨h1, h2⟩)⟩
  · exact ⟨Nat.le_trans hB h1, h.lt j hj k (by rw [e2]; exact ⟨h1, h2⟩)⟩
/-- a reading in the world itself -/
theorem Cls.arr {H : List Item} {S : List World} {B m cap : Nat} {O1 O2 : Nat → Prop} {e : TypeId} (h : Cls H S w) (h1 : row B O1 q m cap e R.sz (cat R.c l) ∈ H) (h2 : pool R B O2 l ∈ H) : Arr R w (low w) l q :=
  (Arr.of (h.item h1) (h.item h2)).mono (by
    rintro k ⟨hb, ho | ho⟩
    · exact h.lt _ h1 k ⟨hb, ho⟩
    · exact h.lt _ h2 k ⟨hb, ho⟩)
theorem Cls.arrF {H : List Item} {S : List World} {B m cap : Nat} {O1 O2 : Nat → Prop} {e : TypeId} (h : Cls H S w') (h1 : row B O1 q m cap e R.sz (cat R.c l) ∈ H) (h2 : pool R B O2 l ∈ H) (hB : w.heap.size ≤ B) : Arr R w' (fresh w w') l q :=
  (Arr.of (h.item h1) (h.item h2)).mono (h.fresh2 h1 h2 rfl rfl hB)
end
/-! ### Types -/
def tyc (t : Ty) (y : Option Addr × Nat) : List Value := [.int .i64 t.kind, .string t.name, .int .i64 t.var, .slice y.1 t.args.length y.2]
mutual
def TyO (s : World) (O : Nat → Prop) : Ty → Option Addr × Nat → Prop
  | .mk k nm v «as», y => I64 k ∧ I64 v ∧ («as».length : Int) ≤ 9223372036854775807 ∧ (0 < «as».length → ∃ a, y.1 = some a ∧ O a.block ∧ TyOs s O «as» a)
def TyOs (s : World) (O : Nat → Prop) : List Ty → Addr → Prop
  | [], _ => True
  | t :: r, a => (∃ y, CellsAt s a (tyc t y) ∧ TyO s O t y) ∧ TyOs s O r (a.add 4)
end
mutual
theorem TyO.stab {w w' : World} {O : Nat → Prop} (hk : ∀ k, O k → w'.heap[k]? = w.heap[k]?) : ∀ {t : Ty} {y : Option Addr × Nat}, TyO w O t y → TyO w' O t y
  | .mk k nm v «as», y, h => by
    simp only [TyO] at h ⊢
    obtain ⟨h1, h2, h3, h4⟩ := h
    refine ⟨h1, h2, h3, fun hl => ?_⟩
    obtain ⟨a, ha, hb, hall⟩ := h4 hl
    exact ⟨a, ha, hb, TyOs.stab hk hb hall⟩
theorem TyOs.stab {w w' : World} {O : Nat → Prop} (hk : ∀ k, O k → w'.heap[k]? = w.heap[k]?) : ∀ {«as» : List Ty} {a : Addr}, O a.block → TyOs w O «as» a → TyOs w' O «as» a
  | [], _, _, _ => by simp only [TyOs]
  | t :: r, a, hb, h => by
    simp only [TyOs] at h ⊢
    obtain ⟨⟨y, h1, h2⟩, h3⟩ := h
    exact ⟨⟨y, cells_stab (hk _ hb) h1, TyO.stab hk h2⟩, TyOs.stab hk (by rw [add_block]; exact hb) h3⟩
end
mutual
theorem TyO.mono {w : World} {O O' : Nat → Prop} (hk : ∀ k, O k → O' k) : ∀ {t : Ty} {y : Option Addr × Nat}, TyO w O t y → TyO w O' t y
  | .mk k nm v «as», y, h => by
    simp only [TyO] at h ⊢
    obtain ⟨h1, h2, h3, h4⟩ := h
    refine ⟨h1, h2, h3, fun hl => ?_⟩
    obtain ⟨a, ha, hb, hall⟩ := h4 hl
    exact ⟨a, ha, hk _ hb, TyOs.mono hk hall⟩
theorem TyOs.mono {w : World} {O O' : Nat → Prop} (hk : ∀ k, O k → O' k) : ∀ {«as» : List Ty} {a : Addr}, TyOs w O «as» a → TyOs w O' «as» a
  | [], _, _ => by simp only [TyOs]
  | t :: r, a, h => by
    simp only [TyOs] at h ⊢
    obtain ⟨⟨y, h1, h2⟩, h3⟩ := h
    exact ⟨⟨y, h1, TyO.mono hk h2⟩, TyOs.mono hk h3⟩
end
def tyR : Rel Ty (Option Addr × Nat) where
  sz := 4
  pos := by decide
  cells := tyc
  ok := TyO
  len := fun _ _ => rfl
  stab := fun hk h => TyO.stab hk h
  mono := fun hk h => TyO.mono hk h
theorem TyOs.list {w : World} {O : Nat → Prop} : ∀ {«as» : List Ty} {a : Addr}, TyOs w O «as» a → ∃ ps : List (Ty × (Option Addr × Nat)), ps.map Prod.fst = «as» ∧ CellsAt w a (cat tyR.c ps) ∧ ∀ p ∈ ps, TyO w O p.1 p.2
  | [], a, _ => ⟨[], rfl, fun j v hj => by simp [cat] at hj, fun p hp => by cases hp⟩
  | t :: r, a, h => by
    simp only [TyOs] at h
    obtain ⟨⟨y, h1, h2⟩, h3⟩ := h
    obtain ⟨ps, h4, h5, h6⟩ := TyOs.list h3
    refine ⟨(t, y) :: ps, by simp [h4], fun j v hj => ?_, fun p hp => ?_⟩
    · rw [cat] at hj
      by_cases e : j < 4
      · rw [List.getElem?_append_left (by exact e)] at hj
        exact h1 j v hj
      · rw [List.getElem?_append_right (by show 4 ≤ j; omega)] at hj
        have := h5 _ v hj
        rw [add_add] at this
        rwa [show 4 + (j - (tyR.c (t, y)).length) = j from by show 4 + (j - 4) = j; omega] at this
    · rcases List.mem_cons.1 hp with rfl | hp
      · exact h2
      · exact h6 p hp
theorem TyOs.of_list {w : World} {O : Nat → Prop} : ∀ {ps : List (Ty × (Option Addr × Nat))} {a : Addr}, CellsAt w a (cat tyR.c ps) → (∀ p ∈ ps, TyO w O p.1 p.2) → TyOs w O (ps.map Prod.fst) a
  | [], a, _, _ => by simp only [List.map_nil, TyOs]
  | p :: ps, a, h, hp => by
    simp only [List.map_cons, TyOs]
    refine ⟨⟨p.2, fun j v hj => h j v ?_, hp p (.head _)⟩, TyOs.of_list (fun j v hj => ?_) (fun x hx => hp x (.tail _ hx))⟩
    · rw [cat, List.getElem?_append_left (by have := (List.getElem?_eq_some_iff.1 hj).1; exact this)]
      exact hj
    · rw [add_add]
      refine h (4 + j) v ?_
      rw [cat, List.getElem?_append_right (by show 4 ≤ 4 + j; omega)]
      rw [show 4 + j - (tyR.c p).length = j from by show 4 + j - 4 = j; omega]
      exact hj
/-- the parts of a type -/
theorem TyO.parts {w : World} {O : Nat → Prop} {k v : Int} {nm : ByteArray} {«as» : List Ty} {y : Option Addr × Nat} (h : TyO w O (.mk k nm v «as») y) : I64 k ∧ I64 v ∧ «as».length ≤ 9223372036854775807 ∧ ∃ ps : List (Ty × (Option Addr × Nat)), ps.map Prod.fst = «as» ∧ Arr tyR w O ps y.1 := by
  simp only [TyO] at h
  obtain ⟨h1, h2, h3, h4⟩ := h
  refine ⟨h1, h2, by omega, ?_⟩
  cases «as» with
  | nil => exact ⟨[], rfl, Arr.nil⟩
  | cons t r =>
    obtain ⟨a, ha, hb, hall⟩ := h4 (by simp)
    obtain ⟨ps, h5, h6, h7⟩ := hall.list
    exact ⟨ps, h5, fun _ => ⟨a, ha, hb, h6⟩, h7⟩
theorem TyO.of_parts {w : World} {O : Nat → Prop} {k v : Int} {nm : ByteArray} {ps : List (Ty × (Option Addr × Nat))} {q : Option Addr} {cap : Nat} (hk : I64 k) (hv : I64 v) (hl : ps.length ≤ 9223372036854775807) (h : Arr tyR w O ps q) : TyO w O (.mk k nm v (ps.map Prod.fst)) (q, cap) := by
  simp only [TyO]
  refine ⟨hk, hv, by rw [List.length_map]; omega, fun h0 => ?_⟩
  rw [List.length_map] at h0
  obtain ⟨a, h1, h2, h3⟩ := h.at_ h0
  exact ⟨a, h1, h2, TyOs.of_list h3 h.el⟩
mutual
theorem TyO.of_C {w : World} {B : Nat} : ∀ {t : Ty} {cs : List Value}, TyC w B t cs → ∃ y, cs = tyc t y ∧ TyO w (fun k => k < B) t y
  | .mk k nm v «as», cs, h => by
    simp only [TyC] at h
    obtain ⟨q, cap, rfl, h2, h3, h4, h5⟩ := h
    refine ⟨(q, cap), rfl, ?_⟩
    simp only [TyO]
    refine ⟨h2, h3, h4, fun hl => ?_⟩
    obtain ⟨a, ha, hb, hall⟩ := h5 hl
    exact ⟨a, ha, hb, TyOs.of_C hall⟩
theorem TyOs.of_C {w : World} {B : Nat} : ∀ {«as» : List Ty} {a : Addr}, TyAll w B «as» a → TyOs w (fun k => k < B) «as» a
  | [], _, _ => by simp only [TyOs]
  | t :: r, a, h => by
    simp only [TyAll] at h
    simp only [TyOs]
    obtain ⟨⟨cs, h1, h2⟩, h3⟩ := h
    obtain ⟨y, rfl, h4⟩ := TyO.of_C h2
    exact ⟨⟨y, h1, h4⟩, TyOs.of_C h3⟩
end
/-! ### Reading arguments -/
section
variable {H : Type} {enc : TypeId × Value → H} {P : Program} {w : World} {spare : Nat → Bool} {held : Bool} {α μ : Type} {R : Rel α μ}
/-- a slice whose elements read -/
theorem rd_arr {t e : TypeId} {fuel : Nat} {cs : List Value} {x : DataW H × List MemPlace} (ht : P.underlying t = some (.slice e)) (hs : P.cellsOf e = R.sz)
    (he : ∀ (n : Nat) (cs' : List Value) (y : DataW H × List MemPlace), n < fuel → DataW.trod enc P w 0 spare held n e cs' = some y → ∃ u : α × μ, cs' = R.c u ∧ R.ok w (low w) u.1 u.2)
    (h : DataW.trod enc P w 0 spare held fuel t cs = some x) :
    ∃ (q : Option Addr) (l : List (α × μ)) (cap : Nat), cs = [.slice q l.length cap] ∧ l.length ≤ cap ∧ cap ≤ maxLen ∧ Arr R w (low w) l q := by
  obtain ⟨q, len, cap, rfl, hle, hcap, hq0, m, hm, hel⟩ := slice_reads ht hs h
  cases q with
  | none =>
    obtain rfl := hq0 rfl
    exact ⟨none, [], cap, rfl, hle, hcap, Arr.nil⟩
  | some a =>
    obtain ⟨l, hl, hr⟩ := list_of (fun i (u : α × μ) => CellsAt w (a.add (i * R.sz)) (R.c u) ∧ R.ok w (low w) u.1 u.2) len (fun i hi => by
      obtain ⟨cs', y, hc, hl1, ht'⟩ := hel a rfl i hi
      obtain ⟨u, rfl, hR⟩ := he m cs' y hm ht'
      exact ⟨u, hc, hR⟩)
    subst hl
    refine ⟨some a, l, cap, rfl, hle, hcap, fun hl0 => ⟨a, rfl, ?_, fun j v hj => ?_⟩, fun u hu => ?_⟩
    · have h0 := (hr 0 _ (List.getElem?_eq_getElem hl0)).1
      rw [Nat.zero_mul, add_zero_] at h0
      have hz : 0 < (R.c l[0]).length := by rw [R.clen]; exact R.pos
      have := h0 0 _ (List.getElem?_eq_getElem hz)
      rw [add_zero_] at this
      exact cell_lt this
    · have hjl := (List.getElem?_eq_some_iff.1 hj).1
      rw [cat_length (f := R.c) R.clen] at hjl
      have hi : j / R.sz < l.length := Nat.div_lt_of_lt_mul (by rwa [Nat.mul_comm] at hjl)
      have h0 := (hr (j / R.sz) _ (List.getElem?_eq_getElem hi)).1
      have hm' : j % R.sz < (R.c l[j / R.sz]).length := by rw [R.clen]; exact Nat.mod_lt _ R.pos
      have h1 := cat_get (f := R.c) R.clen (List.getElem?_eq_getElem hi) (j % R.sz) _ (List.getElem?_eq_getElem hm')
      have ej : j / R.sz * R.sz + j % R.sz = j := by rw [Nat.mul_comm]; exact Nat.div_add_mod j R.sz
      rw [ej, hj] at h1
      have h2 := h0 (j % R.sz) _ (List.getElem?_eq_getElem hm')
      rw [add_add, ej] at h2
      rw [h2, h1]
    · obtain ⟨i, hi, rfl⟩ := List.getElem_of_mem hu
      exact (hr i _ (List.getElem?_eq_getElem hi)).2
end
end Go.Eng

/- A callee's own items join the caller's; a finished row goes to the things that are told; ends of functions that hold a range over a function. General. No condition. -/
namespace Go.Eng
open Go.RowKit
theorem Cls.over {H H2 : List Item} {S : List World} {w w' : World} (h : Cls H S w) (h2 : Cls H2 [w] w') (hf : ∀ i ∈ H2, ∀ k, i.own k → w.heap.size ≤ k) : Cls (H2 ++ H) S w' := by
  have hk := h2.kp w (.head _)
  have hno : ∀ k, k < w.heap.size → ¬ owned H2 k := fun k hlt ⟨i, hi, ho⟩ => by have := hf i hi k ho; omega
  refine ⟨fun i hi => ?_, fun i hi k ho => ?_, ?_, fun s hs => ?_⟩
  · rcases List.mem_append.1 hi with hi | hi
    · exact h2.holds i hi
    · exact i.stab w w' (fun k ho => hk.block k (h.lt i hi k ho) (hno k (h.lt i hi k ho))) (h.holds i hi)
  · rcases List.mem_append.1 hi with hi | hi
    · exact h2.lt i hi k ho
    · exact Nat.lt_of_lt_of_le (h.lt i hi k ho) hk.size
  · rw [List.pairwise_append]
    exact ⟨h2.dj, h.dj, fun i hi j hj k ho1 ho2 => by have := hf i hi k ho1; have := h.lt j hj k ho2; omega⟩
  · have h3 := h.kp s hs
    refine (h3.mono fun k _ ⟨i, hi, ho⟩ => ⟨i, List.mem_append_right _ hi, ho⟩).trans (hk.mono fun k _ ⟨i, hi, ho⟩ => ⟨i, List.mem_append_left _ hi, ho⟩)
/-- a finished row goes to the things that are told -/
theorem Cls.pool_row {α μ : Type} {R : Rel α μ} {w : World} {B m cap : Nat} {O O2 : Nat → Prop} {q : Option Addr} {e : TypeId} {xs : List Value} {l : List (α × μ)} {x : α} {y : μ} {H : List Item} {S : List World} (h : Cls (row B O q m cap e 1 xs :: pool R B O2 l :: H) S w)
    (hx : (∃ a, q = some a ∧ (B ≤ a.block ∧ O a.block) ∧ CellsAt w a xs) ∨ xs = [] → R.ok w (fun k => B ≤ k ∧ (O k ∨ O2 k)) x y) : Cls (pool R B (fun k => O k ∨ O2 k) (l ++ [(x, y)]) :: H) S w := by
  have hr := h.item (i := row B O q m cap e 1 xs) (by simp)
  have hp := h.item (i := pool R B O2 l) (by simp)
  have hd := h.dj
  rw [List.pairwise_cons, List.pairwise_cons] at hd
  obtain ⟨hr1, hp1, hH⟩ := hd
  refine ⟨fun i hi => ?_, fun i hi => ?_, ?_, fun s hs => (h.kp s hs).mono fun k _ ⟨i, hi, hk⟩ => ?_⟩
  · rcases List.mem_cons.1 hi with rfl | hi
    · intro z hz
      rcases List.mem_append.1 hz with hz | hz
      · exact R.mono (fun k hk => ⟨hk.1, .inr hk.2⟩) (hp z hz)
      · obtain rfl := List.mem_singleton.1 hz
        refine hx ?_
        rcases Nat.eq_zero_or_pos xs.length with h0 | h0
        · exact .inr (List.eq_nil_of_length_eq_zero h0)
        · obtain ⟨a, h1, h2, h3⟩ := SlAt.of_row hr h0
          refine .inl ⟨a, h1, ⟨?_, hr.1 a h1⟩, h3⟩
          rcases hr.2.2 with ⟨h4, h5⟩ | ⟨g, cap', cur, h4, h5, _⟩
          · simp only [Value.slice.injEq] at h4
            rw [h4.1] at h1; cases h1
          · simp only [Value.slice.injEq] at h4
            rw [h4.1] at h1
            obtain rfl := Option.some.inj h1
            exact h5
    · exact h.holds i (by simp [hi])
  · rcases List.mem_cons.1 hi with rfl | hi
    · rintro k ⟨h1, h2 | h2⟩
      · exact h.lt (row B O q m cap e 1 xs) (by simp) k ⟨h1, h2⟩
      · exact h.lt (pool R B O2 l) (by simp) k ⟨h1, h2⟩
    · exact h.lt i (by simp [hi])
  · refine List.pairwise_cons.2 ⟨fun j hj k hk hj2 => ?_, hH⟩
    obtain ⟨h1, h2 | h2⟩ := hk
    · exact hr1 j (by simp [hj]) k ⟨h1, h2⟩ hj2
    · exact hp1 j hj k ⟨h1, h2⟩ hj2
  · rcases List.mem_cons.1 hi with rfl | hi
    · exact ⟨_, .head _, hk.1, .inl hk.2⟩
    · rcases List.mem_cons.1 hi with rfl | hi
      · exact ⟨_, .head _, hk.1, .inr hk.2⟩
      · exact ⟨i, by simp [hi], hk⟩
theorem At.cw {n : Nm} {Q : Exit → Act → World → Prop} {e : Exit} {l : Env} {C C' : World → Prop} (h : ∀ w, C w → C' w) (k : At n Q e l C') : At n Q e l C := ⟨fun a w hs hc => k.run a w hs (h w hc)⟩
theorem results1 {P : Program} {l : Env} {m : Nat} {Ds : List Deferred} {fn : Func} {t : Nat} {v : Value} (hr : fn.results = #[.tmp t]) (ht : look l t = some (true, v)) : ∀ a, Sees ⟨m, Ds, none⟩ l a → ∀ w, (results fn a.tmps).run P w = .ok v w := fun a hs w => by
  have h1 := hs.at_ t true v ht
  simp [results, hr, Array.getD_eq_getD_getElem?, h1]
theorem Cls.mk_one {H : List Item} {S : List World} {w : World} {D B : Nat} (h : Cls (mkI D :: H) S w) (hB : B ≤ D) : Cls (mks B [D] :: H) S w := (h.mks_nil B).flip.mks_in hB
theorem Cls.row_low {H : List Item} {S : List World} {w : World} {B B' m cap size : Nat} {O : Nat → Prop} {q : Option Addr} {e : TypeId} {xs : List Value} (h : Cls (row B O q m cap e size xs :: H) S w) (hB : B' ≤ B) : Cls (row B' (fun k => B ≤ k ∧ O k) q m cap e size xs :: H) S w := by
  have hd := List.pairwise_cons.1 h.dj
  refine ⟨fun i hi => ?_, fun i hi => ?_, .cons (fun j hj k hk => hd.1 j hj k hk.2) hd.2, fun s hs => (h.kp s hs).mono fun k _ ⟨j, hj, hjk⟩ => ?_⟩
  · cases hi with
    | head =>
      have h0 : (row B O q m cap e size xs).holds w := h.holds _ (.head _)
      refine ⟨fun a ha => ⟨?_, h0.1 a ha⟩, h0.2.1, ?_⟩
      · rcases h0.2.2 with ⟨h3, _⟩ | ⟨g, cap', cur, h3, hb, _⟩
        · rw [ha] at h3; cases h3
        · rw [ha] at h3
          simp only [Value.slice.injEq, Option.some.injEq] at h3
          rw [h3.1]; exact hb
      · rcases h0.2.2 with h3 | ⟨g, cap', cur, h3, hb, h4⟩
        · exact .inl h3
        · exact .inr ⟨g, cap', cur, h3, by omega, h4⟩
    | tail _ hi => exact h.holds _ (.tail _ hi)
  · cases hi with
    | head => exact fun k hk => h.lt (row B O q m cap e size xs) (.head _) k hk.2
    | tail _ hi => exact h.lt _ (.tail _ hi)
  · cases hj with
    | head =>
      have hjk' : B ≤ k ∧ O k := hjk
      exact ⟨_, .head _, by omega, hjk'⟩
    | tail _ hj => exact ⟨_, .tail _ hj, hjk⟩
/-- a row that a callee made -/
theorem Cls.callee {H : List Item} {S : List World} {w2 w3 : World} {B m cap size : Nat} {O : Nat → Prop} {q : Option Addr} {e : TypeId} {xs : List Value} (h : Cls H S w2) (h3 : Cls [row w2.heap.size O q m cap e size xs] [w2] w3) (hB : B ≤ w2.heap.size) : Cls (row B (fun k => w2.heap.size ≤ k ∧ O k) q m cap e size xs :: H) S w3 :=
  (h.over h3 (fun i hi k hk => by rw [List.mem_singleton] at hi; subst hi; exact hk.1)).row_low hB
end Go.Eng

/- The walks of the lexer's and the reference's classes of bytes. Conditions: none. -/
namespace Go.Proofs.YtnnpheacekieaaaDoor.lt
open Go.RowKit Go.Eng Go.Lt
set_option maxRecDepth 100000
theorem small_calls (c : UInt8) (w : World) : Calls Tryd.prog 16 #[.int .u8 (c.toNat : Int)] w fun e w' => e = .returned (.bool (Lt.small c)) ∧ Ext w w' := by
  refine enter Tryd.func16 rfl Tryd.ntmps16 rfl (Cls.start w) ?_
  (simp only [argEnv, Nat.zero_add, Nat.reduceAdd])
  apply W.sr
  apply oas; rfl; rfl
  apply OL.nsr
  apply omv; rfl; rfl
  apply obn; rfl; rfl; rfl; apply Bin.geq
  apply omv; rfl; rfl
  apply oy; rfl; rfl; rfl; apply Pev.move; rfl; exact yes
  apply oy; rfl; rfl; rfl; apply Pev.bin; rfl; exact fun h => h; rfl; exact yes; intro hcond; apply Bin.leq
  apply oop; rfl; apply Pev.pick_and; rfl; exact yes; rfl; exact fun h => h
  apply omv; rfl; rfl
  apply ono; rfl; rfl; rfl; apply Pev.move; rfl; exact yes
  apply ono; rfl; rfl; rfl; apply Pev.bin; rfl; exact fun h => h; rfl; exact yes; intro hcond; apply Bin.eql
  apply oop; rfl; apply Pev.pick_or; rfl; exact yes; rfl; exact fun h => h
  apply oas; rfl; rfl
  apply OL.nx
  apply W.ret
  ((with_reducible apply At.fin1); rfl; rfl; intro w' hw')
  refine ⟨congrArg (fun b => Ending.returned (Value.bool b)) ?_, by (exact hw'.fr)⟩
  unfold Lt.small
  repeat (first | exact decide_eq_decide.2 (by omega) | congr 1)
theorem large_calls (c : UInt8) (w : World) : Calls Tryd.prog 20 #[.int .u8 (c.toNat : Int)] w fun e w' => e = .returned (.bool (Lt.large c)) ∧ Ext w w' := by
  refine enter Tryd.func20 rfl Tryd.ntmps20 rfl (Cls.start w) ?_
  (simp only [argEnv, Nat.zero_add, Nat.reduceAdd])
  apply W.sr
  apply oas; rfl; rfl
  apply OL.nsr
  apply omv; rfl; rfl
  apply obn; rfl; rfl; rfl; apply Bin.geq
  apply omv; rfl; rfl
  apply oy; rfl; rfl; rfl; apply Pev.move; rfl; exact yes
  apply oy; rfl; rfl; rfl; apply Pev.bin; rfl; exact fun h => h; rfl; exact yes; intro hcond; apply Bin.leq
  apply oop; rfl; apply Pev.pick_and; rfl; exact yes; rfl; exact fun h => h
  apply oas; rfl; rfl
  apply OL.nx
  apply W.ret
  ((with_reducible apply At.fin1); rfl; rfl; intro w' hw')
  refine ⟨congrArg (fun b => Ending.returned (Value.bool b)) ?_, by (exact hw'.fr)⟩
  unfold Lt.large
  repeat (first | exact decide_eq_decide.2 (by omega) | congr 1)
theorem digit_calls (c : UInt8) (w : World) : Calls Tryd.prog 21 #[.int .u8 (c.toNat : Int)] w fun e w' => e = .returned (.bool (Lt.digit c)) ∧ Ext w w' := by
  refine enter Tryd.func21 rfl Tryd.ntmps21 rfl (Cls.start w) ?_
  (simp only [argEnv, Nat.zero_add, Nat.reduceAdd])
  apply W.sr
  apply oas; rfl; rfl
  apply OL.nsr
  apply omv; rfl; rfl
  apply obn; rfl; rfl; rfl; apply Bin.geq
  apply omv; rfl; rfl
  apply oy; rfl; rfl; rfl; apply Pev.move; rfl; exact yes
  apply oy; rfl; rfl; rfl; apply Pev.bin; rfl; exact fun h => h; rfl; exact yes; intro hcond; apply Bin.leq
  apply oop; rfl; apply Pev.pick_and; rfl; exact yes; rfl; exact fun h => h
  apply oas; rfl; rfl
  apply OL.nx
  apply W.ret
  ((with_reducible apply At.fin1); rfl; rfl; intro w' hw')
  refine ⟨congrArg (fun b => Ending.returned (Value.bool b)) ?_, by (exact hw'.fr)⟩
  unfold Lt.digit
  repeat (first | exact decide_eq_decide.2 (by omega) | congr 1)
theorem byte_back (c : UInt8) : ((c.toNat : Int)).toNat.toUInt8 = c := by simp
theorem idx_mem (l : List UInt8) (c : UInt8) : decide (0 ≤ Lib.indexByte l ((c.toNat : Int)).toNat.toUInt8) = decide (c ∈ l) := by rw [byte_back]; exact lk.mem_index l c
theorem inner_calls (c : UInt8) (w : World) : Calls Tryd.prog 19 #[.int .u8 (c.toNat : Int)] w fun e w' => e = .returned (.bool (Lt.inner c)) ∧ Ext w w' := by
  refine enter Tryd.func19 rfl Tryd.ntmps19 rfl (Cls.start w) ?_
  (simp only [argEnv, Nat.zero_add, Nat.reduceAdd])
  apply W.sr
  apply oas; rfl; rfl
  apply OL.nsr
  apply omv; rfl; rfl
  (((first | (with_reducible apply OL.op) | (with_reducible apply QL.op)); (exact Guard.au); rfl; rfl); (exact Pev.call (v := .bool (Lt.small c)) rfl (by exact Args.au) (fun _ w2 hw2 => (small_calls c w2).mono (fun e w3 h => ⟨h.1, hw2.ext h.2⟩))))
  apply omv; rfl; rfl
  apply ono; rfl; rfl; rfl; apply Pev.move; rfl; exact yes
  (((first | (with_reducible apply OL.op) | (with_reducible apply QL.op)); (exact Guard.au); rfl; rfl); (exact Pev.call (v := .bool (Lt.large c)) rfl (by exact Args.au) (fun _ w2 hw2 => (large_calls c w2).mono (fun e w3 h => ⟨h.1, hw2.ext h.2⟩))))
  apply oop; rfl; apply Pev.pick_or; rfl; exact yes; rfl; exact fun h => h
  apply omv; rfl; rfl
  apply ono; rfl; rfl; rfl; apply Pev.move; rfl; exact yes
  (((first | (with_reducible apply OL.op) | (with_reducible apply QL.op)); (exact Guard.au); rfl; rfl); (exact Pev.call (v := .bool (Lt.digit c)) rfl (by exact Args.au) (fun _ w2 hw2 => (digit_calls c w2).mono (fun e w3 h => ⟨h.1, hw2.ext h.2⟩))))
  apply oop; rfl; apply Pev.pick_or; rfl; exact yes; rfl; exact fun h => h
  apply omv; rfl; rfl
  apply ono; rfl; rfl; rfl; apply Pev.move; rfl; exact yes
  apply ono; rfl; rfl; rfl; apply Pev.bin; rfl; exact fun h => h; rfl; exact yes; intro hcond; apply Bin.eql
  apply oop; rfl; apply Pev.pick_or; rfl; exact yes; rfl; exact fun h => h
  apply oas; rfl; rfl
  apply OL.nx
  apply W.ret
  ((with_reducible apply At.fin1); rfl; rfl; intro w' hw')
  refine ⟨congrArg (fun b => Ending.returned (Value.bool b)) ?_, by (exact hw'.fr)⟩
  unfold Lt.inner
  congr 1
  exact decide_eq_decide.2 (by omega)
theorem mark_calls (c : UInt8) (w : World) : Calls Tryd.prog 24 #[.int .u8 (c.toNat : Int)] w fun e w' => e = .returned (.bool (Lt.mark c)) ∧ Ext w w' := by
  refine enter Tryd.func24 rfl Tryd.ntmps24 rfl (Cls.start w) ?_
  (simp only [argEnv, Nat.zero_add, Nat.reduceAdd])
  apply W.sr
  apply oas; rfl; rfl
  apply OL.nsr
  apply omv; rfl; rfl
  (((first | (with_reducible apply OL.op) | (with_reducible apply QL.op)); (exact Guard.au); rfl; rfl); (exact Pev.call (v := .int .i64 (Lib.indexByte marksL ((c.toNat : Int)).toNat.toUInt8)) rfl (by exact Args.au) (fun _ w2 hw2 => (lk.indexByte_calls ⟨marksL.toArray⟩ (c.toNat : Int) w2).mono (fun e w3 h => ⟨h.1, by rw [h.2]; exact hw2⟩))))
  apply obn; rfl; rfl; rfl; apply Bin.geq
  apply oas; rfl; rfl
  apply OL.nx
  apply W.ret
  ((with_reducible apply At.fin1); rfl; rfl; intro w' hw')
  refine ⟨congrArg (fun b => Ending.returned (Value.bool b)) ?_, by (exact hw'.fr)⟩
  unfold Lt.mark
  exact idx_mem marksL c
theorem small_b (c : UInt8) : (decide ((97 : Int) ≤ (c.toNat : Int)) && decide ((c.toNat : Int) ≤ 122) || decide ((c.toNat : Int) = 95)) = Lt.small c := by
  unfold Lt.small
  repeat (first | exact decide_eq_decide.2 (by omega) | congr 1)
theorem large_b (c : UInt8) : (decide ((65 : Int) ≤ (c.toNat : Int)) && decide ((c.toNat : Int) ≤ 90)) = Lt.large c := by
  unfold Lt.large
  repeat (first | exact decide_eq_decide.2 (by omega) | congr 1)
theorem digit_b (c : UInt8) : (decide ((48 : Int) ≤ (c.toNat : Int)) && decide ((c.toNat : Int) ≤ 57)) = Lt.digit c := by
  unfold Lt.digit
  repeat (first | exact decide_eq_decide.2 (by omega) | congr 1)
theorem class_calls (c : UInt8) (w : World) : Calls Tryd.prog 30 #[.int .u8 (c.toNat : Int)] w fun e w' => e = .returned (.int .u8 (cls c : Int)) ∧ Ext w w' := by
  refine enter Tryd.func30 rfl Tryd.ntmps30 rfl (Cls.start w) ?_
  (simp only [argEnv, Nat.zero_add, Nat.reduceAdd])
  have hlt := c.toNat_lt
  apply W.sr
  apply oas; rfl; rfl
  apply OL.nx
  apply W.sb
  apply W.sr
  apply omv; rfl; rfl
  apply obn; rfl; rfl; rfl; apply Bin.geq
  apply omv; rfl; rfl
  apply oy; rfl; rfl; rfl; apply Pev.move; rfl; exact yes
  apply oy; rfl; rfl; rfl; apply Pev.bin; rfl; exact fun h => h; rfl; exact yes; intro hcond; apply Bin.leq
  apply oop; rfl; apply Pev.pick_and; rfl; exact yes; rfl; exact fun h => h
  apply omv; rfl; rfl
  apply ono; rfl; rfl; rfl; apply Pev.move; rfl; exact yes
  apply ono; rfl; rfl; rfl; apply Pev.bin; rfl; exact fun h => h; rfl; exact yes; intro hcond; apply Bin.eql
  apply oop; rfl; apply Pev.pick_or; rfl; exact yes; rfl; exact fun h => h
  apply oas; rfl; rfl
  apply OL.nx
  rw [small_b]
  refine W.cond rfl (fun h1 => ?_) (fun h1 => ?_)
  · apply W.sr
    apply oas; rfl; rfl
    apply OL.nx
    refine W.rt ?_
    ((with_reducible apply At.fin1); rfl; rfl; intro w' hw')
    exact ⟨by unfold cls; rw [if_pos h1]; rfl, by (exact hw'.fr)⟩
  apply W.sr
  apply omv; rfl; rfl
  apply obn; rfl; rfl; rfl; apply Bin.geq
  apply omv; rfl; rfl
  apply oy; rfl; rfl; rfl; apply Pev.move; rfl; exact yes
  apply oy; rfl; rfl; rfl; apply Pev.bin; rfl; exact fun h => h; rfl; exact yes; intro hcond; apply Bin.leq
  apply oop; rfl; apply Pev.pick_and; rfl; exact yes; rfl; exact fun h => h
  apply oas; rfl; rfl
  apply OL.nx
  rw [large_b]
  refine W.cond rfl (fun h2 => ?_) (fun h2 => ?_)
  · apply W.sr
    apply oas; rfl; rfl
    apply OL.nx
    refine W.rt ?_
    ((with_reducible apply At.fin1); rfl; rfl; intro w' hw')
    exact ⟨by unfold cls; rw [h1, if_neg (by decide), if_pos h2]; rfl, by (exact hw'.fr)⟩
  apply W.sr
  apply omv; rfl; rfl
  apply obn; rfl; rfl; rfl; apply Bin.geq
  apply omv; rfl; rfl
  apply oy; rfl; rfl; rfl; apply Pev.move; rfl; exact yes
  apply oy; rfl; rfl; rfl; apply Pev.bin; rfl; exact fun h => h; rfl; exact yes; intro hcond; apply Bin.leq
  apply oop; rfl; apply Pev.pick_and; rfl; exact yes; rfl; exact fun h => h
  apply oas; rfl; rfl
  apply OL.nx
  rw [digit_b]
  refine W.cond rfl (fun h3 => ?_) (fun h3 => ?_)
  · apply W.sr
    apply oas; rfl; rfl
    apply OL.nx
    refine W.rt ?_
    ((with_reducible apply At.fin1); rfl; rfl; intro w' hw')
    exact ⟨by unfold cls; rw [h1, h2, if_neg (by decide), if_neg (by decide), if_pos h3]; rfl, by (exact hw'.fr)⟩
  apply W.sr
  apply omv; rfl; rfl
  (((first | (with_reducible apply OL.op) | (with_reducible apply QL.op)); (exact Guard.au); rfl; rfl); (exact Pev.call (v := .int .i64 (Lib.indexByte punctL ((c.toNat : Int)).toNat.toUInt8)) rfl (by exact Args.au) (fun _ w2 hw2 => (lk.indexByte_calls ⟨punctL.toArray⟩ (c.toNat : Int) w2).mono (fun e w3 h => ⟨h.1, by rw [h.2]; exact hw2⟩))))
  apply obn; rfl; rfl; rfl; apply Bin.geq
  apply oas; rfl; rfl
  apply OL.nx
  rw [idx_mem punctL c]
  refine W.cond rfl (fun h4 => ?_) (fun h4 => ?_)
  · apply W.sr
    apply oas; rfl; rfl
    apply OL.nx
    refine W.rt ?_
    ((with_reducible apply At.fin1); rfl; rfl; intro w' hw')
    exact ⟨by unfold cls; rw [h1, h2, h3, if_neg (by decide), if_neg (by decide), if_neg (by decide), if_pos (show Lt.punct c = true from h4)]; rfl, by (exact hw'.fr)⟩
  apply W.sr
  apply omv; rfl; rfl
  (((first | (with_reducible apply OL.op) | (with_reducible apply QL.op)); (exact Guard.au); rfl; rfl); (exact Pev.call (v := .int .i64 (Lib.indexByte marksL ((c.toNat : Int)).toNat.toUInt8)) rfl (by exact Args.au) (fun _ w2 hw2 => (lk.indexByte_calls ⟨marksL.toArray⟩ (c.toNat : Int) w2).mono (fun e w3 h => ⟨h.1, by rw [h.2]; exact hw2⟩))))
  apply obn; rfl; rfl; rfl; apply Bin.geq
  apply oas; rfl; rfl
  apply OL.nx
  rw [idx_mem marksL c]
  have h4 : Lt.punct c = false := h4
  refine W.cond rfl (fun h5 => ?_) (fun h5 => ?_)
  · apply W.sr
    apply oas; rfl; rfl
    apply OL.nx
    refine W.rt ?_
    ((with_reducible apply At.fin1); rfl; rfl; intro w' hw')
    exact ⟨by unfold cls; rw [h1, h2, h3, h4, if_neg (by decide), if_neg (by decide), if_neg (by decide), if_neg (by decide), if_pos (show Lt.mark c = true from h5)]; rfl, by (exact hw'.fr)⟩
  · have h5 : Lt.mark c = false := h5
    apply W.skip
    with_reducible apply At.in_normal
    with_reducible apply At.next
    apply W.sr
    apply omv; rfl; rfl
    apply oas; rfl; rfl
    apply OL.nx
    apply W.ret
    ((with_reducible apply At.fin1); rfl; rfl; intro w' hw')
    exact ⟨by unfold cls; rw [h1, h2, h3, h4, h5]; rfl, by (exact hw'.fr)⟩
theorem belongs_calls (k : Nat) (c : UInt8) (hk : k < 256) (w : World) : Calls Tryd.prog 31 #[.int .u8 (k : Int), .int .u8 (c.toNat : Int)] w fun e w' => e = .returned (.bool (belongs k c)) ∧ Ext w w' := by
  refine enter Tryd.func31 rfl Tryd.ntmps31 rfl (Cls.start w) ?_
  (simp only [argEnv, Nat.zero_add, Nat.reduceAdd])
  apply W.sr
  apply oas; rfl; rfl
  apply OL.nsr
  apply omv; rfl; rfl
  (((first | (with_reducible apply OL.op) | (with_reducible apply QL.op)); (exact Guard.au); rfl; rfl); (exact Pev.call (v := .int .u8 (cls c : Int)) rfl (by exact Args.au) (fun _ w2 hw2 => (class_calls c w2).mono (fun e w3 h => ⟨h.1, hw2.ext h.2⟩))))
  have hw : k = 110 ∨ k = 99 → belongs k c = (decide ((cls c : Int) = 110) || decide ((cls c : Int) = 99) || decide ((cls c : Int) = 100) || decide ((c.toNat : Int) = 39)) := fun h => by
    unfold belongs
    rw [if_pos h]
    repeat (first | exact decide_eq_decide.2 (by omega) | congr 1)
  have hd : k = 100 ∨ k = 111 → belongs k c = decide ((cls c : Int) = (k : Int)) := fun h => by
    unfold belongs
    rw [if_neg (by omega), if_pos h]
    exact decide_eq_decide.2 (by omega)
  apply oas; rfl; rfl
  apply OL.nx
  apply W.seq
  apply W.sr
  apply omv; rfl; rfl
  apply OL.nx
  apply W.block
  apply W.seq
  apply W.sr
  apply obn; rfl; rfl; rfl; apply Bin.eql
  apply oas; rfl; rfl
  apply OL.nx
  (refine W.cnd (fun h1 => ?_) (fun h1 => ?_)) <;> (try (exfalso; first | omega | exact h1 trivial | contradiction))
  · apply W.sk
    (refine W.cnd (fun g1 => ?_) (fun g1 => ?_)) <;> (try (exfalso; first | omega | exact g1 trivial | contradiction))
    apply W.sr
    apply omv; rfl; rfl
    apply obn; rfl; rfl; rfl; apply Bin.eql
    apply omv; rfl; rfl
    apply ono; rfl; rfl; rfl; apply Pev.move; rfl; exact yes
    apply ono; rfl; rfl; rfl; apply Pev.bin; rfl; exact fun h => h; rfl; exact yes; intro hcond; apply Bin.eql
    apply oop; rfl; apply Pev.pick_or; rfl; exact yes; rfl; exact fun h => h
    apply omv; rfl; rfl
    apply ono; rfl; rfl; rfl; apply Pev.move; rfl; exact yes
    apply ono; rfl; rfl; rfl; apply Pev.bin; rfl; exact fun h => h; rfl; exact yes; intro hcond; apply Bin.eql
    apply oop; rfl; apply Pev.pick_or; rfl; exact yes; rfl; exact fun h => h
    apply omv; rfl; rfl
    apply ono; rfl; rfl; rfl; apply Pev.move; rfl; exact yes
    apply ono; rfl; rfl; rfl; apply Pev.bin; rfl; exact fun h => h; rfl; exact yes; intro hcond; apply Bin.eql
    apply oop; rfl; apply Pev.pick_or; rfl; exact yes; rfl; exact fun h => h
    apply oas; rfl; rfl
    apply OL.nx
    refine W.rt ?_
    ((with_reducible apply At.fin1); rfl; rfl; intro w' hw')
    exact ⟨by rw [hw (by omega)], by (exact hw'.fr)⟩
  apply W.reg
  apply obn; rfl; rfl; rfl; apply Bin.eql
  apply oas; rfl; rfl
  apply OL.nx
  (refine W.cnd (fun h2 => ?_) (fun h2 => ?_)) <;> (try (exfalso; first | omega | exact h2 trivial | contradiction))
  · apply W.sr
    apply omv; rfl; rfl
    apply obn; rfl; rfl; rfl; apply Bin.eql
    apply omv; rfl; rfl
    apply ono; rfl; rfl; rfl; apply Pev.move; rfl; exact yes
    apply ono; rfl; rfl; rfl; apply Pev.bin; rfl; exact fun h => h; rfl; exact yes; intro hcond; apply Bin.eql
    apply oop; rfl; apply Pev.pick_or; rfl; exact yes; rfl; exact fun h => h
    apply omv; rfl; rfl
    apply ono; rfl; rfl; rfl; apply Pev.move; rfl; exact yes
    apply ono; rfl; rfl; rfl; apply Pev.bin; rfl; exact fun h => h; rfl; exact yes; intro hcond; apply Bin.eql
    apply oop; rfl; apply Pev.pick_or; rfl; exact yes; rfl; exact fun h => h
    apply omv; rfl; rfl
    apply ono; rfl; rfl; rfl; apply Pev.move; rfl; exact yes
    apply ono; rfl; rfl; rfl; apply Pev.bin; rfl; exact fun h => h; rfl; exact yes; intro hcond; apply Bin.eql
    apply oop; rfl; apply Pev.pick_or; rfl; exact yes; rfl; exact fun h => h
    apply oas; rfl; rfl
    apply OL.nx
    refine W.rt ?_
    ((with_reducible apply At.fin1); rfl; rfl; intro w' hw')
    exact ⟨by rw [hw (by omega)], by (exact hw'.fr)⟩
  apply W.seq
  apply W.sr
  apply obn; rfl; rfl; rfl; apply Bin.eql
  apply oas; rfl; rfl
  apply OL.nx
  (refine W.cnd (fun h3 => ?_) (fun h3 => ?_)) <;> (try (exfalso; first | omega | exact h3 trivial | contradiction))
  · apply W.sk
    (refine W.cnd (fun g3 => ?_) (fun g3 => ?_)) <;> (try (exfalso; first | omega | exact g3 trivial | contradiction))
    apply W.sr
    apply omv; rfl; rfl
    apply omv; rfl; rfl
    apply obn; rfl; rfl; rfl; apply Bin.eql
    apply oas; rfl; rfl
    apply OL.nx
    refine W.rt ?_
    ((with_reducible apply At.fin1); rfl; rfl; intro w' hw')
    exact ⟨by rw [hd (by omega)], by (exact hw'.fr)⟩
  apply W.reg
  apply obn; rfl; rfl; rfl; apply Bin.eql
  apply oas; rfl; rfl
  apply OL.nx
  (refine W.cnd (fun h4 => ?_) (fun h4 => ?_)) <;> (try (exfalso; first | omega | exact h4 trivial | contradiction))
  · apply W.sr
    apply omv; rfl; rfl
    apply omv; rfl; rfl
    apply obn; rfl; rfl; rfl; apply Bin.eql
    apply oas; rfl; rfl
    apply OL.nx
    refine W.rt ?_
    ((with_reducible apply At.fin1); rfl; rfl; intro w' hw')
    exact ⟨by rw [hd (by omega)], by (exact hw'.fr)⟩
  · apply W.skip
    with_reducible apply At.in_normal
    with_reducible apply At.next
    apply W.sr
    apply oas; rfl; rfl
    apply OL.nx
    apply W.ret
    ((with_reducible apply At.fin1); rfl; rfl; intro w' hw')
    exact ⟨by unfold belongs; rw [if_neg (by omega), if_neg (by omega)], by (exact hw'.fr)⟩
end Go.Proofs.YtnnpheacekieaaaDoor.lt

/- Maps whose keys are strings, of the call's own: an item for the list of keys and values; make, look up, put a new key, delete. General. No condition. -/
namespace Go.Eng
open Go.RowKit Go.MapKept
abbrev MP := List (ByteArray × Value)
def mget : MP → ByteArray → Option Value
  | [], _ => none
  | p :: r, k => if p.1 = k then some p.2 else mget r k
def mdel : MP → ByteArray → MP
  | [], _ => []
  | p :: r, k => if p.1 = k then r else p :: mdel r k
def mcells (m : MP) : List (Value × Value) := m.map fun p => (.string p.1, p.2)
/-- the map in block b -/
def mapS (b : Nat) (m : MP) : Item :=
  ⟨fun k => k = b, fun w => ∃ es clock, w.heap[b]? = some (.map es clock) ∧ es.toList.map (fun e => (e.key, e.val)) = mcells m, fun w w' hk ⟨es, c, h, h2⟩ => ⟨es, c, (hk b rfl).trans h, h2⟩⟩
theorem NotOwned.mapS {H : List Item} {b : Nat} {m : MP} {k : Nat} (h : k ≠ b) (r : NotOwned H k) : NotOwned (Eng.mapS b m :: H) k := NotOwned.any (fun hm => h hm) r
theorem mapS_lt {w : World} {b : Nat} {m : MP} (h : (mapS b m).holds w) : b < w.heap.size := by
  obtain ⟨es, c, h1, _⟩ := h
  exact (Array.getElem?_eq_some_iff.1 h1).1
theorem now_str : ∀ (es : List MapEntry) (m : MP) (i : Nat) (k : ByteArray), es.map (fun e => (e.key, e.val)) = mcells m →
    (Instr.findNow .string (.string k) es i = some none ∧ mget m k = none) ∨ ∃ j v, Instr.findNow .string (.string k) es i = some (some (i + j, v)) ∧ mget m k = some v ∧ es.eraseIdx j = es.eraseIdx j ∧ (es.eraseIdx j).map (fun e => (e.key, e.val)) = mcells (mdel m k) ∧ j < es.length
  | [], m, i, k, h => by
    cases m with
    | nil => exact .inl ⟨rfl, rfl⟩
    | cons p r => simp [mcells] at h
  | e :: es, m, i, k, h => by
    cases m with
    | nil => simp [mcells] at h
    | cons p r =>
      simp only [mcells, List.map_cons, List.cons.injEq, Prod.mk.injEq] at h
      obtain ⟨⟨h1, h2⟩, h3⟩ := h
      by_cases hk : p.1 = k
      · refine .inr ⟨0, e.val, ?_, by simp [mget, hk, h2], rfl, ?_, by simp⟩
        · simp [Instr.findNow, Instr.sameNow, h1, (Go.MapKept.bytes_beq k p.1).2 hk.symm]
        · simp only [List.eraseIdx_cons_zero, mdel, hk, if_true]
          exact h3
      · have hb : (k == p.1) = false := by
          rw [Bool.eq_false_iff]
          exact fun hh => hk ((Go.MapKept.bytes_beq k p.1).1 hh).symm
        rcases now_str es r (i + 1) k h3 with ⟨h4, h5⟩ | ⟨j, v, h4, h5, _, h6, h7⟩
        · exact .inl ⟨by simp [Instr.findNow, Instr.sameNow, h1, hb, h4], by simp [mget, hk, h5]⟩
        · refine .inr ⟨j + 1, v, by simp [Instr.findNow, Instr.sameNow, h1, hb, h4]; omega, by simp [mget, hk, h5], rfl, ?_, by simp; omega⟩
          simp only [List.eraseIdx_cons_succ, List.map_cons, mdel, hk, if_false, mcells, h1, h2]
          rw [h6]; rfl
section
variable {P : Program} {n : Nm} {l : Env} {H : List Item} {S : List World} {C : World → Prop} {c : Bool} {d : Option Nat} {ty : TypeId} {pos : String} {af : Array Edge} {g : Option (Nat × Bool)}
variable {ops : Array Oper} {rest : List Oper} {Q : Exit → Act → World → Prop} {t : TypeId} {x y z : Operand} {cx cy cz : Bool}
/-- key and element type of a map type with strings as keys -/
def mapT (P : Program) (t : TypeId) : Option (TypeId × TypeId) := match P.underlying t with
  | some (.map k e) => match P.underlying k with
    | some .string => some (k, e)
    | _ => none
  | _ => none
theorem mapT_spec {k e : TypeId} (h : mapT P t = some (k, e)) : P.underlying t = some (.map k e) ∧ P.underlying k = some .string := by
  unfold mapT at h
  split at h
  · split at h
    · simp only [Option.some.injEq, Prod.mk.injEq] at h
      obtain ⟨rfl, rfl⟩ := h
      rename_i h1 _ h2
      exact ⟨h1, h2⟩
    · cases h
  · cases h
theorem isKey_str (s : ByteArray) : IsKey .string (.string s) := by simp [IsKey]
theorem Pev.lookup {k e : TypeId} {b : Nat} {m : MP} {s : ByteArray} {zv : Value} (hx : evl l x = some (cx, .map (some b))) (hcx : c = true → cx = true) (hy : evl l y = some (cy, .string s)) (hcy : c = true → cy = true) (ht : mapT P t = some (k, e)) (hz : zeroV P e = some zv) (hm : mapS b m ∈ H) :
    Pev P n l (Cls H S) ⟨d, .lookup t x y false, ty, pos, af, g⟩ c ((mget m s).getD zv) :=
  .of_run fun h a w hs hw => by
    obtain ⟨h1, h2⟩ := mapT_spec ht
    obtain ⟨es, clock, hb, hes⟩ := hw.item hm
    have hr : (Instr.lookup t (.map (some b)) (.string s) false).run P w = .ok ((mget m s).getD zv) w := by
      simp only [Instr.lookup, Sem.run_bind, run_underlying h1, Result.andThen_ok, Go.MapKept.run_getObj_map (P := P) hb, Sem.run_pure, run_checkKey h2 (isKey_str s)]
      rcases now_str es.toList m 0 s hes with ⟨h3, h4⟩ | ⟨j, v, h3, h4, _⟩
      · rw [run_findKey h2 h3]
        simp [run_zeroV hz, h4]
      · rw [run_findKey h2 h3]
        simp [h4]
    simp only [execOp, hs.eval hx (hcx h), hs.eval hy (hcy h), Sem.run_bind, hr, Result.andThen_ok]
    rfl
/-- a map of pointers -/
theorem Pev.lookup_in {k e : TypeId} {b j : Nat} {m : MP} {s : ByteArray} (hx : evl l x = some (cx, .map (some b))) (hcx : c = true → cx = true) (hy : evl l y = some (cy, .string s)) (hcy : c = true → cy = true) (ht : mapT P t = some (k, e)) (hz : zeroV P e = some (.pointer none)) (hm : mapS b m ∈ H) (hg : mget m s = some (.pointer (some ⟨j, 0, none⟩))) :
    Pev P n l (Cls H S) ⟨d, .lookup t x y false, ty, pos, af, g⟩ c (.pointer (some ⟨j, 0, none⟩)) := by
  have := Pev.lookup (P := P) (n := n) (S := S) (d := d) (ty := ty) (pos := pos) (af := af) (g := g) hx hcx hy hcy ht hz hm
  rw [hg] at this; exact this
theorem Pev.lookup_no {k e : TypeId} {b : Nat} {m : MP} {s : ByteArray} (hx : evl l x = some (cx, .map (some b))) (hcx : c = true → cx = true) (hy : evl l y = some (cy, .string s)) (hcy : c = true → cy = true) (ht : mapT P t = some (k, e)) (hz : zeroV P e = some (.pointer none)) (hm : mapS b m ∈ H) (hg : mget m s = none) :
    Pev P n l (Cls H S) ⟨d, .lookup t x y false, ty, pos, af, g⟩ c (.pointer none) := by
  have := Pev.lookup (P := P) (n := n) (S := S) (d := d) (ty := ty) (pos := pos) (af := af) (g := g) hx hcx hy hcy ht hz hm
  rw [hg] at this; exact this
theorem OL.makeMap {dd : Nat} {k e : TypeId} (hn : Nat.ble (dd + 1) n.n = true) (ht : mapT P t = some (k, e)) (kk : ∀ b, AllLe S b → OL P n ops Q rest ((dd, true, .map (some b)) :: l) (Cls (mapS b [] :: H) S)) :
    OL P n ops Q (⟨some dd, .makeMap t none, ty, pos, af, none⟩ :: rest) l (Cls H S) :=
  OL.new (C' := fun b w => AllLe S b ∧ Cls (mapS b [] :: H) S w) rfl rfl hn (fun b => .map (some b))
    (fun a w hs hc => ⟨w.heap.size, w.alloc (.map #[] 0), rfl, AllLe.mk hc, hc.add (ext_alloc w _) _ ⟨#[], 0, heap_alloc_new w _, rfl⟩ (fun k hk => by
      have hk' : k = w.heap.size := hk
      subst hk'; simp)⟩)
    (fun b => ⟨fun a w hs hc => (kk b hc.1).run a w hs hc.2⟩)
theorem set_heap {w : World} {b : Nat} {o o' : Obj} (hb : w.heap[b]? = some o) : ({ w with heap := w.heap.setIfInBounds b o' } : World).heap[b]? = some o' ∧ Keep (fun k => k = b) w { w with heap := w.heap.setIfInBounds b o' } := by
  have hlt := (Array.getElem?_eq_some_iff.1 hb).1
  refine ⟨by simp [Array.getElem?_setIfInBounds, hlt], rfl, rfl, rfl, by simp, fun k hk hne => ?_⟩
  have : ¬ b = k := fun e => hne e.symm
  simp [Array.getElem?_setIfInBounds, this]
/-- a key that is not there yet -/
theorem OL.mapPut {k e : TypeId} {b p : Nat} {m : MP} {s : ByteArray} {v : Value} {F : Item → List Item} (hx : evl l x = some (true, .map (some b))) (hy : evl l y = some (true, .string s)) (hz : evl l z = some (true, v)) (ht : mapT P t = some (k, e)) (hH : Hole p H (mapS b m) F) (hno : mget m s = none)
    (kk : OL P n ops Q rest l (Cls (F (mapS b (m ++ [(s, v)]))) S)) : OL P n ops Q (⟨none, .mapUpdate t x y z, ty, pos, af, none⟩ :: rest) l (Cls H S) := by
  obtain ⟨hp, hF⟩ := hH.eq
  rw [hF] at kk
  obtain ⟨h1, h2⟩ := mapT_spec ht
  refine OL.store_ (C' := Cls (H.set p (mapS b (m ++ [(s, v)]))) S) rfl rfl (fun a w hs hc => ?_) kk
  obtain ⟨es, clock, hb, hes⟩ := hc.item (List.mem_of_getElem? hp)
  obtain ⟨hh, hk⟩ := set_heap (o' := .map (es.push { key := .string s, val := v, born := clock }) (clock + 1)) hb
  refine ⟨_, ?_, hc.turn p hp (j := mapS b (m ++ [(s, v)])) hk ⟨_, _, hh, ?_⟩ (fun q hq => ?_) (fun q hq => hq)⟩
  · have h3 : Instr.findNow .string (.string s) es.toList 0 = some none := by
      rcases now_str es.toList m 0 s hes with ⟨h3, h4⟩ | ⟨j, v', h3, h4, _⟩
      · exact h3
      · rw [hno] at h4; cases h4
    have hr : (Instr.mapUpdate t (.map (some b)) (.string s) v).run P w = .ok () { w with heap := w.heap.setIfInBounds b (.map (es.push { key := .string s, val := v, born := clock }) (clock + 1)) } := by
      simp only [Instr.mapUpdate, Sem.run_bind, run_underlying h1, Result.andThen_ok, Go.MapKept.run_getObj_map (P := P) hb, run_checkKey h2 (isKey_str s), run_findKey h2 h3, run_setObj_map _ hb]
    simp only [execOp, hs.eval hx rfl, hs.eval hy rfl, hs.eval hz rfl, Sem.run_bind, hr, Result.andThen_ok]
    rfl
  · simp [hes, mcells]
  · have hq' : q = b := hq
    subst hq'
    exact ⟨.inl rfl, Nat.lt_of_lt_of_le (hc.lt _ (List.mem_of_getElem? hp) q rfl) hk.size⟩
theorem OL.mapDel {k e : TypeId} {b p : Nat} {m : MP} {s : ByteArray} {t2 : TypeId} {F : Item → List Item} (hx : evl l x = some (true, .map (some b))) (hy : evl l y = some (true, .string s)) (ht : mapT P t = some (k, e)) (hH : Hole p H (mapS b m) F) (hin : (mget m s).isSome = true)
    (kk : OL P n ops Q rest l (Cls (F (mapS b (mdel m s))) S)) : OL P n ops Q (⟨none, .call { callee := .builtin .delete, args := #[x, y], argTypes := #[t, t2] }, ty, pos, af, none⟩ :: rest) l (Cls H S) := by
  obtain ⟨hp, hF⟩ := hH.eq
  rw [hF] at kk
  obtain ⟨h1, h2⟩ := mapT_spec ht
  refine ⟨fun a w hs hc => ?_⟩
  refine wpList_plain rfl fun K hK => ?_
  show Oper.upon P _ a K Q ((execOp a.eval _).run P w)
  obtain ⟨es, clock, hb, hes⟩ := hc.item (List.mem_of_getElem? hp)
  rcases now_str es.toList m 0 s hes with ⟨h3, h4⟩ | ⟨j, v, h3, h4, _, h5, h6⟩
  · rw [h4] at hin; cases hin
  rw [Nat.zero_add] at h3
  obtain ⟨hh, hk⟩ := set_heap (o' := .map (es.eraseIdxIfInBounds j) clock) hb
  have hr : (Builtin.delete_ #[t, t2] ty #[.map (some b), .string s]).run P w = .ok (.tuple #[]) { w with heap := w.heap.setIfInBounds b (.map (es.eraseIdxIfInBounds j) clock) } := by
    simp [Builtin.delete_, run_underlying h1, Go.MapKept.run_getObj_map (P := P) hb, run_checkKey h2 (isKey_str s), run_findKey h2 h3, run_setObj_map _ hb]
  simp only [execOp, resolve, invoke, builtin, Sem.run_bind, Sem.run_pure, Result.andThen_ok, List.map_toArray, List.map_cons, List.map_nil, hs.eval hx rfl, hs.eval hy rfl, hr]
  refine hK _ _ (kk.run a _ hs (hc.turn p hp (j := mapS b (mdel m s)) hk ⟨_, _, hh, ?_⟩ (fun q hq => ?_) (fun q hq => hq)))
  · have : (es.eraseIdxIfInBounds j).toList = es.toList.eraseIdx j := by
      unfold Array.eraseIdxIfInBounds
      rw [dif_pos (by simpa using h6)]
      simp
    rw [this]; exact h5
  · have hq' : q = b := hq
    subst hq'
    exact ⟨.inl rfl, Nat.lt_of_lt_of_le (hc.lt _ (List.mem_of_getElem? hp) q rfl) hk.size⟩
end
end Go.Eng

/- Nodes of four cells (two strings, two pointers), each in a block of its own: an item for a table of them; loads, stores of the pointers, new ones, comparisons of pointers. General. No condition. -/
namespace Go.Eng
open Go.RowKit
structure Nd where
  key : ByteArray
  val : ByteArray
  nx : Option Nat
  pr : Option Nat
abbrev NdT := Nat → Option Nd
def ptrV (k : Nat) : Value := .pointer (some ⟨k, 0, none⟩)
def ptrO : Option Nat → Value | none => .pointer none | some k => .pointer (some ⟨k, 0, none⟩)
def ndc (x : Nd) : List Value := [.string x.key, .string x.val, ptrO x.nx, ptrO x.pr]
def setNx (f : NdT) (b v : Nat) : NdT := fun k => if k = b then (f k).map fun y => { y with nx := some v } else f k
def setPr (f : NdT) (b v : Nat) : NdT := fun k => if k = b then (f k).map fun y => { y with pr := some v } else f k
theorem setNx_some {f : NdT} {b v k : Nat} : (setNx f b v k).isSome = (f k).isSome := by unfold setNx; split <;> simp
theorem setPr_some {f : NdT} {b v k : Nat} : (setPr f b v k).isSome = (f k).isSome := by unfold setPr; split <;> simp
def fset (f : NdT) (b : Nat) (x : Nd) : NdT := fun k => if k = b then some x else f k
theorem fset_same {f : NdT} {b : Nat} {x : Nd} : fset f b x b = some x := by simp [fset]
theorem fset_other {f : NdT} {b k : Nat} {x : Nd} (h : k ≠ b) : fset f b x k = f k := by simp [fset, h]
theorem fset_some {f : NdT} {b k : Nat} {x : Nd} (h : (f k).isSome = true) : (fset f b x k).isSome = true := by
  unfold fset; split <;> simp_all
/-- the nodes of the table f -/
def nds (t : TypeId) (f : NdT) : Item :=
  ⟨fun k => (f k).isSome = true, fun w => ∀ k x, f k = some x → w.heap[k]? = some (.cells (ndc x).toArray t (0, 0)), fun w w' hk h k x hx => (hk k (by simp [hx])).trans (h k x hx)⟩
theorem NotOwned.nds {H : List Item} {t : TypeId} {f : NdT} {k : Nat} (h : f k = none) (r : NotOwned H k) : NotOwned (Eng.nds t f :: H) k := NotOwned.any (fun hm => by
  have hm' : (f k).isSome = true := hm
  rw [h] at hm'; cases hm') r
section
variable {P : Program} {n : Nm} {l : Env} {H : List Item} {S : List World} {C : World → Prop} {c : Bool} {d : Option Nat} {ty : TypeId} {pos : String} {af : Array Edge} {g : Option (Nat × Bool)}
variable {ops : Array Oper} {rest : List Oper} {Q : Exit → Act → World → Prop} {t : TypeId} {x y z : Operand} {cx cy cz : Bool}
theorem Pev.load_nd {b o : Nat} {t' : TypeId} {f : NdT} {ky va : ByteArray} {nx pr : Option Nat} {v : Value} (hx : evl l x = some (cx, .pointer (some ⟨b, o, none⟩))) (hcx : c = true → cx = true) (hp : nds t' f ∈ H) (hs : scalB P t = true) (hf : f b = some ⟨ky, va, nx, pr⟩) (hv : ([.string ky, .string va, ptrO nx, ptrO pr] : List Value)[o]? = some v) :
    Pev P n l (Cls H S) ⟨d, .load t x, ty, pos, af, g⟩ c v :=
  .load_of hx hcx fun _ w hw => run_loadVar_scal hs (by
    have hb : (blk b t' (ndc ⟨ky, va, nx, pr⟩)).holds w := hw.item hp b _ hf
    rw [blk_cell hb]; exact hv)
theorem OL.storeNd {p b o : Nat} {t' : TypeId} {f : NdT} {nd nd' : Nd} {v : Value} {F : Item → List Item} (hx : evl l x = some (true, .pointer (some ⟨b, o, none⟩))) (hy : evl l y = some (true, v)) (hv : v.cells = #[v]) (h1 : oneL [v] = true) (hs : sizeN P t = some 1)
    (hH : Hole p H (nds t' f) F) (hf : f b = some nd) (ho : o < 4) (hnd : ndc nd' = (ndc nd).set o v) (kk : OL P n ops Q rest l (Cls (F (nds t' (fset f b nd'))) S)) : OL P n ops Q (⟨none, .store t x y, ty, pos, af, none⟩ :: rest) l (Cls H S) := by
  obtain ⟨hp, hF⟩ := hH.eq
  rw [hF] at kk
  refine OL.store_ (C' := Cls (H.set p (nds t' (fset f b nd'))) S) rfl rfl (fun a w hs' hc => ?_) kk
  have hb := hc.item (List.mem_of_getElem? hp) b nd hf
  obtain ⟨w', hr, hh, hkp⟩ := run_storeAt_blk (P := P) (t := t) (o := o) (vs := [v]) hb hs hv rfl (by simp [ndc]; omega) h1
  have own : (nds t' f).own b := by show (f b).isSome = true; rw [hf]; rfl
  refine ⟨w', ?_, hc.turn p hp (j := nds t' (fset f b nd')) (hkp.mono fun k _ hk => by rw [hk]; exact own) (fun k u hu => ?_) (fun q hq => ?_) (fun q hq => fset_some hq)⟩
  · simp only [execOp, hs'.eval hx rfl, hs'.eval hy rfl, Sem.run_bind, hr, Result.andThen_ok]; rfl
  · by_cases hkb : k = b
    · subst hkb
      rw [fset_same] at hu
      cases hu
      rw [hh, hnd]; rfl
    · rw [fset_other hkb] at hu
      have h3 := hc.item (List.mem_of_getElem? hp) k u hu
      exact (hkp.block k (Array.getElem?_eq_some_iff.1 h3).1 hkb).trans h3
  · have hq' : (fset f b nd' q).isSome = true := hq
    have hq2 : (f q).isSome = true := by
      by_cases hqb : q = b
      · subst hqb; rw [hf]; rfl
      · rwa [fset_other hqb] at hq'
    exact ⟨.inl hq2, Nat.lt_of_lt_of_le (hc.lt _ (List.mem_of_getElem? hp) q hq2) hkp.size⟩
theorem OL.storeNx {p b k : Nat} {t' : TypeId} {f : NdT} {F : Item → List Item} (hx : evl l x = some (true, .pointer (some ⟨b, 2, none⟩))) (hy : evl l y = some (true, .pointer (some ⟨k, 0, none⟩))) (hs : sizeN P t = some 1)
    (hH : Hole p H (nds t' f) F) (hf : (f b).isSome = true) (kk : OL P n ops Q rest l (Cls (F (nds t' (setNx f b k))) S)) : OL P n ops Q (⟨none, .store t x y, ty, pos, af, none⟩ :: rest) l (Cls H S) := by
  obtain ⟨nd, hnd⟩ := Option.isSome_iff_exists.1 hf
  refine OL.storeNd (nd' := { nd with nx := some k }) hx hy rfl rfl hs hH hnd (by decide) rfl ?_
  have : fset f b { nd with nx := some k } = setNx f b k := by
    funext j
    unfold fset setNx
    by_cases hj : j = b
    · rw [if_pos hj, if_pos hj, hj, hnd]; rfl
    · rw [if_neg hj, if_neg hj]
  rw [this]; exact kk
theorem OL.storePr {p b k : Nat} {t' : TypeId} {f : NdT} {F : Item → List Item} (hx : evl l x = some (true, .pointer (some ⟨b, 3, none⟩))) (hy : evl l y = some (true, .pointer (some ⟨k, 0, none⟩))) (hs : sizeN P t = some 1)
    (hH : Hole p H (nds t' f) F) (hf : (f b).isSome = true) (kk : OL P n ops Q rest l (Cls (F (nds t' (setPr f b k))) S)) : OL P n ops Q (⟨none, .store t x y, ty, pos, af, none⟩ :: rest) l (Cls H S) := by
  obtain ⟨nd, hnd⟩ := Option.isSome_iff_exists.1 hf
  refine OL.storeNd (nd' := { nd with pr := some k }) hx hy rfl rfl hs hH hnd (by decide) rfl ?_
  have : fset f b { nd with pr := some k } = setPr f b k := by
    funext j
    unfold fset setPr
    by_cases hj : j = b
    · rw [if_pos hj, if_pos hj, hj, hnd]; rfl
    · rw [if_neg hj, if_neg hj]
  rw [this]; exact kk
/-- a block becomes a node -/
theorem Cls.nd_new {b : Nat} {t' : TypeId} {f : NdT} {nd : Nd} {w : World} (h : Cls (blk b t' (ndc nd) :: nds t' f :: H) S w) : Cls (nds t' (fset f b nd) :: H) S w := by
  have hd := List.pairwise_cons.1 h.dj
  have hd2 := List.pairwise_cons.1 hd.2
  refine ⟨fun i hi => ?_, fun i hi => ?_, .cons (fun j hj k hk hk' => ?_) hd2.2, fun s hs => (h.kp s hs).mono fun k _ ⟨j, hj, hjk⟩ => ?_⟩
  · cases hi with
    | head =>
      intro k u hu
      by_cases hkb : k = b
      · subst hkb
        rw [fset_same] at hu; cases hu
        exact h.holds _ (.head _)
      · rw [fset_other hkb] at hu
        exact h.holds _ (.tail _ (.head _)) k u hu
    | tail _ hi => exact h.holds _ (.tail _ (.tail _ hi))
  · cases hi with
    | head =>
      intro k hk
      have hk' : (fset f b nd k).isSome = true := hk
      by_cases hkb : k = b
      · subst hkb; exact h.lt _ (.head _) k rfl
      · rw [fset_other hkb] at hk'
        exact h.lt _ (.tail _ (.head _)) k hk'
    | tail _ hi => exact h.lt _ (.tail _ (.tail _ hi))
  · have hk2 : (fset f b nd k).isSome = true := hk
    by_cases hkb : k = b
    · subst hkb; exact hd.1 j (.tail _ hj) k rfl hk'
    · rw [fset_other hkb] at hk2
      exact hd2.1 j hj k hk2 hk'
  · cases hj with
    | head =>
      have hjk' : k = b := hjk
      exact ⟨_, .head _, by show (fset f b nd k).isSome = true; rw [hjk', fset_same]; rfl⟩
    | tail _ hj =>
      cases hj with
      | head => exact ⟨_, .head _, by show (fset f b nd k).isSome = true; exact fset_some hjk⟩
      | tail _ hj => exact ⟨_, .tail _ hj, hjk⟩
/-- a block is no node -/
theorem Cls.nd_fresh {b : Nat} {t' t2 : TypeId} {cs : List Value} {f : NdT} {w : World} (h : Cls (blk b t2 cs :: nds t' f :: H) S w) : f b = none := by
  have hd := (List.pairwise_cons.1 h.dj).1 _ (.head _) b rfl
  have hd' : ¬ (f b).isSome = true := hd
  cases hfb : f b with
  | none => rfl
  | some x => rw [hfb] at hd'; exact absurd rfl hd'
theorem Cls.nds_zero {w : World} {t' : TypeId} (h : Cls H S w) : Cls (nds t' (fun _ => none) :: H) S w :=
  h.add (Keep.refl _ _) _ (fun k x hx => by cases hx) (fun k hk => by
    have hk' : ((none : Option Nd)).isSome = true := hk
    cases hk')
/-! comparisons of pointers -/
theorem guard_ptr {op : BinOp} {x y : Operand} {p p' : Option Addr} {w : World} : (eqGuard op t x y (.pointer p) (.pointer p')).run P w = .ok () w := by cases op <;> rfl
def ptrB (P : Program) (t : TypeId) : Bool := match P.underlying t with | some (.pointer e) => (match P.info? e with | some j => !Nat.beq j.size 0 | none => false) && (Nat.beq (P.pointee t) e) | _ => false
theorem ptrB_spec (h : ptrB P t = true) : ∃ e j, P.underlying t = some (.pointer e) ∧ P.info? e = some j ∧ j.size ≠ 0 ∧ P.pointee t = e := by
  unfold ptrB at h
  split at h
  · rename_i e he
    split at h
    · rename_i j hj
      simp only [Bool.and_eq_true, Bool.not_eq_true'] at h
      exact ⟨e, j, he, hj, fun hh => by rw [hh] at h; simp at h, Nat.eq_of_beq_eq_true h.2⟩
    · simp at h
  · cases h
theorem Bin.ptr_nil {p : Option Addr} (hu : ptrB P t = true) : Bin P .eql t (.pointer p) (.pointer none) (.bool p.isNone) := ⟨fun x y w => by
  obtain ⟨e, j, h1, h2, h3, h4⟩ := ptrB_spec hu
  rw [Sem.run_bind, guard_ptr, Result.andThen_ok]
  have := run_eql_pointer_nil (P := P) (w := w) t p (by rw [h4]; exact h1)
  rw [this]⟩
theorem Bin.ptr_nnil {p : Option Addr} (hu : ptrB P t = true) : Bin P .neq t (.pointer p) (.pointer none) (.bool (!p.isNone)) := ⟨fun x y w => by
  obtain ⟨e, j, h1, h2, h3, h4⟩ := ptrB_spec hu
  rw [Sem.run_bind, guard_ptr, Result.andThen_ok]
  have := run_neq_pointer_nil (P := P) (w := w) t p (by rw [h4]; exact h1)
  rw [this]⟩
theorem run_neq_ptr_other {tp te : TypeId} {j : TypeInfo} {w : World} {a b : Addr} {ca cb : Array Value} {ta tb : TypeId} (hp : P.underlying tp = some (.pointer te)) (hte : P.info? te = some j) (hsz : j.size ≠ 0)
    (hne : a ≠ b) (ha : w.heap[a.block]? = some (.cells ca ta (0, 0))) (hb : w.heap[b.block]? = some (.cells cb tb (0, 0))) :
    (binOp .neq tp (.pointer (some a)) (.pointer (some b))).run P w = .ok (.bool true) w := by
  have h : ∀ d : Nat, (Op.equalIn (d + 1) tp (.pointer (some a)) (.pointer (some b))).run P w = .ok false w := fun d => by
    simp [Op.equalIn, run_underlying hp, sizeOf, typeInfo, hte, hsz, run_sameAddr_other w hne ha hb]
  simp only [binOp]
  simp [Op.equal, Op.maxDepth, h 9999]
theorem Pev.nd_neq {a b : Nat} {t' : TypeId} {f : NdT} {yt : TypeId} (hx : evl l x = some (cx, .pointer (some ⟨a, 0, none⟩))) (hcx : c = true → cx = true) (hy : evl l y = some (cy, .pointer (some ⟨b, 0, none⟩))) (hcy : c = true → cy = true) (hu : ptrB P t = true)
    (hp : nds t' f ∈ H) (ha : (f a).isSome = true) (hb : (f b).isSome = true) : Pev P n l (Cls H S) ⟨d, .binOp .neq t x y yt, ty, pos, af, g⟩ c (.bool (!decide (a = b))) :=
  .of_run fun h ac w hs' hw => by
    obtain ⟨e, j, h1, h2, h3, h4⟩ := ptrB_spec hu
    have hr : (binOp .neq t (.pointer (some ⟨a, 0, none⟩)) (.pointer (some ⟨b, 0, none⟩))).run P w = .ok (.bool (!decide (a = b))) w := by
      by_cases hab : a = b
      · subst hab
        rw [Lib.run_neq_ptr_same w _ h1 h2]; simp
      · obtain ⟨xa, hxa⟩ := Option.isSome_iff_exists.1 ha
        obtain ⟨xb, hxb⟩ := Option.isSome_iff_exists.1 hb
        rw [run_neq_ptr_other h1 h2 h3 (fun hh => hab (by cases hh; rfl)) (hw.item hp a xa hxa) (hw.item hp b xb hxb)]
        simp [hab]
    simp only [execOp, hs'.eval hx (hcx h), hs'.eval hy (hcy h), Sem.run_bind, guard_ptr, hr, Result.andThen_ok]
    rfl
theorem Pev.slice_hm {e : TypeId} {sz len cp j m : Nat} {k' k'' : IntKind} {b e3 : Int} {q : Option Addr} {u : Operand} {cu : Bool} (hx : evl l x = some (cx, .slice q len cp)) (hcx : c = true → cx = true)
    (hz : evl l z = some (cz, .int k' b)) (hcz : c = true → cz = true) (hm : evl l u = some (cu, .int k'' e3)) (hcm : c = true → cu = true) (hu : slElem P t = some (e, sz)) (hb : b = (j : Int)) (hm3 : e3 = (m : Int)) (hr : c = true → j ≤ m ∧ m ≤ cp) :
    Pev P n l C ⟨d, .slice t x none (some z) (some u), ty, pos, af, g⟩ c (.slice q j m) :=
  .of_run fun h a w hs hw => by
    subst hb
    subst hm3
    obtain ⟨h2, h3⟩ := hr h
    obtain ⟨hus, hsz⟩ := slElem_both hu
    simp only [execOp, hs.eval hx (hcx h), Option.map_some, Option.map_none, hs.eval hz (hcz h), hs.eval hm (hcm h), Instr.sliceAt, Instr.slice, Sem.run_bind, run_underlying hus, Result.andThen_ok, Instr.sliceBounds, Instr.sliceBound, asIntOf, Sem.run_pure, run_sizeN hsz]
    simp [h2, h3, add_zero_]
theorem row_le {w : World} {base m cap size : Nat} {O : Nat → Prop} {q : Option Addr} {e : TypeId} {xs : List Value} (h : (row base O q m cap e size xs).holds w) : m ≤ cap := by
  rcases h.2.2 with ⟨h3, h4⟩ | ⟨g, cap', cur, h3, hb, hg, h4, h5⟩
  · omega
  · simp only [Value.slice.injEq] at h3
    obtain ⟨_, _, rfl⟩ := h3
    exact h4
theorem Thin.row {base m cap size : Nat} {O : Nat → Prop} {q : Option Addr} {e : TypeId} {xs : List Value} {H' : List Item} (hb : AllLe S base) (h : Thin S H H') : Thin S (Eng.row base O q m cap e size xs :: H) H' :=
  Thin.any (fun k hk => by
    have := hb.mem
    have hk' : base ≤ k := hk.1
    clear hk hb h
    induction S with
    | nil => trivial
    | cons s S ih => exact ⟨Nat.le_trans (this s (.head _)) hk', ih fun s hs => this s (.tail _ hs)⟩) h
theorem W.ex {α : Type} {code : Code} {C : α → World → Prop} (h : ∀ x, W P n code Q l (C x)) : W P n code Q l (fun w => ∃ x, C x w) := ⟨fun a w hs ⟨x, hc⟩ => (h x).run a w hs hc⟩
theorem OL.ex {α : Type} {C : α → World → Prop} (h : ∀ x, OL P n ops Q rest l (C x)) : OL P n ops Q rest l (fun w => ∃ x, C x w) := ⟨fun a w hs ⟨x, hc⟩ => (h x).run a w hs hc⟩
theorem Pev.lookup_o {k e : TypeId} {b : Nat} {m : MP} {s : ByteArray} {o : Option Nat} (hx : evl l x = some (cx, .map (some b))) (hcx : c = true → cx = true) (hy : evl l y = some (cy, .string s)) (hcy : c = true → cy = true) (ht : mapT P t = some (k, e)) (hz : zeroV P e = some (.pointer none)) (hm : mapS b m ∈ H) (hg : mget m s = o.map fun j => .pointer (some ⟨j, 0, none⟩)) :
    Pev P n l (Cls H S) ⟨d, .lookup t x y false, ty, pos, af, g⟩ c (.pointer (o.map fun j => ⟨j, 0, none⟩)) := by
  cases o with
  | none => exact .lookup_no hx hcx hy hcy ht hz hm hg
  | some j => exact .lookup_in hx hcx hy hcy ht hz hm hg
end
end Go.Eng

/- Rows: a full block is one; one row appended to another; a part of one; results of which the first stands in a block. General. No condition. -/
namespace Go.Eng
open Go.RowKit
section
variable {P : Program} {n : Nm} {l : Env} {H : List Item} {S : List World} {C : World → Prop} {c : Bool} {d : Option Nat} {ty : TypeId} {pos : String} {af : Array Edge} {g : Option (Nat × Bool)}
variable {ops : Array Oper} {rest : List Oper} {Q : Exit → Act → World → Prop}
variable {t : TypeId} {x y z : Operand} {cx cy cz : Bool}
theorem Cls.blk_row {b base m sz : Nat} {e : TypeId} {cs : List Value} {w : World} (h : Cls (blk b e cs :: H) S w) (hb : base ≤ b) (hl : cs.length = m * sz) (hm : m ≤ maxLen) : Cls (row base (fun k => k = b) (some ⟨b, 0, none⟩) m m e sz cs :: H) S w := by
  have hd := List.pairwise_cons.1 h.dj
  have h0 : (blk b e cs).holds w := h.holds _ (.head _)
  refine ⟨fun i hi => ?_, fun i hi => ?_, .cons (fun j hj k hk => hd.1 j hj k hk.2) hd.2, fun s hs => (h.kp s hs).mono fun k _ ⟨j, hj, hjk⟩ => ?_⟩
  · cases hi with
    | head => exact ⟨fun a ha => by cases ha; rfl, hl, .inr ⟨b, m, cs.toArray, rfl, hb, h0, Nat.le_refl _, hm, by simpa using hl, List.take_of_length_le (by simp [hl])⟩⟩
    | tail _ hi => exact h.holds _ (.tail _ hi)
  · cases hi with
    | head => exact fun k hk => h.lt _ (.head _) k hk.2
    | tail _ hi => exact h.lt _ (.tail _ hi)
  · cases hj with
    | head =>
      have hjk' : k = b := hjk
      exact ⟨_, .head _, by rw [hjk']; exact hb, hjk'⟩
    | tail _ hj => exact ⟨_, .tail _ hj, hjk⟩
theorem run_append_src_nil {w : World} {ty e : TypeId} {i : TypeInfo} {q : Option Addr} {m cap : Nat} (ht : P.underlying t = some (.slice e)) (hi : P.info? e = some i) (hc : m ≤ cap) :
    (Builtin.append_ #[t, t] ty #[.slice q m cap, .slice none 0 0]).run P w = .ok (.slice q m cap) w := by
  cases q <;> simp [Builtin.append_, run_underlying ht, sizeOf, typeInfo, hi, Builtin.lenOf, hc, Builtin.firstCells, loadCells, loadCellsFrom, storeCells]
/-- one row behind another -/
theorem OL.appendRR {F : Item → List Item} {e : TypeId} {dd sz bb p m cap cap2 m2 base base2 : Nat} {O O2 : Nat → Prop} {q q2 : Option Addr} {xs news : List Value}
    (hx : evl l x = some (true, .slice q m cap)) (hy : evl l y = some (true, .slice q2 m2 cap2)) (hn : Nat.ble (dd + 1) n.n = true)
    (hu : rowElem P t = some (e, sz, bb)) (hp' : Hole p H (row base O q m cap e sz xs) F) (hr2 : row base2 O2 q2 m2 cap2 e sz news ∈ H) (h1 : oneL news = true) (hpos : 0 < m)
    (hs : ∃ s ∈ S, base ≤ s.heap.size) (hlim : (m + m2) ≤ 9223372036854775807 ∧ (m + m2) * bb ≤ 140737488355328)
    (k : ∀ (O' : Nat → Prop) (g' cap' : Nat), OL P n ops Q rest ((dd, true, .slice (some ⟨g', 0, none⟩) (m + m2) cap') :: l) (Cls (F (row base O' (some ⟨g', 0, none⟩) (m + m2) cap' e sz (xs ++ news))) S)) :
    OL P n ops Q (⟨some dd, .call { callee := .builtin .append, args := #[x, y], argTypes := #[t, t] }, ty, pos, af, none⟩ :: rest) l (Cls H S) := by
  have hp := hp'.eq.1
  have hF := hp'.eq.2
  refine OL.newT (α := (Nat → Prop) × Nat × Nat) (C' := fun r w => Cls (H.set p (row base r.1 (some ⟨r.2.1, 0, none⟩) (m + m2) r.2.2 e sz (xs ++ news))) S w) rfl rfl hn (fun r => .slice (some ⟨r.2.1, 0, none⟩) (m + m2) r.2.2) (fun a w hs' hc => ?_) (fun r => by rw [← hF]; exact k r.1 r.2.1 r.2.2)
  obtain ⟨i, z, g1, g2, g3, g4, g5, g6, g7⟩ := rowElem_spec hu
  obtain ⟨s, hsm, hsb⟩ := hs
  have hbw : base ≤ w.heap.size := Nat.le_trans hsb (hc.kp s hsm).size
  have hi := hc.item (List.mem_of_getElem? hp)
  have hi2 := hc.item hr2
  obtain ⟨gx, rfl⟩ := row_some hi hpos
  rcases hi2.2.2 with ⟨h3, h4⟩ | ⟨g, cap', cur, h3, hb, hg, h4, h5, h6, h7⟩
  · cases h3
    have hne : news = [] := List.eq_nil_of_length_eq_zero (by have := hi2.2.1; omega)
    subst hne
    refine ⟨(O, gx, cap), w, ?_, ?_⟩
    · simp only [execOp, resolve, invoke, builtin, Sem.run_bind, Sem.run_pure, Result.andThen_ok, List.map_toArray, List.map_cons, List.map_nil, hs'.eval hx rfl, hs'.eval hy rfl, run_append_src_nil (P := P) (w := w) (ty := ty) (q := some ⟨gx, 0, none⟩) g1 g2 (row_le hi)]
      rfl
    · simp only [List.append_nil, Nat.add_zero]
      rwa [set_same hp]
  · simp only [Value.slice.injEq] at h3
    obtain ⟨rfl, _, rfl⟩ := h3
    have hl := hi2.2.1
    have hnews : ∀ j u, news[j]? = some u → w.cell? ((⟨g, 0, none⟩ : Addr).add j) = some u := fun j u hj => by
      rw [add_mid, Nat.zero_add]
      exact row_cell hi2 hj
    obtain ⟨v', w', hr, h2, h3, h4', h5'⟩ := run_append_own_at (P := P) (w := w) base t ty e i z sz bb g1 g2 g3 g4 g5 g6 g7 _ m xs hi.2 ⟨g, 0, none⟩ m2 cap2 news hl hnews (fun u hu => oneL_mem h1 u hu) hlim.1 hlim.2 hbw
    rcases h2.2 with ⟨rfl, h0⟩ | ⟨g', cap', cur', rfl, hb', hg', hrest⟩
    · omega
    · refine ⟨(fun k => O k ∨ k = g', g', cap'), w', ?_, ?_⟩
      · simp only [execOp, resolve, invoke, builtin, Sem.run_bind, Sem.run_pure, Result.andThen_ok, List.map_toArray, List.map_cons, List.map_nil, hs'.eval hx rfl, hs'.eval hy rfl, hr]
      · have hown : ∀ k, some k = (Value.slice (some ⟨gx, 0, none⟩) m cap).ownBlock → base ≤ k ∧ O k := fun k hk => by
          simp only [Value.ownBlock, Option.some.injEq] at hk
          subst hk
          exact ⟨(World.ownsRow.lt hi.2 _ rfl).1, hi.1 _ rfl⟩
        refine hc.turn p hp (j := row base (fun k => O k ∨ k = g') (some ⟨g', 0, none⟩) (m + m2) cap' e sz (xs ++ news)) ⟨h3.os, h3.tape, h3.output, h3.size, fun k hk hO => h3.block k hk (fun e => hO (hown k e))⟩ ?_ ?_ ?_
        · exact ⟨fun a ha => by cases ha; exact .inr rfl, h2⟩
        · intro k hk
          have hlt : g' < w'.heap.size := (Array.getElem?_eq_some_iff.1 hg').1
          rcases hk.2 with h | h
          · exact ⟨.inl ⟨hk.1, h⟩, Nat.lt_of_lt_of_le (hc.lt _ (List.mem_of_getElem? hp) k ⟨hk.1, h⟩) h3.size⟩
          · subst h
            refine ⟨?_, hlt⟩
            rcases h5' with h5' | h5'
            · exact .inl (hown k (by rw [← h5']; rfl))
            · simp only [Value.ownBlock, Option.some.injEq] at h5'
              exact .inr (by omega)
        · exact fun k hk => ⟨hk.1, .inl hk.2⟩
/-- the first elements of a row -/
theorem row_part {base m k cap sz : Nat} {O : Nat → Prop} {q : Option Addr} {e : TypeId} {xs : List Value} {w : World} (h : (row base O q m cap e sz xs).holds w) (hk : k ≤ m) : (row base O q k cap e sz (xs.take (k * sz))).holds w := by
  refine ⟨h.1, ?_⟩
  obtain ⟨h1, h2⟩ := h.2
  have hle : k * sz ≤ m * sz := Nat.mul_le_mul_right _ hk
  refine ⟨by rw [List.length_take]; omega, ?_⟩
  rcases h2 with ⟨h3, h4⟩ | ⟨g, cap', cur, h3, hb, hg, h4, h5, h6, h7⟩
  · simp only [Value.slice.injEq] at h3
    obtain ⟨rfl, rfl, rfl⟩ := h3
    obtain rfl : k = 0 := by omega
    exact .inl ⟨rfl, rfl⟩
  · simp only [Value.slice.injEq] at h3
    obtain ⟨rfl, _, rfl⟩ := h3
    refine .inr ⟨g, cap, cur, rfl, hb, hg, by omega, h5, h6, ?_⟩
    conv => rhs; rw [← h7]
    rw [List.take_take, Nat.min_eq_left hle]
theorem Cls.row_part {base m k cap sz : Nat} {O : Nat → Prop} {q : Option Addr} {e : TypeId} {xs : List Value} {w : World} (h : Cls (row base O q m cap e sz xs :: H) S w) (hk : k ≤ m) : Cls (row base O q k cap e sz (xs.take (k * sz)) :: H) S w := by
  have hd := List.pairwise_cons.1 h.dj
  refine ⟨fun i hi => ?_, fun i hi => ?_, .cons (fun j hj k' hk' => hd.1 j hj k' hk') hd.2, fun s hs => (h.kp s hs).mono fun k' _ ⟨j, hj, hjk⟩ => ?_⟩
  · cases hi with
    | head => exact Eng.row_part (h.holds _ (.head _)) hk
    | tail _ hi => exact h.holds _ (.tail _ hi)
  · cases hi with
    | head => exact fun k' hk' => h.lt (row base O q m cap e sz xs) (.head _) k' hk'
    | tail _ hi => exact h.lt _ (.tail _ hi)
  · cases hj with
    | head => exact ⟨_, .head _, hjk⟩
    | tail _ hj => exact ⟨_, .tail _ hj, hjk⟩
theorem At.cls {e : Exit} {C' : World → Prop} (hc : ∀ w, C w → C' w) (h : At n Q e l C') : At n Q e l C := ⟨fun a w s c => h.run a w s (hc w c)⟩
theorem At.finCT {mm : Nat} {rr : Option Nat} {fn : Func} {R : Ending → World → Prop} {tt b k u : Nat} {t' : TypeId} {cs : List Value} {v : Value} (hr : fn.results = #[.cell tt ty, .tmp u]) (ht : look l tt = some (true, .pointer (some ⟨b, 0, none⟩))) (hp : blk b t' cs ∈ H) (hs : aggN P ty = some k) (hk : cs.length = k)
    (hu : look l u = some (true, v)) (h : ∀ w, Cls H S w → R (.returned (.tuple #[.agg cs.toArray, v])) w) : At ⟨mm, [], rr⟩ (bodyPost P fn R) .ret l (Cls H S) :=
  ⟨fun a w hs' hc => ⟨hs'.df, .tuple #[.agg cs.toArray, v], by
    have h1 := hs'.at_ tt true _ ht
    have h3 := hs'.at_ u true _ hu
    have h2 := run_loadVar_agg (P := P) (t := ty) (vs := cs) (a := ⟨b, 0, none⟩) (w := w) (by rw [hk]; exact hs) (fun j v hj => by rw [add_mid, Nat.zero_add, blk_cell (hc.item hp)]; exact hj)
    simp [results, hr, Array.getD_eq_getD_getElem?, h1, asAddr, h2, h3], h w hc⟩⟩
theorem At.finCTT {mm : Nat} {rr : Option Nat} {fn : Func} {R : Ending → World → Prop} {tt b k u u2 : Nat} {t' : TypeId} {cs : List Value} {v v2 : Value} (hr : fn.results = #[.cell tt ty, .tmp u, .tmp u2]) (ht : look l tt = some (true, .pointer (some ⟨b, 0, none⟩))) (hp : blk b t' cs ∈ H) (hs : aggN P ty = some k) (hk : cs.length = k)
    (hu : look l u = some (true, v)) (hu2 : look l u2 = some (true, v2)) (h : ∀ w, Cls H S w → R (.returned (.tuple #[.agg cs.toArray, v, v2])) w) : At ⟨mm, [], rr⟩ (bodyPost P fn R) .ret l (Cls H S) :=
  ⟨fun a w hs' hc => ⟨hs'.df, .tuple #[.agg cs.toArray, v, v2], by
    have h1 := hs'.at_ tt true _ ht
    have h3 := hs'.at_ u true _ hu
    have h4 := hs'.at_ u2 true _ hu2
    have h2 := run_loadVar_agg (P := P) (t := ty) (vs := cs) (a := ⟨b, 0, none⟩) (w := w) (by rw [hk]; exact hs) (fun j v hj => by rw [add_mid, Nat.zero_add, blk_cell (hc.item hp)]; exact hj)
    simp [results, hr, Array.getD_eq_getD_getElem?, h1, asAddr, h2, h3, h4], h w hc⟩⟩
end
end Go.Eng

/- Append of a slice that reads, of any length, to a grown row. General. No condition. -/
namespace Go.Eng
open Go.RowKit
section
variable {P : Program} {n : Nm} {l : Env} {H : List Item} {S : List World} {C : World → Prop} {ty : TypeId} {pos : String} {af : Array Edge}
variable {ops : Array Oper} {rest : List Oper} {Q : Exit → Act → World → Prop} {t : TypeId} {x y : Operand}
theorem run_append_src_nil2 {w : World} {ty e : TypeId} {i : TypeInfo} {q : Option Addr} {m cap cap2 : Nat} (ht : P.underlying t = some (.slice e)) (hi : P.info? e = some i) (hc : m ≤ cap) :
    (Builtin.append_ #[t, t] ty #[.slice q m cap, .slice none 0 cap2]).run P w = .ok (.slice q m cap) w := by
  cases q <;> simp [Builtin.append_, run_underlying ht, sizeOf, typeInfo, hi, Builtin.lenOf, hc, Builtin.firstCells, loadCells, loadCellsFrom, storeCells]
theorem OL.appendK {F : Item → List Item} {e : TypeId} {dd sz bb p m cap cap2 m2 base : Nat} {O : Nat → Prop} {q q2 : Option Addr} {xs news : List Value}
    (hx : evl l x = some (true, .slice q m cap)) (hy : evl l y = some (true, .slice q2 m2 cap2)) (hn : Nat.ble (dd + 1) n.n = true)
    (hu : rowElem P t = some (e, sz, bb)) (hp' : Hole p H (row base O q m cap e sz xs) F) (hsl : ∀ w, Cls H S w → SlAt w w.heap.size q2 news) (hl : news.length = m2 * sz) (h1 : oneL news = true)
    (hs : ∃ s ∈ S, base ≤ s.heap.size) (hlim : (m + m2) ≤ 9223372036854775807 ∧ (m + m2) * bb ≤ 140737488355328)
    (k : ∀ (O' : Nat → Prop) (q' : Option Addr) (cap' : Nat), OL P n ops Q rest ((dd, true, .slice q' (m + m2) cap') :: l) (Cls (F (row base O' q' (m + m2) cap' e sz (xs ++ news))) S)) :
    OL P n ops Q (⟨some dd, .call { callee := .builtin .append, args := #[x, y], argTypes := #[t, t] }, ty, pos, af, none⟩ :: rest) l (Cls H S) := by
  have hp := hp'.eq.1
  have hF := hp'.eq.2
  refine OL.newT (α := (Nat → Prop) × Option Addr × Nat) (C' := fun r w => Cls (H.set p (row base r.1 r.2.1 (m + m2) r.2.2 e sz (xs ++ news))) S w) rfl rfl hn (fun r => .slice r.2.1 (m + m2) r.2.2) (fun a w hs' hc => ?_) (fun r => by rw [← hF]; exact k r.1 r.2.1 r.2.2)
  obtain ⟨i, z, g1, g2, g3, g4, g5, g6, g7⟩ := rowElem_spec hu
  obtain ⟨s, hsm, hsb⟩ := hs
  have hbw : base ≤ w.heap.size := Nat.le_trans hsb (hc.kp s hsm).size
  have hi := hc.item (List.mem_of_getElem? hp)
  cases q2 with
  | none =>
    have hm2 : news = [] := by
      cases news with
      | nil => rfl
      | cons v r =>
        obtain ⟨a, ha, _⟩ := hsl w hc (by simp)
        cases ha
    subst hm2
    have hm0 : m2 = 0 := by
      rcases Nat.eq_zero_or_pos m2 with h0 | h0
      · exact h0
      · have := Nat.mul_pos h0 g7
        simp at hl
        omega
    subst hm0
    refine ⟨(O, q, cap), w, ?_, ?_⟩
    · simp only [execOp, resolve, invoke, builtin, Sem.run_bind, Sem.run_pure, Result.andThen_ok, List.map_toArray, List.map_cons, List.map_nil, hs'.eval hx rfl, hs'.eval hy rfl, run_append_src_nil2 (P := P) (cap2 := cap2) (w := w) (ty := ty) (q := q) g1 g2 (row_le hi)]
      rfl
    · simp only [List.append_nil, Nat.add_zero]
      rwa [set_same hp]
  | some ad =>
    have hnews : ∀ j u, news[j]? = some u → w.cell? (ad.add j) = some u := fun j u hj => by
      obtain ⟨a, ha, _, hca⟩ := hsl w hc (by have := (List.getElem?_eq_some_iff.1 hj).1; omega)
      obtain rfl := Option.some.inj ha
      exact hca j u hj
    obtain ⟨v', w', hr, h2, h3, h4, h5⟩ := run_append_own_at (P := P) (w := w) base t ty e i z sz bb g1 g2 g3 g4 g5 g6 g7 _ m xs hi.2 ad m2 cap2 news hl hnews (fun u hu => oneL_mem h1 u hu) hlim.1 hlim.2 hbw
    have hown : ∀ k, some k = (Value.slice q m cap).ownBlock → base ≤ k ∧ O k := fun k hk => by
      cases q with
      | none => simp [Value.ownBlock] at hk
      | some a =>
        simp only [Value.ownBlock, Option.some.injEq] at hk
        subst hk
        exact ⟨(World.ownsRow.lt hi.2 _ rfl).1, hi.1 _ rfl⟩
    rcases h2.2 with ⟨rfl, h0⟩ | ⟨g', cap', cur, rfl, hb', hg', hrest⟩
    · refine ⟨(O, none, 0), w', ?_, ?_⟩
      · simp only [execOp, resolve, invoke, builtin, Sem.run_bind, Sem.run_pure, Result.andThen_ok, List.map_toArray, List.map_cons, List.map_nil, hs'.eval hx rfl, hs'.eval hy rfl, hr, h0]
      · rw [h0] at h2 ⊢
        refine hc.turn p hp (j := row base O none 0 0 e sz (xs ++ news)) ⟨h3.os, h3.tape, h3.output, h3.size, fun k hk hO => h3.block k hk (fun e => hO (hown k e))⟩ ⟨fun a ha => (by cases ha), h2⟩ (fun k hk => ⟨.inl hk, Nat.lt_of_lt_of_le (hc.lt _ (List.mem_of_getElem? hp) k hk) h3.size⟩) (fun k hk => hk)
    · refine ⟨(fun k => O k ∨ k = g', some ⟨g', 0, none⟩, cap'), w', ?_, ?_⟩
      · simp only [execOp, resolve, invoke, builtin, Sem.run_bind, Sem.run_pure, Result.andThen_ok, List.map_toArray, List.map_cons, List.map_nil, hs'.eval hx rfl, hs'.eval hy rfl, hr]
      · refine hc.turn p hp (j := row base (fun k => O k ∨ k = g') (some ⟨g', 0, none⟩) (m + m2) cap' e sz (xs ++ news)) ⟨h3.os, h3.tape, h3.output, h3.size, fun k hk hO => h3.block k hk (fun e => hO (hown k e))⟩ ?_ ?_ ?_
        · exact ⟨fun a ha => by cases ha; exact .inr rfl, h2⟩
        · intro k hk
          have hlt : g' < w'.heap.size := (Array.getElem?_eq_some_iff.1 hg').1
          rcases hk.2 with h | h
          · exact ⟨.inl ⟨hk.1, h⟩, Nat.lt_of_lt_of_le (hc.lt _ (List.mem_of_getElem? hp) k ⟨hk.1, h⟩) h3.size⟩
          · subst h
            refine ⟨?_, hlt⟩
            rcases h5 with h5 | h5
            · exact .inl (hown k (by rw [← h5]; rfl))
            · simp only [Value.ownBlock, Option.some.injEq] at h5
              exact .inr (by omega)
        · exact fun k hk => ⟨hk.1, .inl hk.2⟩
end
end Go.Eng

/- Append onto a full slice that reads (a new row), and onto a slice that is a block of the call's own. General. No condition. -/
namespace Go.Eng
open Go.RowKit
section
variable {P : Program} {n : Nm} {l : Env} {H : List Item} {S : List World} {C : World → Prop} {ty : TypeId} {pos : String} {af : Array Edge}
variable {ops : Array Oper} {rest : List Oper} {Q : Exit → Act → World → Prop} {t : TypeId} {x y : Operand}
theorem Hole.at {p : Nat} {i : Item} {F : Item → List Item} (h : Hole p H i F) (j : Item) : Hole p (F j) j F := by
  induction h with
  | z => exact Hole.z
  | s _ ih => exact Hole.s ih
theorem Cls.blk_row_at {p b base m sz : Nat} {e : TypeId} {cs : List Value} {w : World} {F : Item → List Item} (hh : Hole p H (blk b e cs) F) (h : Cls H S w) (hb : base ≤ b) (hl : cs.length = m * sz) (hm : m ≤ maxLen) :
    Cls (F (row base (fun k => k = b) (some ⟨b, 0, none⟩) m m e sz cs)) S w := by
  obtain ⟨h1, h2⟩ := hh.eq
  rw [h2]
  have hmem := List.mem_of_getElem? h1
  have h0 : (blk b e cs).holds w := h.holds _ hmem
  refine h.turn p h1 (Keep.refl _ _) ⟨fun a ha => by cases ha; rfl, hl, .inr ⟨b, m, cs.toArray, rfl, hb, h0, Nat.le_refl _, hm, by simpa using hl, List.take_of_length_le (by simp [hl])⟩⟩ (fun k hk => ?_) (fun k hk => ?_)
  · exact ⟨.inl hk.2, h.lt _ hmem k hk.2⟩
  · have hk' : k = b := hk
    exact ⟨by rw [hk']; exact hb, hk'⟩
/-- one slice behind a block that is full -/
theorem OL.appendB {F : Item → List Item} {e : TypeId} {dd sz bb p m cap2 m2 base b : Nat} {q2 : Option Addr} {cs news : List Value}
    (hx : evl l x = some (true, .slice (some ⟨b, 0, none⟩) m m)) (hy : evl l y = some (true, .slice q2 m2 cap2)) (hn : Nat.ble (dd + 1) n.n = true)
    (hu : rowElem P t = some (e, sz, bb)) (hp' : Hole p H (blk b e cs) F) (hb : base ≤ b) (hlc : cs.length = m * sz) (hsl : ∀ w, Cls (F (row base (fun k => k = b) (some ⟨b, 0, none⟩) m m e sz cs)) S w → SlAt w w.heap.size q2 news) (hl : news.length = m2 * sz) (h1 : oneL news = true)
    (hs : ∃ s ∈ S, base ≤ s.heap.size) (hlim : (m + m2) ≤ 9223372036854775807 ∧ (m + m2) * bb ≤ 140737488355328)
    (k : ∀ (O' : Nat → Prop) (q' : Option Addr) (cap' : Nat), OL P n ops Q rest ((dd, true, .slice q' (m + m2) cap') :: l) (Cls (F (row base O' q' (m + m2) cap' e sz (cs ++ news))) S)) :
    OL P n ops Q (⟨some dd, .call { callee := .builtin .append, args := #[x, y], argTypes := #[t, t] }, ty, pos, af, none⟩ :: rest) l (Cls H S) := by
  refine OL.cls (C' := Cls (F (row base (fun k => k = b) (some ⟨b, 0, none⟩) m m e sz cs)) S) (fun w hw => hw.blk_row_at hp' hb hlc (by simp only [maxLen]; omega)) ?_
  exact OL.appendK hx hy hn hu (hp'.at _) hsl hl h1 hs hlim k
/-- one slice behind another one that is full: a new row -/
theorem OL.appendF {F : Item → List Item} {e : TypeId} {dd sz bb p m cap2 m2 base : Nat} {q q2 : Option Addr} {xs news : List Value}
    (hx : evl l x = some (true, .slice q m m)) (hy : evl l y = some (true, .slice q2 m2 cap2)) (hn : Nat.ble (dd + 1) n.n = true)
    (hu : rowElem P t = some (e, sz, bb)) (hp' : Hole p H nothing F) (hsx : ∀ w, Cls H S w → SlAt w w.heap.size q xs) (hlx : xs.length = m * sz) (hsl : ∀ w, Cls H S w → SlAt w w.heap.size q2 news) (hl : news.length = m2 * sz) (h1 : oneL news = true) (hpos : 0 < m2)
    (hs : ∃ s ∈ S, base ≤ s.heap.size) (hlim : (m + m2) ≤ 9223372036854775807 ∧ (m + m2) * bb ≤ 140737488355328) (hq0 : q = none → m = 0)
    (k : ∀ (O' : Nat → Prop) (q' : Option Addr) (cap' : Nat), OL P n ops Q rest ((dd, true, .slice q' (m + m2) cap') :: l) (Cls (F (row base O' q' (m + m2) cap' e sz (xs ++ news))) S)) :
    OL P n ops Q (⟨some dd, .call { callee := .builtin .append, args := #[x, y], argTypes := #[t, t] }, ty, pos, af, none⟩ :: rest) l (Cls H S) := by
  refine OL.newT (α := (Nat → Prop) × Option Addr × Nat) (C' := fun r w => Cls (F (row base r.1 r.2.1 (m + m2) r.2.2 e sz (xs ++ news))) S w) rfl rfl hn (fun r => .slice r.2.1 (m + m2) r.2.2) (fun a w hs' hc => ?_) (fun r => k r.1 r.2.1 r.2.2)
  obtain ⟨i, z, g1, g2, g3, g4, g5, g6, g7⟩ := rowElem_spec hu
  obtain ⟨s, hsm, hsb⟩ := hs
  have hbw : base ≤ w.heap.size := Nat.le_trans hsb (hc.kp s hsm).size
  have hnl : 0 < news.length := by rw [hl]; exact Nat.mul_pos hpos g7
  obtain ⟨ad, rfl, _, hca⟩ := hsl w hc hnl
  have hnews : ∀ j u, news[j]? = some u → w.cell? (ad.add j) = some u := fun j u hj => hca j u hj
  have key : ∃ v' w', (Builtin.append_ #[t, t] ty #[.slice q m m, .slice (some ad) m2 cap2]).run P w = .ok v' w' ∧ w'.ownsRow w.heap.size e sz v' (m + m2) (xs ++ news) ∧ w.grownBy w' none := by
    cases q with
    | none =>
      have hm := hq0 rfl
      subst hm
      have hxs : xs = [] := List.eq_nil_of_length_eq_zero (by omega)
      subst hxs
      obtain ⟨v', w', hr, h2, h3, h4, h5⟩ := run_append_own_at (P := P) (w := w) w.heap.size t ty e i z sz bb g1 g2 g3 g4 g5 g6 g7 (.slice none 0 0) 0 [] ⟨by simp, .inl ⟨rfl, rfl⟩⟩ ad m2 cap2 news hl hnews (fun u hu => oneL_mem h1 u hu) (by simp only [maxLen]; omega) hlim.2 (Nat.le_refl _)
      exact ⟨v', w', hr, h2, h3⟩
    | some ax =>
      have holds : ∀ j u, xs[j]? = some u → w.cell? (ax.add j) = some u := fun j u hj => by
        obtain ⟨a2, e2, _, hc2⟩ := hsx w hc (by have := (List.getElem?_eq_some_iff.1 hj).1; omega)
        obtain rfl := Option.some.inj e2
        exact hc2 j u hj
      exact run_append_arg_grows (P := P) (w := w) t ty e i z sz bb g1 g2 g3 g4 g5 g6 g7 ax m m xs hlx holds ad m2 cap2 news hl hnews (by omega) (by simp only [maxLen]; omega) hlim.2
  obtain ⟨v', w', hr, h2, h3⟩ := key
  have hext : Ext w w' := ⟨h3.os, h3.tape, h3.output, h3.size, fun k hk hn => h3.block k hk (fun h => by cases h)⟩
  rcases h2.2 with ⟨_, h0⟩ | ⟨g', cap', cur, rfl, hb', hg', hrest⟩
  · omega
  · refine ⟨(fun k => k = g', some ⟨g', 0, none⟩, cap'), w', ?_, ?_⟩
    · simp only [execOp, resolve, invoke, builtin, Sem.run_bind, Sem.run_pure, Result.andThen_ok, List.map_toArray, List.map_cons, List.map_nil, hs'.eval hx rfl, hs'.eval hy rfl, hr]
    · refine Cls.fill hp' (hc.add hext _ ⟨fun a ha => by cases ha; rfl, h2.1, .inr ⟨g', cap', cur, rfl, Nat.le_trans hbw hb', hg', hrest⟩⟩ (fun k hk => ?_))
      have hk' : k = g' := hk.2
      rw [hk']
      exact ⟨hb', (Array.getElem?_eq_some_iff.1 hg').1⟩
end
end Go.Eng

/- The walks of the lexer's scanner: run, skip, fail, put, word, number. Condition: the variable bytealg.MaxLen holds some int. -/
namespace Go.Proofs.YtnnpheacekieaaaDoor.lt
open Go.RowKit Go.Eng Go.Lt Go.Sp
set_option maxRecDepth 100000
def twL (p : UInt8 → Bool) (s : ByteArray) (k : Nat) : Nat := ((s.data.toList.drop k).takeWhile p).length
theorem tw_step {p : UInt8 → Bool} {s : ByteArray} {k : Nat} (h : k < s.size) : ∃ c : UInt8, s.data.toList[k]? = some c ∧ bt s k = (c.toNat : Int) ∧ (p c = true → twL p s k = twL p s (k + 1) + 1) ∧ (p c = false → twL p s k = 0) := by
  obtain ⟨c, h1, h2⟩ := bt_get h
  have hl := (List.getElem?_eq_some_iff.1 h1).1
  have e : s.data.toList.drop k = c :: s.data.toList.drop (k + 1) := by
    rw [List.drop_eq_getElem_cons hl]
    rw [List.getElem?_eq_getElem hl] at h1
    rw [Option.some.inj h1]
  refine ⟨c, h1, h2, fun hp => ?_, fun hp => ?_⟩
  · unfold twL
    rw [e, List.takeWhile_cons, if_pos hp]
    rfl
  · unfold twL
    rw [e, List.takeWhile_cons, if_neg (by simp [hp])]
    rfl
theorem tw_end {p : UInt8 → Bool} {s : ByteArray} {k : Nat} (h : s.size ≤ k) : twL p s k = 0 := by
  unfold twL
  rw [List.drop_eq_nil_of_le (by rw [Array.length_toList]; exact h)]
  rfl
theorem run_calls (bx : Nat) (s : ByteArray) (at_ : Nat) (fid : FuncId) (p : UInt8 → Bool) (w : World) (hs : s.size ≤ 8192) (hat : at_ ≤ s.size) (hb : bx < w.heap.size) (h0 : w.cell? ⟨bx, 0, none⟩ = some (.string s)) (h1 : w.cell? ⟨bx, 1, none⟩ = some (.int .i64 (at_ : Int)))
    (hf : callable Tryd.prog fid = true) (hp : ∀ (c : UInt8) w', Ext w w' → Calls Tryd.prog fid (([] : List Value) ++ [Value.int .u8 (c.toNat : Int)] ++ []).toArray w' fun e w'' => e = .returned (.bool (p c)) ∧ Ext w' w'') :
    Calls Tryd.prog 18 #[.pointer (some ⟨bx, 0, none⟩), .func (.func fid) #[] #[]] w fun e w' => e = .returned (.string (s.extract at_ (at_ + twL p s at_))) ∧ Ext w w' := by
  refine enter Tryd.func18 rfl Tryd.ntmps18 rfl (Cls.start w) ?_
  (simp only [argEnv, Nat.zero_add, Nat.reduceAdd])
  apply W.sr
  apply oas; rfl; rfl
  apply OL.nsr
  apply omv; rfl; rfl
  apply oop; rfl; apply Pev.nil_ptr; rfl; exact yes
  apply ofa; rfl; rfl; rfl
  apply oop; rfl; apply Pev.load_kept; rfl; exact yes; exact .head _; rfl; intro hcond; assumption; intro hcond; assumption; intro hcond; exact NotOwned.au
  apply oas; rfl; rfl
  apply OL.nx
  apply W.sb
  refine W.loop (G := Nat) (fun k => at_ ≤ k ∧ k ≤ s.size ∧ at_ + twL p s at_ = k + twL p s k) (fun k => s.size - k)
    (fun k => [(5, true, .int .i64 (k : Int)), (0, true, .pointer (some ⟨bx, 0, none⟩)), (1, true, .func (.func fid) #[] #[])])
    (fun k => Cls [] [w]) at_ ⟨Nat.le_refl _, hat, rfl⟩ (by exact Sub.au) (fun w' hw' => hw') ?_
  rintro k ⟨hk1, hk2, hk3⟩
  obtain ⟨pk, hpk⟩ : ∃ pk : Bool, (match s.data.toList[k]? with | some c => p c | none => false) = pk := ⟨_, rfl⟩
  have hpk2 : ∀ c : UInt8, s.data.toList[k]? = some c → p c = pk := fun c hc => by rw [← hpk, hc]
  apply W.seq
  apply W.sr
  apply omv; rfl; rfl
  apply omv; rfl; rfl
  apply oop; rfl; apply Pev.nil_ptr; rfl; exact yes
  apply ofa; rfl; rfl; rfl
  apply oop; rfl; apply Pev.load_kept; rfl; exact yes; exact .head _; rfl; intro hcond; assumption; intro hcond; assumption; intro hcond; exact NotOwned.au
  apply oop; rfl; apply Pev.len_str; rfl; exact yes; rfl
  apply obn; rfl; rfl; rfl; apply Bin.lss
  apply omv; rfl; rfl
  apply oy; rfl; rfl; rfl; apply Pev.move; rfl; exact yes
  apply oy; rfl; rfl; rfl; apply Pev.move; rfl; exact yes
  apply oy; rfl; rfl; rfl; apply Pev.nil_ptr; rfl; exact fun h => h
  apply oy; rfl; rfl; rfl; apply Pev.fld; rfl; exact fun h => h; rfl
  apply oy; rfl; rfl; rfl; apply Pev.load_kept; rfl; exact fun h => h; exact .head _; rfl; intro hcond; assumption; intro hcond; assumption; intro hcond; exact NotOwned.au
  apply oy; rfl; rfl; rfl; apply Pev.move; rfl; exact yes
  apply oy; rfl; rfl; rfl; apply Pev.index_str; rfl; exact fun h => h; rfl; exact fun h => h; rfl; (intro hcond; refine ⟨rfl, ?_⟩); (simp only [Bool.and_eq_true, Bool.or_eq_true, Bool.not_eq_true', decide_eq_true_eq, decide_eq_false_iff_not] at hcond; omega)
  (((first | (with_reducible apply OL.op) | (with_reducible apply QL.op)); (exact Guard.au); rfl; rfl); (refine Pev.callv (first := []) (cap := []) (v := .bool pk) rfl (by (first | exact fun _ => rfl | exact fun h => h | (intro h; simp_all; done))) hf (by exact Args.au) (fun hcd w2 hw2 => ?_)))
  · have hlt : k < s.size := by simpa using hcd
    obtain ⟨c, hc1, hc2, _, _⟩ := tw_step (p := p) hlt
    rw [hc2, ← hpk2 c hc1]
    exact (hp c w2 (hw2.toExt (by exact mau) (fun k hk => by exact NotOwned.au))).mono (fun e w3 h => ⟨h.1, hw2.ext h.2⟩)
  apply oop; rfl; apply Pev.pick_and; rfl; exact yes; rfl; exact fun h => h
  apply OL.nx
  refine W.cond rfl (fun hb => ?_) (fun hb => ?_)
  · rw [Bool.and_eq_true, decide_eq_true_eq] at hb
    have hlt : k < s.size := by omega
    obtain ⟨c, hc1, hc2, hc3, _⟩ := tw_step (p := p) hlt
    have hc4 := hc3 ((hpk2 c hc1).trans hb.2)
    apply W.sk
    apply W.block
    apply W.reg
    apply omv; rfl; rfl
    apply obn; rfl; rfl; rfl; apply Bin.add_in; omega
    apply oas; rfl; rfl
    apply OL.nil
    with_reducible apply At.in_normal
    exact At.again (k + 1) ⟨by omega, by omega, by omega⟩ (by omega) (by exact Sub.au) (fun w' hw' => hw')
  · have h0k : twL p s k = 0 := by
      rcases Nat.lt_or_ge k s.size with hlt | hlt
      · obtain ⟨c, hc1, hc2, _, hc3⟩ := tw_step (p := p) hlt
        refine hc3 ((hpk2 c hc1).trans ?_)
        rw [decide_eq_true (show (k : Int) < (s.size : Int) by omega), Bool.true_and] at hb
        exact hb
      · exact tw_end hlt
    have hend : at_ + twL p s at_ = k := by omega
    rw [hend]
    refine W.xt ?_
    with_reducible apply At.next
    apply W.seq
    apply W.regd0; decide +kernel; kernel_rfl; decide +kernel; exact fun w hw => hw.drew
    apply qmv; rfl; rfl
    apply qop; rfl; apply Pev.nil_ptr; rfl; exact yes
    apply qfa; rfl; rfl; rfl
    apply qop; rfl; apply Pev.load_kept; rfl; exact yes; exact .head _; rfl; intro hcond; assumption; intro hcond; assumption; intro hcond; exact NotOwned.au
    apply qmv; rfl; rfl
    apply qop; rfl; apply Pev.nil_ptr; rfl; exact yes
    apply qfa; rfl; rfl; rfl
    apply qop; rfl; apply Pev.load_kept; rfl; exact yes; exact .head _; rfl; intro hcond; assumption; intro hcond; assumption; intro hcond; exact NotOwned.au
    apply qmv; rfl; rfl
    (((first | (with_reducible apply OL.op) | (with_reducible apply QL.op)); (exact Guard.au); rfl; rfl); (refine Pev.slice_str at_ k rfl (by (first | exact fun _ => rfl | exact fun h => h | (intro h; simp_all; done))) rfl (by (first | exact fun _ => rfl | exact fun h => h | (intro h; simp_all; done))) rfl (by (first | exact fun _ => rfl | exact fun h => h | (intro h; simp_all; done))) rfl (fun _ => ⟨rfl, rfl, hk1, hk2⟩)))
    apply qas; rfl; rfl
    apply QL.nil
    with_reducible apply At.next
    apply W.ret
    ((with_reducible apply At.fin1); rfl; rfl; intro w' hw')
    exact ⟨rfl, by (exact hw'.fr)⟩
/-! ### The scanner's memory -/
def tokC (t : Tok) : List Value := [.int .i64 t.kind, .string ⟨t.text.toArray⟩, .int .i64 t.n, .int .i64 t.line, .int .i64 t.col]
def badC (b : Bad) : List Value := [.int .i64 b.code, .int .i64 b.line, .int .i64 b.col, .string ⟨#[]⟩]
structure SS where
  at_ : Nat
  line : Int
  col : Int
  toks : List Tok
  bads : List Bad
  O1 : Nat → Prop
  q1 : Option Addr
  c1 : Nat
  O2 : Nat → Prop
  q2 : Option Addr
  c2 : Nat
def ssI (B bx : Nat) (s : ByteArray) (g : SS) : List Eng.Item :=
  [blk bx 39 [.string s, .int .i64 (g.at_ : Int), .int .i64 g.line, .int .i64 g.col, .slice g.q1 g.toks.length g.c1, .slice g.q2 g.bads.length g.c2], row B g.O1 g.q1 g.toks.length g.c1 35 5 (cat tokC g.toks), row B g.O2 g.q2 g.bads.length g.c2 32 4 (cat badC g.bads)]
theorem skip_calls (bx : Nat) (s : ByteArray) (g : SS) (m : Nat) (s0 w : World) (hbx : s0.heap.size ≤ bx) (h1 : g.at_ + m ≤ 10000) (h2 : 0 ≤ g.col ∧ g.col ≤ 1000000) (hw : Cls (ssI s0.heap.size bx s g) [s0] w) :
    Calls Tryd.prog 15 #[.pointer (some ⟨bx, 0, none⟩), .int .i64 (m : Int)] w fun e w' => e = .returned (.tuple #[]) ∧ Cls (ssI s0.heap.size bx s { g with at_ := g.at_ + m, col := g.col + m }) [s0] w' := by
  refine enter Tryd.func15 rfl Tryd.ntmps15 rfl hw ?_
  unfold ssI
  (simp only [argEnv, Nat.zero_add, Nat.reduceAdd])
  apply W.sr
  apply omv; rfl; rfl
  apply oop; rfl; apply Pev.nil_ptr; rfl; exact yes
  apply ofa; rfl; rfl; rfl
  apply old; rfl; rfl; exact .head _; rfl; rfl
  apply omv; rfl; rfl
  apply obn; rfl; rfl; rfl; apply Bin.add_in; omega
  apply oop; rfl; apply Pev.nil_ptr; rfl; exact yes
  apply ofa; rfl; rfl; rfl
  apply OL.storeB; rfl; rfl; exact CellsL.one rfl; rfl; rfl; rfl; exact Swap.au; exact Put.au
  apply OL.nx
  apply W.reg
  apply omv; rfl; rfl
  apply oop; rfl; apply Pev.nil_ptr; rfl; exact yes
  apply ofa; rfl; rfl; rfl
  apply old; rfl; rfl; exact .head _; rfl; rfl
  apply omv; rfl; rfl
  apply obn; rfl; rfl; rfl; apply Bin.add_in; omega
  apply oop; rfl; apply Pev.nil_ptr; rfl; exact yes
  apply ofa; rfl; rfl; rfl
  apply OL.storeB; rfl; rfl; exact CellsL.one rfl; rfl; rfl; rfl; exact Swap.au; exact Put.au
  apply OL.nil
  refine At.end_ (At.fin0 rfl (fun w' hw' => ⟨rfl, ?_⟩))
  rw [Int.natCast_add]
  exact hw'
theorem fail_calls (bx : Nat) (s : ByteArray) (g : SS) (er : Int) (s0 w : World) (hbx : s0.heap.size ≤ bx) (hl : g.bads.length ≤ 10000) (hw : Cls (ssI s0.heap.size bx s g) [s0] w) :
    Calls Tryd.prog 27 #[.pointer (some ⟨bx, 0, none⟩), .int .i64 er] w fun e w' => e = .returned (.tuple #[]) ∧ ∃ O2 q2 c2, Cls (ssI s0.heap.size bx s { g with bads := g.bads ++ [⟨er, g.line, g.col⟩], O2 := O2, q2 := q2, c2 := c2 }) [s0] w' := by
  refine enter Tryd.func27 rfl Tryd.ntmps27 rfl hw ?_
  unfold ssI
  (simp only [argEnv, Nat.zero_add, Nat.reduceAdd])
  apply W.regz; apply ZSplit.pure rfl; apply ZSplit.pure rfl; apply ZSplit.pure rfl; apply ZSplit.pure rfl; apply ZSplit.pure rfl; apply ZSplit.pure rfl; apply ZSplit.pure rfl; apply ZSplit.pure rfl; apply ZSplit.pure rfl; apply ZSplit.pure rfl; apply ZSplit.pure rfl; apply ZSplit.pure rfl; apply ZSplit.pure rfl; apply ZSplit.pure rfl; apply ZSplit.pure rfl; apply ZSplit.tail; apply ZSplit.tail; apply ZSplit.tail; apply ZSplit.tail; apply ZSplit.tail; exact ZSplit.nil; kernel_rfl; decide +kernel; exact fun w hw => hw.drew
  apply ZL.op rfl; exact Guard.none; rfl; rfl; apply Pev.move; rfl; exact yes
  apply ZL.op rfl; exact Guard.none; rfl; rfl; apply Pev.move; rfl; exact yes
  apply ZL.op rfl; exact Guard.none; rfl; rfl; apply Pev.nil_ptr; rfl; exact yes
  apply ZL.op rfl; exact Guard.none; rfl; rfl; apply Pev.fld; rfl; exact yes; rfl
  apply ZL.ld rfl; exact Guard.none; rfl; rfl; apply Pev.load_blk; rfl; exact yes; exact .head _; rfl; rfl
  apply ZL.op rfl; exact Guard.none; rfl; rfl; apply Pev.move; rfl; exact yes
  apply ZL.op rfl; exact Guard.none; rfl; rfl; apply Pev.move; rfl; exact yes
  apply ZL.op rfl; exact Guard.none; rfl; rfl; apply Pev.nil_ptr; rfl; exact yes
  apply ZL.op rfl; exact Guard.none; rfl; rfl; apply Pev.fld; rfl; exact yes; rfl
  apply ZL.ld rfl; exact Guard.none; rfl; rfl; apply Pev.load_blk; rfl; exact yes; exact .head _; rfl; rfl
  apply ZL.op rfl; exact Guard.none; rfl; rfl; apply Pev.move; rfl; exact yes
  apply ZL.op rfl; exact Guard.none; rfl; rfl; apply Pev.nil_ptr; rfl; exact yes
  apply ZL.op rfl; exact Guard.none; rfl; rfl; apply Pev.fld; rfl; exact yes; rfl
  apply ZL.ld rfl; exact Guard.none; rfl; rfl; apply Pev.load_blk; rfl; exact yes; exact .head _; rfl; rfl
  apply ZL.op rfl; exact Guard.none; rfl; rfl; apply Pev.build; rfl; exact CellsL.agg; rfl; exact Fill.au; rfl
  apply ZL.nil
  apply TL.one rfl
  apply OL.buildSlice; rfl; rfl; rfl; exact Elems.au; rfl; rfl; (intro bk hbk; simp only [AllLe, and_true] at hbk)
  apply OL.nil
  refine At.tk (fun w hw => hw.thin ?_) ?_; exact Thin.au
  apply TL.one rfl
  apply OL.append; rfl; rfl; rfl; rfl; exact Hole.au; exact .head _; exact Take.au; rfl; rfl; exact ⟨_, .head _, Nat.le_refl _⟩; omega; intro O1 g1 cap1
  apply OL.nil
  with_reducible apply At.tn; decide +kernel
  apply TL.one rfl
  apply oop; rfl; apply Pev.nil_ptr; rfl; exact yes
  apply OL.nil
  with_reducible apply At.tn; decide +kernel
  apply TL.one rfl
  apply ofa; rfl; rfl; rfl
  apply OL.nil
  with_reducible apply At.tn; decide +kernel
  apply TL.one rfl
  apply OL.storeB; rfl; rfl; exact CellsL.one rfl; rfl; rfl; rfl; exact Swap.au; exact Put.au
  apply OL.nil
  with_reducible apply At.tn; decide +kernel
  apply TL.nil
  with_reducible apply At.np
  refine At.end_ (At.fin0 rfl (fun w' hw' => ⟨rfl, O1, some ⟨g1, 0, none⟩, cap1, ?_⟩))
  have h1 := hw'.thin (.any (fun k hk => by rw [show k = bk from hk]; exact ⟨hbk, trivial⟩) .same)
  simp only [List.length_append, List.length_singleton, cat_append]
  exact h1
theorem put_calls (bx : Nat) (s : ByteArray) (g : SS) (kind nn : Int) (t : ByteArray) (s0 w : World) (hbx : s0.heap.size ≤ bx) (hl : g.toks.length ≤ 10000) (ht : t.size ≤ 8192) (h1 : g.at_ + t.size ≤ 10000) (h2 : 0 ≤ g.col ∧ g.col ≤ 1000000) (hw : Cls (ssI s0.heap.size bx s g) [s0] w) :
    Calls Tryd.prog 11 #[.pointer (some ⟨bx, 0, none⟩), .int .i64 kind, .string t, .int .i64 nn] w fun e w' => e = .returned (.tuple #[]) ∧ ∃ O1 q1 c1, Cls (ssI s0.heap.size bx s { g with at_ := g.at_ + t.size, col := g.col + t.size, toks := g.toks ++ [⟨kind, t.data.toList, nn, g.line, g.col⟩], O1 := O1, q1 := q1, c1 := c1 }) [s0] w' := by
  refine enter Tryd.func11 rfl Tryd.ntmps11 rfl hw ?_
  unfold ssI
  (simp only [argEnv, Nat.zero_add, Nat.reduceAdd])
  apply W.seq
  apply W.regz; apply ZSplit.pure rfl; apply ZSplit.pure rfl; apply ZSplit.pure rfl; apply ZSplit.pure rfl; apply ZSplit.pure rfl; apply ZSplit.pure rfl; apply ZSplit.pure rfl; apply ZSplit.tail; apply ZSplit.pure rfl; apply ZSplit.pure rfl; apply ZSplit.pure rfl; apply ZSplit.pure rfl; apply ZSplit.pure rfl; apply ZSplit.pure rfl; apply ZSplit.pure rfl; apply ZSplit.pure rfl; apply ZSplit.pure rfl; apply ZSplit.tail; apply ZSplit.tail; apply ZSplit.tail; apply ZSplit.tail; apply ZSplit.tail; apply ZSplit.tail; exact ZSplit.nil; kernel_rfl; decide +kernel; exact fun w hw => hw.drew
  apply ZL.op rfl; exact Guard.none; rfl; rfl; apply Pev.move; rfl; exact yes
  apply ZL.op rfl; exact Guard.none; rfl; rfl; apply Pev.move; rfl; exact yes
  apply ZL.op rfl; exact Guard.none; rfl; rfl; apply Pev.nil_ptr; rfl; exact yes
  apply ZL.op rfl; exact Guard.none; rfl; rfl; apply Pev.fld; rfl; exact yes; rfl
  apply ZL.ld rfl; exact Guard.none; rfl; rfl; apply Pev.load_blk; rfl; exact yes; exact .head _; rfl; rfl
  apply ZL.op rfl; exact Guard.none; rfl; rfl; apply Pev.move; rfl; exact yes
  apply ZL.op rfl; exact Guard.none; rfl; rfl; apply Pev.move; rfl; exact yes
  apply ZL.op rfl; exact Guard.none; rfl; rfl; apply Pev.move; rfl; exact yes
  apply ZL.op rfl; exact Guard.none; rfl; rfl; apply Pev.move; rfl; exact yes
  apply ZL.op rfl; exact Guard.none; rfl; rfl; apply Pev.nil_ptr; rfl; exact yes
  apply ZL.op rfl; exact Guard.none; rfl; rfl; apply Pev.fld; rfl; exact yes; rfl
  apply ZL.ld rfl; exact Guard.none; rfl; rfl; apply Pev.load_blk; rfl; exact yes; exact .head _; rfl; rfl
  apply ZL.op rfl; exact Guard.none; rfl; rfl; apply Pev.move; rfl; exact yes
  apply ZL.op rfl; exact Guard.none; rfl; rfl; apply Pev.nil_ptr; rfl; exact yes
  apply ZL.op rfl; exact Guard.none; rfl; rfl; apply Pev.fld; rfl; exact yes; rfl
  apply ZL.ld rfl; exact Guard.none; rfl; rfl; apply Pev.load_blk; rfl; exact yes; exact .head _; rfl; rfl
  apply ZL.nil
  apply TL.one rfl
  (((first | (with_reducible apply OL.op) | (with_reducible apply QL.op)); (exact Guard.au); rfl; rfl); (exact Pev.call (v := .string t) rfl (by exact Args.au) (fun _ w2 hw2 => (cln.Clone_calls t _ _ w2 (by omega) hw2).mono (fun e w3 h => ⟨h.1, h.2⟩))))
  apply OL.nil
  with_reducible apply At.tk; exact fun w hw => hw
  apply TL.one rfl
  apply oop; rfl; apply Pev.build; rfl; exact CellsL.agg; rfl; exact Fill.au; rfl
  apply OL.nil
  with_reducible apply At.tk; exact fun w hw => hw
  apply TL.one rfl
  apply OL.buildSlice; rfl; rfl; rfl; exact Elems.au; rfl; rfl; (intro bk hbk; simp only [AllLe, and_true] at hbk)
  apply OL.nil
  refine At.tk (fun w hw => hw.thin ?_) ?_; exact Thin.au
  apply TL.one rfl
  apply OL.append; rfl; rfl; rfl; rfl; exact Hole.au; exact .head _; exact Take.au; rfl; rfl; exact ⟨_, .head _, Nat.le_refl _⟩; omega; intro O1 g1 cap1
  apply OL.nil
  with_reducible apply At.tn; decide +kernel
  apply TL.one rfl
  apply oop; rfl; apply Pev.nil_ptr; rfl; exact yes
  apply OL.nil
  with_reducible apply At.tn; decide +kernel
  apply TL.one rfl
  apply ofa; rfl; rfl; rfl
  apply OL.nil
  with_reducible apply At.tn; decide +kernel
  apply TL.one rfl
  apply OL.storeB; rfl; rfl; exact CellsL.one rfl; rfl; rfl; rfl; exact Swap.au; exact Put.au
  apply OL.nil
  with_reducible apply At.tn; decide +kernel
  apply TL.nil
  with_reducible apply At.np
  with_reducible apply At.next
  apply W.reg
  apply omv; rfl; rfl
  apply omv; rfl; rfl
  apply oop; rfl; apply Pev.len_str; rfl; exact yes; rfl
  obtain ⟨g2, hg2⟩ : ∃ g2 : SS, g2 = { g with toks := g.toks ++ [⟨kind, t.data.toList, nn, g.line, g.col⟩], O1 := O1, q1 := some ⟨g1, 0, none⟩, c1 := cap1 } := ⟨_, rfl⟩
  have htt : (⟨t.data.toList.toArray⟩ : ByteArray) = t := by
    apply ByteArray.ext
    simp
  refine OL.callE (α := Unit) (fun _ => .tuple #[]) (fun _ => True) (fun _ => Cls (ssI s0.heap.size bx s { g2 with at_ := g2.at_ + t.size, col := g2.col + t.size }) [s0]) rfl rfl (by exact Args.au) (fun w2 hw2 => ?_) ?_
  · have h3 := hw2.thin (.any (fun k hk => by rw [show k = bk from hk]; exact ⟨hbk, trivial⟩) .same)
    have h4 : Cls (ssI s0.heap.size bx s g2) [s0] w2 := by
      rw [hg2]
      unfold ssI
      simp only [List.length_append, List.length_singleton, cat_append]
      simp only [cat, tokC, htt, List.append_nil]
      exact h3
    refine (skip_calls bx s g2 t.size s0 w2 hbx (by rw [hg2]; exact h1) (by rw [hg2]; exact h2) h4).mono fun e w3 h => ⟨(), h.1, trivial, h.2⟩
  intro _ _
  apply OL.nil
  refine At.end_ (At.fin0 rfl (fun w' hw' => ⟨rfl, O1, some ⟨g1, 0, none⟩, cap1, ?_⟩))
  rw [hg2] at hw'
  exact hw'
end Go.Proofs.YtnnpheacekieaaaDoor.lt

/- The walks of the lexer's scanner: word, number. Condition: the variable bytealg.MaxLen holds some int. -/
namespace Go.Proofs.YtnnpheacekieaaaDoor.lt
open Go.RowKit Go.Eng Go.Lt Go.Sp
set_option maxRecDepth 100000
theorem max_keep {bx : Nat} {s : ByteArray} {g : SS} {s0 w : World} (hbx : s0.heap.size ≤ bx) (hm : lk.maxAt s0) (hw : Cls (ssI s0.heap.size bx s g) [s0] w) : lk.maxAt w := by
  have hml : 0 < s0.heap.size := hm.elim fun m h => cell_lt h
  refine lk.maxAt_keep hw (.head _) ?_ hm
  unfold ssI
  exact NotOwned.blk (by omega) (NotOwned.row (by omega) (NotOwned.row (by omega) .nil))
theorem word_calls (bx : Nat) (s : ByteArray) (g : SS) (kind : Int) (t : ByteArray) (s0 w : World) (hm : lk.maxAt s0) (hbx : s0.heap.size ≤ bx) (hl : g.toks.length ≤ 10000) (ht : t.size ≤ 8192) (h1 : g.at_ + t.size ≤ 10000) (h2 : 0 ≤ g.col ∧ g.col ≤ 1000000) (hw : Cls (ssI s0.heap.size bx s g) [s0] w) :
    Calls Tryd.prog 17 #[.pointer (some ⟨bx, 0, none⟩), .int .i64 kind, .string t] w fun e w' => e = .returned (.tuple #[]) ∧ ∃ O1 q1 c1, Cls (ssI s0.heap.size bx s { g with at_ := g.at_ + t.size, col := g.col + t.size, toks := g.toks ++ [⟨if Kw.kw t.data.toList then 4 else kind, t.data.toList, 0, g.line, g.col⟩], O1 := O1, q1 := q1, c1 := c1 }) [s0] w' := by
  refine enter Tryd.func17 rfl Tryd.ntmps17 rfl hw ?_
  (simp only [argEnv, Nat.zero_add, Nat.reduceAdd])
  apply W.seq
  apply W.sr
  apply omv; rfl; rfl
  (((first | (with_reducible apply OL.op) | (with_reducible apply QL.op)); (exact Guard.au); rfl; rfl); (exact Pev.call (v := .bool (Kw.kw t.data.toList)) rfl (by exact Args.au) (fun _ w2 hw2 => (lk.Keyword_calls t (by omega) w2 (max_keep hbx hm hw2)).mono (fun e w3 h => ⟨h.1, hw2.ext h.2⟩))))
  apply OL.nx
  refine W.cond rfl (fun hk => ?_) (fun hk => ?_)
  · apply W.reg
    apply oas; rfl; rfl
    apply OL.nx
    apply W.reg
    apply omv; rfl; rfl
    apply omv; rfl; rfl
    apply omv; rfl; rfl
    refine OL.callE (α := (Nat → Prop) × Option Addr × Nat) (fun _ => .tuple #[]) (fun _ => True) (fun z => Cls (ssI s0.heap.size bx s { g with at_ := g.at_ + t.size, col := g.col + t.size, toks := g.toks ++ [⟨4, t.data.toList, 0, g.line, g.col⟩], O1 := z.1, q1 := z.2.1, c1 := z.2.2 }) [s0]) rfl rfl (by exact Args.au) (fun w2 hw2 => (put_calls bx s g 4 0 t s0 w2 hbx hl ht h1 h2 hw2).mono fun e w3 ⟨h, O1, q1, c1, h3⟩ => ⟨(O1, q1, c1), h, trivial, h3⟩) ?_
    rintro ⟨O1, q1, c1⟩ _
    apply OL.nil
    exact At.end_ (At.fin0 rfl (fun w' hw' => ⟨rfl, O1, q1, c1, by rw [hk]; exact hw'⟩))
  · apply W.sk
    apply W.reg
    apply omv; rfl; rfl
    apply omv; rfl; rfl
    apply omv; rfl; rfl
    refine OL.callE (α := (Nat → Prop) × Option Addr × Nat) (fun _ => .tuple #[]) (fun _ => True) (fun z => Cls (ssI s0.heap.size bx s { g with at_ := g.at_ + t.size, col := g.col + t.size, toks := g.toks ++ [⟨kind, t.data.toList, 0, g.line, g.col⟩], O1 := z.1, q1 := z.2.1, c1 := z.2.2 }) [s0]) rfl rfl (by exact Args.au) (fun w2 hw2 => (put_calls bx s g kind 0 t s0 w2 hbx hl ht h1 h2 hw2).mono fun e w3 ⟨h, O1, q1, c1, h3⟩ => ⟨(O1, q1, c1), h, trivial, h3⟩) ?_
    rintro ⟨O1, q1, c1⟩ _
    apply OL.nil
    exact At.end_ (At.fin0 rfl (fun w' hw' => ⟨rfl, O1, q1, c1, by rw [hk]; exact hw'⟩))
theorem ext_tw (p : UInt8 → Bool) (s : ByteArray) (k : Nat) : (s.extract k (k + twL p s k)).data.toList = (s.data.toList.drop k).takeWhile p := by
  unfold twL
  rw [ByteArray.data_extract, Array.toList_extract]
  simp only [List.extract_eq_take_drop]
  rw [Nat.add_sub_cancel_left]
  exact (List.prefix_iff_eq_take.1 (List.takeWhile_prefix p)).symm
theorem ext_size (p : UInt8 → Bool) (s : ByteArray) (k : Nat) : (s.extract k (k + twL p s k)).size = twL p s k := by
  rw [← ByteArray.size_data, ← Array.length_toList, ext_tw]
  rfl
theorem tw_bound (p : UInt8 → Bool) (s : ByteArray) (k : Nat) (h : k ≤ s.size) : k + twL p s k ≤ s.size := by
  have h1 : twL p s k ≤ (s.data.toList.drop k).length := tw_le p (s.data.toList.drop k)
  have h3 : s.data.toList.length = s.size := by rw [Array.length_toList]; rfl
  rw [List.length_drop, h3] at h1
  omega
theorem tw_all {p : UInt8 → Bool} : ∀ {l : Bs} {c : UInt8}, c ∈ l.takeWhile p → p c = true
  | [], c, h => by cases h
  | a :: l, c, h => by
    rw [List.takeWhile_cons] at h
    by_cases ha : p a = true
    · rw [if_pos ha] at h
      rcases List.mem_cons.1 h with rfl | h
      · exact ha
      · exact tw_all h
    · rw [if_neg ha] at h
      cases h
theorem number_calls (bx : Nat) (s : ByteArray) (g : SS) (s0 w : World) (hbx : s0.heap.size ≤ bx) (hs : s.size ≤ 8192) (hat : g.at_ ≤ s.size) (hl : g.toks.length ≤ 10000) (hl2 : g.bads.length ≤ 10000) (h2 : 0 ≤ g.col ∧ g.col ≤ 1000000) (hw : Cls (ssI s0.heap.size bx s g) [s0] w) (t : Bs) (ht : (s.data.toList.drop g.at_).takeWhile digit = t) :
    Calls Tryd.prog 22 #[.pointer (some ⟨bx, 0, none⟩)] w fun e w' => e = .returned (.tuple #[]) ∧ ∃ O1 q1 c1 O2 q2 c2, Cls (ssI s0.heap.size bx s { g with at_ := g.at_ + t.length, col := g.col + t.length, toks := g.toks ++ [⟨2, t, if big t then 0 else (numV t : Int), g.line, g.col⟩], bads := g.bads ++ (if big t then [⟨4, g.line, g.col⟩] else []), O1 := O1, q1 := q1, c1 := c1, O2 := O2, q2 := q2, c2 := c2 }) [s0] w' := by
  refine enter Tryd.func22 rfl Tryd.ntmps22 rfl hw ?_
  (simp only [argEnv, Nat.zero_add, Nat.reduceAdd])
  apply W.sr
  apply omv; rfl; rfl
  have hte : s.extract g.at_ (g.at_ + twL digit s g.at_) = ⟨t.toArray⟩ := by
    apply ByteArray.ext
    apply Array.toList_inj.1
    rw [ext_tw, ht]
  have htl : t.length = twL digit s g.at_ := by rw [← ht]; rfl
  have htb := tw_bound digit s g.at_ hat
  have htd : ∀ c ∈ t, digit c = true := fun c hc => by
    rw [← ht] at hc
    exact tw_all hc
  obtain ⟨tb, htb2⟩ : ∃ tb : ByteArray, tb = ⟨t.toArray⟩ := ⟨_, rfl⟩
  have htbd : tb.data.toList = t := by rw [htb2]
  have htbs : tb.size = t.length := by rw [htb2]; rfl
  (((first | (with_reducible apply OL.op) | (with_reducible apply QL.op)); (exact Guard.au); rfl; rfl); (refine Pev.call (v := .string tb) rfl (by exact Args.au) (fun _ w2 hw2 => ?_)))
  · have i0 := hw2.item (i := blk bx 39 [.string s, .int .i64 (g.at_ : Int), .int .i64 g.line, .int .i64 g.col, .slice g.q1 g.toks.length g.c1, .slice g.q2 g.bads.length g.c2]) (.head _)
    refine (run_calls bx s g.at_ 21 digit w2 hs hat (blk_lt i0) (blk_cell i0) (blk_cell i0) (by kernel_rfl) (fun c w' _ => by simp only [List.nil_append, List.append_nil]; exact digit_calls c w')).mono (fun e w3 h => ⟨by rw [h.1, hte, htb2], hw2.ext h.2⟩)
  apply oas; rfl; rfl
  apply OL.nsr
  apply oas; rfl; rfl
  apply OL.nx
  apply W.seq
  apply W.sr
  apply omv; rfl; rfl
  apply oop; rfl; apply Pev.len_str; rfl; exact yes; rfl
  apply omv; rfl; rfl
  apply OL.nx
  apply W.block
  refine W.loop (G := Nat) (fun i => i ≤ tb.size) (fun i => tb.size - i)
    (fun i => [(9, true, .int .i64 (i : Int)), (8, true, .int .i64 (tb.size : Int)), (2, true, .string tb), (3, true, .int .i64 (numP (t.take i) : Int)), (0, true, .pointer (some ⟨bx, 0, none⟩))])
    (fun i => Cls (ssI s0.heap.size bx s g) [s0]) 0 (Nat.zero_le _) (by exact Sub.au) (fun w' hw' => hw') ?_
  intro i hi
  apply W.sr
  apply obn; rfl; rfl; rfl; apply Bin.lss
  apply OL.nx
  apply W.seq
  (refine W.cnd (fun hlt => ?_) (fun hlt => ?_)) <;> (try (exfalso; first | omega | exact hlt trivial | contradiction))
  · obtain ⟨c, hc1, hc2⟩ := bt_get (show i < tb.size by omega)
    rw [htbd] at hc1
    have hcd := htd c (List.mem_of_getElem? hc1)
    have hcd2 : 48 ≤ c.toNat ∧ c.toNat ≤ 57 := by
      unfold Lt.digit at hcd
      rw [Bool.and_eq_true, decide_eq_true_eq, decide_eq_true_eq] at hcd
      exact hcd
    have hpb : numP (t.take i) ≤ 1073741824 := by rw [numP_eq]; omega
    have hps : numP (t.take (i + 1)) = min (10 * numP (t.take i) + (c.toNat - 48)) 1073741824 := by
      rw [List.take_add_one, hc1]
      exact numP_snoc _ _
    have hw1 : IntKind.i64.wrap (IntKind.u8.wrap (bt tb i - 48)) = ((c.toNat - 48 : Nat) : Int) := by
      rw [hc2, IntKind.wrap_u8, IntKind.wrap_i64]
      omega
    have hw2 : IntKind.i64.wrap ((numP (t.take i) : Int) * 10 + ((c.toNat - 48 : Nat) : Int)) = ((10 * numP (t.take i) + (c.toNat - 48) : Nat) : Int) := by
      rw [IntKind.wrap_i64]
      omega
    have hw3 : (if (1073741824 : Int) < ((10 * numP (t.take i) + (c.toNat - 48) : Nat) : Int) then (1073741824 : Int) else ((10 * numP (t.take i) + (c.toNat - 48) : Nat) : Int)) = (numP (t.take (i + 1)) : Int) := by
      rw [hps]
      split <;> omega
    apply W.sk
    apply W.sb
    apply W.sr
    apply omv; rfl; rfl
    apply oas; rfl; rfl
    apply OL.nx
    apply W.reg
    apply omv; rfl; rfl
    apply obn; rfl; rfl; rfl; apply Bin.mul_in; omega
    apply omv; rfl; rfl
    apply omv; rfl; rfl
    apply oop; rfl; apply Pev.index_str; rfl; exact yes; rfl; exact yes; rfl; (intro hcond; refine ⟨rfl, ?_⟩); omega
    apply obn; rfl; rfl; rfl; apply Bin.sub
    apply oop; rfl; apply Pev.conv_int; rfl; exact yes; rfl; rfl
    apply obn; rfl; rfl; rfl; apply Bin.add_in; omega
    apply oop; rfl; apply Pev.min2; rfl; exact yes; rfl; exact yes
    apply oas; rfl; rfl
    apply OL.nil
    with_reducible apply At.in_normal
    with_reducible apply At.next
    apply W.reg
    apply obn; rfl; rfl; rfl; apply Bin.add_in; omega
    apply omv; rfl; rfl
    apply OL.nil
    rw [hw1]
    first | rw [hw2, hw3] | rw [show ((numP (t.take i) : Int) * 10 + ((c.toNat - 48 : Nat) : Int)) = ((10 * numP (t.take i) + (c.toNat - 48) : Nat) : Int) by omega, hw3]
    exact At.again (i + 1) (by omega) (by omega) (by exact Sub.au) (fun w' hw' => hw')
  · obtain rfl : i = tb.size := by omega
    rw [htbs, List.take_length]
    have hnv : (1073741823 : Int) < (numP t : Int) ↔ big t = true := by
      unfold big
      rw [decide_eq_true_eq, numP_eq]
      omega
    refine W.xt ?_
    with_reducible apply At.next
    apply W.seq
    apply W.sr
    apply omv; rfl; rfl
    apply obn; rfl; rfl; rfl; apply Bin.gtr
    apply OL.nx
    (refine W.cnd (fun hbig => ?_) (fun hbig => ?_)) <;> (try (exfalso; first | omega | exact hbig trivial | contradiction))
    · have hb : big t = true := hnv.1 hbig
      rw [hb]
      apply W.sr
      apply omv; rfl; rfl
      refine OL.callE (α := (Nat → Prop) × Option Addr × Nat) (fun _ => .tuple #[]) (fun _ => True) (fun z => Cls (ssI s0.heap.size bx s { g with bads := g.bads ++ [⟨4, g.line, g.col⟩], O2 := z.1, q2 := z.2.1, c2 := z.2.2 }) [s0]) rfl rfl (by exact Args.au) (fun w2 hw2 => (fail_calls bx s g 4 s0 w2 hbx hl2 hw2).mono fun e w3 ⟨h, O1, q1, c1, h3⟩ => ⟨(O1, q1, c1), h, trivial, h3⟩) ?_
      rintro ⟨O2, q2, c2⟩ _
      obtain ⟨g2, hg2⟩ : ∃ g2 : SS, g2 = { g with bads := g.bads ++ [⟨4, g.line, g.col⟩], O2 := O2, q2 := q2, c2 := c2 } := ⟨_, rfl⟩
      simp only
      rw [← hg2]
      apply OL.nx
      apply W.reg
      apply oas; rfl; rfl
      apply OL.nx
      apply W.reg
      apply omv; rfl; rfl
      apply omv; rfl; rfl
      apply omv; rfl; rfl
      refine OL.callE (α := (Nat → Prop) × Option Addr × Nat) (fun _ => .tuple #[]) (fun _ => True) (fun z => Cls (ssI s0.heap.size bx s { g2 with at_ := g2.at_ + tb.size, col := g2.col + tb.size, toks := g2.toks ++ [⟨2, tb.data.toList, 0, g2.line, g2.col⟩], O1 := z.1, q1 := z.2.1, c1 := z.2.2 }) [s0]) rfl rfl (by exact Args.au) (fun w2 hw2 => (put_calls bx s g2 2 0 tb s0 w2 hbx (by rw [hg2]; exact hl) (by omega) (by rw [hg2]; show g.at_ + tb.size ≤ 10000; omega) (by rw [hg2]; exact h2) hw2).mono fun e w3 ⟨h, O1, q1, c1, h3⟩ => ⟨(O1, q1, c1), h, trivial, h3⟩) ?_
      rintro ⟨O1, q1, c1⟩ _
      apply OL.nil
      refine At.end_ (At.fin0 rfl (fun w' hw' => ⟨rfl, O1, q1, c1, O2, q2, c2, ?_⟩))
      rw [hg2, htbs, htbd] at hw'
      exact hw'
    · have hb : big t = false := by
        rw [← Bool.not_eq_true]
        exact fun h => absurd (hnv.2 h) (by omega)
      have hnp : (numP t : Int) = (numV t : Int) := by
        rw [numP_eq] at hbig ⊢
        omega
      rw [hnp, hb]
      apply W.sk
      apply W.reg
      apply omv; rfl; rfl
      apply omv; rfl; rfl
      apply omv; rfl; rfl
      refine OL.callE (α := (Nat → Prop) × Option Addr × Nat) (fun _ => .tuple #[]) (fun _ => True) (fun z => Cls (ssI s0.heap.size bx s { g with at_ := g.at_ + tb.size, col := g.col + tb.size, toks := g.toks ++ [⟨2, tb.data.toList, (numV t : Int), g.line, g.col⟩], O1 := z.1, q1 := z.2.1, c1 := z.2.2 }) [s0]) rfl rfl (by exact Args.au) (fun w2 hw2 => (put_calls bx s g 2 (numV t : Int) tb s0 w2 hbx hl (by omega) (by omega) h2 hw2).mono fun e w3 ⟨h, O1, q1, c1, h3⟩ => ⟨(O1, q1, c1), h, trivial, h3⟩) ?_
      rintro ⟨O1, q1, c1⟩ _
      apply OL.nil
      refine At.end_ (At.fin0 rfl (fun w' hw' => ⟨rfl, O1, q1, c1, g.O2, g.q2, g.c2, ?_⟩))
      rw [htbs, htbd] at hw'
      simpa using hw'
end Go.Proofs.YtnnpheacekieaaaDoor.lt
