/- Slices over a block of the call's own that is changed in place: append within its room, clear; slices in two and three numbers; min; loads of several cells that the class tells. General. No condition. -/
import Derived.Test.YtlboppiogeaicaaDoorCat
import Derived.Test.YtlboppiogeaicaaDoorGrid
import Derived.Test.YtlboppiogeaicaaDoorGat
import Derived.Test.YtlboppiogeaicaaDoorReg
import Derived.Laws.Slices
import Derived.Laws.Small
namespace Go.Eng
open Go.RowKit
set_option linter.unusedVariables false
set_option linter.unusedSimpArgs false
section
variable {P : Program} {n : Nat} {l : Env} {H : List Item} {S : List World} {C : World → Prop} {c : Bool} {d : Option Nat} {ty : TypeId} {pos : String} {af : Array Edge} {g : Option (Nat × Bool)}
variable {ops : Array Oper} {rest : List Oper} {Q : Exit → Act → World → Prop} {t : TypeId} {x y z u : Operand} {cx cy cz cu : Bool}

theorem slElem_both {e : TypeId} {sz : Nat} (hu : slElem P t = some (e, sz)) : P.underlying t = some (.slice e) ∧ sizeN P e = some sz := by
  unfold slElem at hu
  cases h1 : P.underlying t with
  | none => simp [h1] at hu
  | some d1 =>
    rw [h1] at hu
    cases d1 <;> simp only [reduceCtorEq] at hu
    rename_i e'
    cases h2 : sizeN P e' with
    | none => simp [h2] at hu
    | some k' =>
      rw [h2] at hu
      simp only [Option.some.injEq, Prod.mk.injEq] at hu
      obtain ⟨rfl, rfl⟩ := hu
      exact ⟨rfl, h2⟩
theorem elem_eq {e : TypeId} (h : P.underlying t = some (.slice e)) : P.elem t = e := by simp [Program.elem, h]

theorem Pev.load_clsA {q : Addr} {vs : List Value} {k : Nat} (hx : evl l x = some (cx, .pointer (some q))) (hcx : c = true → cx = true) (hs : aggN P t = some k) (hk : vs.length = k) (hv : c = true → ∀ w, C w → CellsAt w q vs) :
    Pev P n l C ⟨d, .load t x, ty, pos, af, g⟩ c (.agg vs.toArray) :=
  .load_of hx hcx fun h w hw => run_loadVar_agg (by rw [hk]; exact hs) (hv h w hw)
theorem Pev.slice_lh {e : TypeId} {sz len cp i j : Nat} {k k' : IntKind} {a b : Int} {q : Option Addr} (hx : evl l x = some (cx, .slice q len cp)) (hcx : c = true → cx = true) (hy : evl l y = some (cy, .int k a)) (hcy : c = true → cy = true)
    (hz : evl l z = some (cz, .int k' b)) (hcz : c = true → cz = true) (hu : slElem P t = some (e, sz)) (ha : a = (i : Int)) (hb : b = (j : Int)) (hr : c = true → i ≤ j ∧ j ≤ cp) :
    Pev P n l C ⟨d, .slice t x (some y) (some z) none, ty, pos, af, g⟩ c (.slice (cutq q cp i sz) (j - i) (cp - i)) :=
  .of_run fun h a w hs hw => by
    subst ha
    subst hb
    obtain ⟨h1, h2⟩ := hr h
    obtain ⟨hus, hsz⟩ := slElem_both hu
    simp only [execOp, hs.eval hx (hcx h), Option.map_some, Option.map_none, hs.eval hy (hcy h), hs.eval hz (hcz h), Instr.sliceAt, Instr.slice, Sem.run_bind, run_underlying hus, Result.andThen_ok, Instr.sliceBounds, Instr.sliceBound, asIntOf, Sem.run_pure, run_sizeN hsz]
    simp [h1, h2, cutq]
theorem Pev.slice_lhm {e : TypeId} {sz len cp i j m : Nat} {k k' k'' : IntKind} {a b e3 : Int} {q : Option Addr} (hx : evl l x = some (cx, .slice q len cp)) (hcx : c = true → cx = true) (hy : evl l y = some (cy, .int k a)) (hcy : c = true → cy = true)
    (hz : evl l z = some (cz, .int k' b)) (hcz : c = true → cz = true) (hm : evl l u = some (cu, .int k'' e3)) (hcm : c = true → cu = true) (hu : slElem P t = some (e, sz)) (ha : a = (i : Int)) (hb : b = (j : Int)) (hm3 : e3 = (m : Int)) (hr : c = true → i ≤ j ∧ j ≤ m ∧ m ≤ cp) :
    Pev P n l C ⟨d, .slice t x (some y) (some z) (some u), ty, pos, af, g⟩ c (.slice (cutq q m i sz) (j - i) (m - i)) :=
  .of_run fun h a w hs hw => by
    subst ha
    subst hb
    subst hm3
    obtain ⟨h1, h2, h3⟩ := hr h
    obtain ⟨hus, hsz⟩ := slElem_both hu
    simp only [execOp, hs.eval hx (hcx h), Option.map_some, Option.map_none, hs.eval hy (hcy h), hs.eval hz (hcz h), hs.eval hm (hcm h), Instr.sliceAt, Instr.slice, Sem.run_bind, run_underlying hus, Result.andThen_ok, Instr.sliceBounds, Instr.sliceBound, asIntOf, Sem.run_pure, run_sizeN hsz]
    simp [h1, h2, h3, cutq]
theorem Pev.min2 {k k' : IntKind} {a b : Int} {ats : Array TypeId} (hx : evl l x = some (cx, .int k a)) (hcx : c = true → cx = true) (hy : evl l y = some (cy, .int k' b)) (hcy : c = true → cy = true) :
    Pev P n l C ⟨d, .call { callee := .builtin .min, args := #[x, y], argTypes := ats }, ty, pos, af, g⟩ c (.int k (if b < a then b else a)) :=
  .of_run fun h ac w hs hw => by
    have hr := run_min_int2 (P := P) w ats ty k k' a b
    simp [execOp, resolve, invoke, builtin, hs.eval hx (hcx h), hs.eval hy (hcy h), hr]
theorem Pev.max2 {k k' : IntKind} {a b : Int} {ats : Array TypeId} (hx : evl l x = some (cx, .int k a)) (hcx : c = true → cx = true) (hy : evl l y = some (cy, .int k' b)) (hcy : c = true → cy = true) :
    Pev P n l C ⟨d, .call { callee := .builtin .max, args := #[x, y], argTypes := ats }, ty, pos, af, g⟩ c (.int k (if a < b then b else a)) :=
  .of_run fun h ac w hs hw => by
    have hr := run_max_int2 (P := P) w ats ty k k' a b
    simp [execOp, resolve, invoke, builtin, hs.eval hx (hcx h), hs.eval hy (hcy h), hr]

/-- an array's literal -/
theorem Pev.buildArr {parts : List (Nat × Operand)} {zv : Value} {cs cs' : List Value} {len k : Nat} (hz : zeroV P t = some zv) (hcs : CellsL zv cs) (hu : arrElem P t = some (len, k)) (hf : Fill l (fun i => some (i * k, k)) cs parts cs') (hc : c = true) :
    Pev P n l C ⟨d, .build t parts.toArray, ty, pos, af, g⟩ c (.agg cs'.toArray) :=
  .of_run fun h a w hs hw => by
    unfold arrElem at hu
    cases h1 : P.underlying t with
    | none => simp [h1] at hu
    | some d1 =>
      rw [h1] at hu
      cases d1 <;> simp only [reduceCtorEq] at hu
      rename_i len' e'
      cases h2 : sizeN P e' with
      | none => simp [h2] at hu
      | some k' =>
        rw [h2] at hu
        simp only [Option.some.injEq, Prod.mk.injEq] at hu
        obtain ⟨rfl, rfl⟩ := hu
        have hrun := hf.run hs
        have hparts : (parts.toArray.map fun p => (p.1, a.eval p.2)).toList = parts.map fun p => (p.1, a.eval p.2) := by simp
        simp only [execOp, Instr.build, Sem.run_bind, run_zeroV hz, Result.andThen_ok, run_underlying h1, run_sizeN h2, hcs.eq]
        rw [hparts, hrun]
        rfl
theorem oneL_zero {z : Value} {zs : List Value} (hz : CellsL z zs) (h1 : oneL zs = true) (m : Nat) : oneL (Builtin.zeroCells z.cells m).toList = true := by
  have key : ∀ (xs : List Value), (∀ v ∈ xs, v.oneCell' = true) → oneL xs = true := by
    intro xs
    induction xs with
    | nil => intro _; rfl
    | cons v r ih => intro h; rw [oneL, h v (.head _), ih (fun u hu => h u (.tail _ hu))]; rfl
  refine key _ fun v hv => ?_
  rw [hz.eq] at hv
  simp only [Builtin.zeroCells, Array.toList_map, List.mem_map] at hv
  obtain ⟨i, hi, rfl⟩ := hv
  simp only [Array.toList_range, List.mem_range, List.size_toArray] at hi
  have hpos : 0 < zs.length := by
    rcases Nat.eq_zero_or_pos zs.length with h0 | h0
    · rw [h0] at hi; omega
    · exact h0
  have hlt : i % zs.toArray.size < zs.length := by simpa using Nat.mod_lt i hpos
  rw [getElem!_pos zs.toArray _ (by simpa using hlt)]
  exact oneL_mem h1 _ (by simp)
theorem putL_take : ∀ (vs cs : List Value) (o : Nat), (putL cs o vs).take o = cs.take o
  | [], cs, o => rfl
  | v :: vs, cs, o => by
    rw [putL]
    have h := putL_take vs (cs.set o v) (o + 1)
    have h2 := congrArg (List.take o) h
    rw [List.take_take, List.take_take, Nat.min_eq_left (by omega)] at h2
    rw [h2, List.take_set_of_le (Nat.le_refl _)]
theorem set_same {α : Type} {H : List α} {p : Nat} {i : α} (h : H[p]? = some i) : H.set p i = H := by
  obtain ⟨hlt, rfl⟩ := List.getElem?_eq_some_iff.1 h
  exact List.set_getElem_self hlt
theorem putL_drop {vs cs : List Value} {o m : Nat} (hf : o + vs.length ≤ cs.length) (h : o + vs.length ≤ m) : (putL cs o vs).drop m = cs.drop m := by
  rw [putL_eq _ _ _ hf, List.drop_append, List.drop_append, List.drop_of_length_le (by simp; omega), List.drop_of_length_le (l := vs) (by simp; omega), List.drop_drop]
  simp only [List.nil_append, List.length_append, List.length_take]
  congr 1
  omega
theorem putL_take2 {vs cs : List Value} {o : Nat} (hf : o + vs.length ≤ cs.length) : (putL cs o vs).take (o + vs.length) = cs.take o ++ vs := by
  rw [putL_eq _ _ _ hf, List.take_append_of_le_length (by simp; omega), List.take_of_length_le (by simp; omega)]
/-- clear, at a part of a block: what stands ahead of it stays -/
theorem OL.clear {e : TypeId} {sz m cp b o p : Nat} {q : Option Addr} {zv : Value} {zs cs : List Value} {t' : TypeId} {F : Item → List Item} (hx : evl l x = some (true, .slice q m cp)) (hu : slElem P t = some (e, sz)) (hz : zeroV P e = some zv) (hzs : CellsL zv zs) (hz1 : oneL zs = true) (hzl : zs.length = sz)
    (hH : Hole p H (blk b t' cs) F) (hq : 0 < m → q = some ⟨b, o, none⟩ ∧ o + m * sz ≤ cs.length)
    (k : ∀ cs' : List Value, cs'.length = cs.length → cs'.take o = cs.take o → OL P n ops Q rest l (Cls (F (blk b t' cs')) S)) :
    OL P n ops Q (⟨none, .call { callee := .builtin .clear, args := #[x], argTypes := #[t] }, ty, pos, af, none⟩ :: rest) l (Cls H S) := by
  obtain ⟨hp, hF⟩ := hH.eq
  obtain ⟨hus, hsz⟩ := slElem_both hu
  rcases Nat.eq_zero_or_pos m with rfl | hm
  · have k0 := k cs rfl rfl
    rw [hF, set_same hp] at k0
    refine ⟨fun a w hs hc => ?_⟩
    refine wpList_plain rfl fun K hK => ?_
    show Oper.upon P _ a K Q ((execOp a.eval _).run P w)
    have hr : (Builtin.clear_ #[t] ty #[.slice q 0 cp]).run P w = .ok (.tuple #[]) w := by
      cases q <;> simp [Builtin.clear_, run_underlying hus]
    simp only [execOp, resolve, invoke, builtin, Sem.run_bind, Sem.run_pure, Result.andThen_ok, List.map_toArray, List.map_cons, List.map_nil, hs.eval hx rfl, hr]
    exact hK _ _ (k0.run a w hs hc)
  · obtain ⟨rfl, hfit⟩ := hq hm
    have hzc : (Builtin.zeroCells zv.cells m).size = m * sz := by rw [size_zeroCells, hzs.eq, List.size_toArray, hzl]
    have k0 := k (putL cs o (Builtin.zeroCells zv.cells m).toList) (putL_length' _ _ _) (putL_take _ _ _)
    rw [hF] at k0
    refine ⟨fun a w hs hc => ?_⟩
    refine wpList_plain rfl fun K hK => ?_
    show Oper.upon P _ a K Q ((execOp a.eval _).run P w)
    obtain ⟨w', hr, hh, hkp⟩ := run_storeCells_blk (P := P) (o := o) (Builtin.zeroCells zv.cells m).toList 0 cs w (hc.item (List.mem_of_getElem? hp)) (by simp [hzc]; omega) (oneL_zero hzs hz1 m)
    have hr2 : (Builtin.clear_ #[t] ty #[.slice (some ⟨b, o, none⟩) m cp]).run P w = .ok (.tuple #[]) w' := by
      cases m with
      | zero => omega
      | succ m =>
        simp only [Builtin.clear_, List.getElem?_toArray, List.getElem?_cons_zero, Sem.run_bind, run_underlying hus, Result.andThen_ok, run_zeroV hz, hr, Sem.run_pure]
    simp only [execOp, resolve, invoke, builtin, Sem.run_bind, Sem.run_pure, Result.andThen_ok, List.map_toArray, List.map_cons, List.map_nil, hs.eval hx rfl, hr2]
    refine hK _ _ (k0.run a w' hs (hc.turn p hp (j := blk b t' (putL cs o (Builtin.zeroCells zv.cells m).toList)) hkp hh (fun q hq => ?_) (fun q hq => hq)))
    have hq' : q = b := hq
    subst hq'
    exact ⟨.inl rfl, Nat.lt_of_lt_of_le (hc.lt _ (List.mem_of_getElem? hp) q rfl) hkp.size⟩
/-- append within the room of a block of the call's own; the source may lie in that block -/
theorem OL.appendIn {e : TypeId} {dd sz b sLen sCap m cp p : Nat} {ad : Addr} {cs news : List Value} {F : Item → List Item} (hx : evl l x = some (true, .slice (some ⟨b, 0, none⟩) sLen sCap)) (hy : evl l y = some (true, .slice (some ad) m cp)) (hn : Nat.ble (dd + 1) n = true) (hu : slElem P t = some (e, sz))
    (hH : Hole p H (blk b e cs) F) (hsrc : ∀ w, Cls H S w → CellsAt w ad news) (hl : news.length = m * sz) (h1 : oneL news = true) (hroom : sLen + m ≤ sCap) (hfit : sLen * sz + news.length ≤ cs.length)
    (k : OL P n ops Q rest ((dd, true, .slice (some ⟨b, 0, none⟩) (sLen + m) sCap) :: l) (Cls (F (blk b e (cs.take (sLen * sz) ++ news ++ cs.drop (sLen * sz + news.length)))) S)) :
    OL P n ops Q (⟨some dd, .call { callee := .builtin .append, args := #[x, y], argTypes := #[t, t] }, ty, pos, af, none⟩ :: rest) l (Cls H S) := by
  obtain ⟨hp, hF⟩ := hH.eq
  rw [hF] at k
  obtain ⟨hus, hsz⟩ := slElem_both hu
  obtain ⟨i, hi, his⟩ := sizeN_info hsz
  have hn' := Nat.le_of_ble_eq_true hn
  refine ⟨fun a w hs hc => ?_⟩
  refine wpList_plain rfl fun K hK => ?_
  show Oper.upon P _ a K Q ((execOp a.eval _).run P w)
  have hg : w.heap[b]? = some (.cells cs.toArray e (0, 0)) := hc.item (List.mem_of_getElem? hp)
  have hr := run_append_room (P := P) w t ty e i hus hi b sLen sCap cs.toArray hg ad m cp news (by rw [his]; exact hl) (hsrc w hc) (oneL_mem h1) hroom (by rw [his]; simpa using hfit)
  simp only [execOp, resolve, invoke, builtin, Sem.run_bind, Sem.run_pure, Result.andThen_ok, List.map_toArray, List.map_cons, List.map_nil, hs.eval hx rfl, hs.eval hy rfl, hr]
  rw [his]
  refine hK _ _ (k.run _ _ (hs.put hn' true _) ?_)
  refine hc.turn p hp (j := blk b e (cs.take (sLen * sz) ++ news ++ cs.drop (sLen * sz + news.length))) ⟨rfl, rfl, rfl, by simp [World.setRow], fun k hk hne => setRow_other w b k _ (fun e => hne e)⟩ ?_ (fun q hq => ?_) (fun q hq => hq)
  · exact setRow_heap w b cs.toArray _ e _ hg
  · have hq' : q = b := hq
    subst hq'
    exact ⟨.inl rfl, by
      have := hc.lt _ (List.mem_of_getElem? hp) q rfl
      simpa [World.setRow] using this⟩
theorem Ext_keep {w w0 w' : World} {b : Nat} (h : Ext w w0) (hk : Keep (fun k => k = b) w0 w') (hb : w.heap.size ≤ b) : Ext w w' :=
  ⟨hk.os.trans h.os, hk.tape.trans h.tape, hk.output.trans h.output, Nat.le_trans h.size hk.size, fun k hk' _ => (hk.block k (Nat.lt_of_lt_of_le hk' h.size) (fun e => by subst e; omega)).trans (h.block k hk' id)⟩
/-- append to a new empty slice: a copy -/
theorem OL.appendNew {e : TypeId} {dd sz bb b m cp : Nat} {ad : Addr} {news : List Value} (hx : evl l x = some (true, .slice (some ⟨b, 0, none⟩) 0 0)) (hy : evl l y = some (true, .slice (some ad) m cp)) (hn : Nat.ble (dd + 1) n = true) (hu : rowElem P t = some (e, sz, bb))
    (hb : blk b e [] ∈ H) (hsrc : ∀ w, Cls H S w → CellsAt w ad news) (hl : news.length = m * sz) (h1 : oneL news = true) (hlim : m ≤ maxLen ∧ m * bb ≤ 140737488355328)
    (k : ∀ (q' : Option Addr) (cap' : Nat), OL P n ops Q rest ((dd, true, .slice q' m cap') :: l) (fun w' => ∃ w0, Cls H S w0 ∧ Keep (fun k => k = b) w0 w' ∧ w'.ownsRow b e sz (.slice q' m cap') m news)) :
    OL P n ops Q (⟨some dd, .call { callee := .builtin .append, args := #[x, y], argTypes := #[t, t] }, ty, pos, af, none⟩ :: rest) l (Cls H S) := by
  refine OL.newT (α := Option Addr × Nat) (C' := fun r w' => ∃ w0, Cls H S w0 ∧ Keep (fun k => k = b) w0 w' ∧ w'.ownsRow b e sz (.slice r.1 m r.2) m news) rfl rfl hn (fun r => .slice r.1 m r.2) (fun a w hs' hc => ?_) (fun r => k r.1 r.2)
  obtain ⟨i, z, g1, g2, g3, g4, g5, g6, g7⟩ := rowElem_spec hu
  have hblk := hc.item hb
  have hbl := blk_lt hblk
  have hown : w.ownsRow b e sz (.slice (some ⟨b, 0, none⟩) 0 0) 0 [] := ⟨by simp, .inr ⟨b, 0, #[], rfl, Nat.le_refl _, hblk, Nat.le_refl _, by simp [maxLen], by simp, by simp⟩⟩
  obtain ⟨v', w', hr, h2, h3, h4, h5⟩ := run_append_own_at (P := P) (w := w) b t ty e i z sz bb g1 g2 g3 g4 g5 g6 g7 _ 0 [] hown ad m cp news hl (hsrc w hc) (oneL_mem h1) (by rw [Nat.zero_add]; exact hlim.1) (by rw [Nat.zero_add]; exact hlim.2) (by omega)
  rw [Nat.zero_add, List.nil_append] at h2
  have hv : ∃ q' cap', v' = .slice q' m cap' := by
    rcases h2.2 with ⟨rfl, rfl⟩ | ⟨g', cap', cur, rfl, _⟩
    · exact ⟨none, 0, rfl⟩
    · exact ⟨_, _, rfl⟩
  obtain ⟨q', cap', rfl⟩ := hv
  refine ⟨(q', cap'), w', ?_, w, hc, ⟨h3.os, h3.tape, h3.output, h3.size, fun k hk hne => h3.block k hk (fun e => hne (by simpa [Value.ownBlock] using e))⟩, h2⟩
  simp only [execOp, resolve, invoke, builtin, Sem.run_bind, Sem.run_pure, Result.andThen_ok, List.map_toArray, List.map_cons, List.map_nil, hs'.eval hx rfl, hs'.eval hy rfl, hr]
end
end Go.Eng
