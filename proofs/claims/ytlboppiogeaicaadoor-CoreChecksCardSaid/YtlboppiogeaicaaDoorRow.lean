/- Rows that a function grows by append: an item for the slice with its cells and the blocks that it has owned. General. No condition. -/
import Derived.Test.YtlboppiogeaicaaDoorMem
import Derived.Maps.AppendAt
namespace Go.Eng
open Go.RowKit
set_option linter.unusedVariables false
set_option linter.unusedSimpArgs false

theorem ownsRow_stab {w w' : World} {base n size : Nat} {e : TypeId} {v : Value} {xs : List Value} (hk : ∀ k, v.ownBlock = some k → w'.heap[k]? = w.heap[k]?) (h : w.ownsRow base e size v n xs) : w'.ownsRow base e size v n xs := by
  refine ⟨h.1, ?_⟩
  rcases h.2 with h2 | ⟨g, cap, cur, rfl, hb, hg, hr⟩
  · exact .inl h2
  · exact .inr ⟨g, cap, cur, rfl, hb, by rw [hk g rfl]; exact hg, hr⟩

/-- a grown row: the slice q n cap, cells xs; its blocks, now and before, lie in O, at base or above -/
def row (base : Nat) (O : Nat → Prop) (q : Option Addr) (n cap : Nat) (e : TypeId) (size : Nat) (xs : List Value) : Item :=
  ⟨fun k => base ≤ k ∧ O k, fun w => (∀ a, q = some a → O a.block) ∧ w.ownsRow base e size (.slice q n cap) n xs, fun w w' hk h => ⟨h.1, by
    refine ownsRow_stab (fun k hk' => ?_) h.2
    cases q with
    | none => simp [Value.ownBlock] at hk'
    | some a =>
      simp only [Value.ownBlock, Option.some.injEq] at hk'
      subst hk'
      rcases h.2.2 with ⟨h3, _⟩ | ⟨g, cap', cur, h3, hb, _⟩
      · cases h3
      · simp only [Value.slice.injEq, Option.some.injEq] at h3
        obtain ⟨rfl, _⟩ := h3
        exact hk _ ⟨hb, h.1 _ rfl⟩⟩⟩

section
variable {P : Program} {n : Nat} {l : Env} {H : List Item} {S : List World} {C : World → Prop} {c : Bool} {d : Option Nat} {ty : TypeId} {pos : String} {af : Array Edge} {g : Option (Nat × Bool)}
variable {ops : Array Oper} {rest : List Oper} {Q : Exit → Act → World → Prop}
variable {t : TypeId} {x y z : Operand} {cx cy cz : Bool}

theorem NotOwned.row {base m cap size k : Nat} {O : Nat → Prop} {q : Option Addr} {e : TypeId} {xs : List Value} (h : k < base) (r : NotOwned H k) : NotOwned (Eng.row base O q m cap e size xs :: H) k :=
  NotOwned.any (fun ho => Nat.not_le_of_lt h ho.1) r
theorem Cls.row_nil {w : World} (h : Cls H S w) (base : Nat) (e : TypeId) (size : Nat) : Cls (row base (fun _ => False) none 0 0 e size [] :: H) S w :=
  h.add (Keep.refl _ w) _ ⟨fun a ha => (by cases ha), World.ownsRow_nil w base e size⟩ (fun k hk => hk.2.elim)

theorem row_cell {w : World} {base m cap size o g0 : Nat} {O : Nat → Prop} {e : TypeId} {xs : List Value} {v : Value} (h : (row base O (some ⟨g0, 0, none⟩) m cap e size xs).holds w) (hv : xs[o]? = some v) : w.cell? ⟨g0, o, none⟩ = some v := by
  rcases h.2.2 with ⟨h3, _⟩ | ⟨g, cap', cur, h3, hb, hg, h4, h5, h6, h7⟩
  · cases h3
  · simp only [Value.slice.injEq, Option.some.injEq, Addr.mk.injEq] at h3
    obtain ⟨⟨rfl, _⟩, _⟩ := h3
    have : cur[o]? = some v := by
      rw [← h7] at hv
      have hl := (List.getElem?_eq_some_iff.1 hv).1
      rw [List.length_take] at hl
      rw [List.getElem?_take_of_lt (by omega)] at hv
      simpa using hv
    simp [World.cell?, hg, this]

theorem OL.newT {α : Type} {o : Oper} {dd : Nat} {C' : α → World → Prop} (hg : o.guard = none) (hd : o.dst = some dd) (hn : Nat.ble (dd + 1) n = true) (V : α → Value)
    (hv : ∀ a w, Sees n l a → C w → ∃ b w', (execOp a.eval o).run P w = .ok (.value (V b)) w' ∧ C' b w')
    (k : ∀ b, OL P n ops Q rest ((dd, true, V b) :: l) (C' b)) : OL P n ops Q (o :: rest) l C := by
  have hn' := Nat.le_of_ble_eq_true hn
  refine ⟨fun a w hs hc => ?_⟩
  refine wpList_plain hg fun K hK => ?_
  obtain ⟨b, w', hr, hc'⟩ := hv a w hs hc
  show Oper.upon P o a K Q ((execOp a.eval o).run P w)
  rw [hr]
  show K (a.put o.dst (V b)) w'
  rw [hd]
  exact hK _ _ ((k b).run _ w' (hs.put hn' true _) hc')

/-- element type, its cells and bytes, of a slice type one may append to -/
def rowElem (P : Program) (t : TypeId) : Option (TypeId × Nat × Nat) := match P.underlying t with
  | some (.slice e) => match P.info? e with
    | some i => match i.zero with
      | some z => match Nat.beq z.cells.size i.size && !Nat.beq i.size 0 with
        | true => match lit i.size, lit i.bytes with
          | some a, some b => some (e, a, b)
          | _, _ => none
        | false => none
      | none => none
    | none => none
  | _ => none
theorem oneL_mem : ∀ {vs : List Value}, oneL vs = true → ∀ u ∈ vs, u.oneCell' = true
  | [], _, u, hu => by cases hu
  | v :: r, h, u, hu => by
    simp only [oneL, Bool.and_eq_true] at h
    rcases List.mem_cons.1 hu with rfl | hu
    · exact h.1
    · exact oneL_mem h.2 u hu
theorem rowElem_spec {t e : TypeId} {sz by' : Nat} (h : rowElem P t = some (e, sz, by')) : ∃ i z, P.underlying t = some (.slice e) ∧ P.info? e = some i ∧ i.zero = some z ∧ i.size = sz ∧ i.bytes = by' ∧ z.cells.size = sz ∧ 0 < sz := by
  unfold rowElem at h
  split at h
  · rename_i e' he
    split at h
    · rename_i i hi
      split at h
      · rename_i z hz
        split at h
        · rename_i hb
          split at h
          · rename_i a b ha hb'
            simp only [Option.some.injEq, Prod.mk.injEq] at h
            obtain ⟨rfl, rfl, rfl⟩ := h
            simp only [Bool.and_eq_true, Nat.beq_eq, Bool.not_eq_true'] at hb
            have h1 := lit_eq ha
            have h2 := lit_eq hb'
            refine ⟨i, z, he, hi, hz, h1, h2, by rw [hb.1, h1], ?_⟩
            rw [← h1]
            rcases Nat.eq_zero_or_pos i.size with h0 | h0
            · rw [h0] at hb; simp at hb
            · exact h0
          · cases h
        · cases h
      · cases h
    · cases h
  · cases h

/-- the place of an item, and the list with another one there -/
inductive Hole : Nat → List Item → Item → (Item → List Item) → Prop where
  | z {i : Item} {H : List Item} : Hole 0 (i :: H) i (fun j => j :: H)
  | s {p : Nat} {k i : Item} {H : List Item} {F : Item → List Item} (h : Hole p H i F) : Hole (p + 1) (k :: H) i (fun j => k :: F j)
theorem Hole.eq {p : Nat} {H : List Item} {i : Item} {F : Item → List Item} (h : Hole p H i F) : H[p]? = some i ∧ ∀ j, F j = H.set p j := by
  induction h with
  | z => exact ⟨rfl, fun j => rfl⟩
  | s h ih => exact ⟨ih.1, fun j => by show _ :: _ = _ :: _; rw [ih.2 j]⟩

theorem OL.append {F : Item → List Item} {e : TypeId} {dd sz bb p m cap cap2 o b m2 : Nat} {base : Nat} {O : Nat → Prop} {q : Option Addr} {xs cs news : List Value} {t' : TypeId}
    (hx : evl l x = some (true, .slice q m cap)) (hy : evl l y = some (true, .slice (some ⟨b, o, none⟩) m2 cap2)) (hn : Nat.ble (dd + 1) n = true)
    (hu : rowElem P t = some (e, sz, bb)) (hp' : Hole p H (row base O q m cap e sz xs) F) (hb : blk b t' cs ∈ H) (ht : Take (m2 * sz) (cs.drop o) news) (h1 : oneL news = true) (hm2 : Nat.ble 1 m2 = true)
    (hs : ∃ s ∈ S, base ≤ s.heap.size) (hlim : (m + m2) ≤ 9223372036854775807 ∧ (m + m2) * bb ≤ 140737488355328)
    (k : ∀ (O' : Nat → Prop) (g' cap' : Nat), OL P n ops Q rest ((dd, true, .slice (some ⟨g', 0, none⟩) (m + m2) cap') :: l) (Cls (F (row base O' (some ⟨g', 0, none⟩) (m + m2) cap' e sz (xs ++ news))) S)) :
    OL P n ops Q (⟨some dd, .call { callee := .builtin .append, args := #[x, y], argTypes := #[t, t] }, ty, pos, af, none⟩ :: rest) l (Cls H S) := by
  have hp := hp'.eq.1
  have hF := hp'.eq.2
  refine OL.newT (α := (Nat → Prop) × Nat × Nat) (C' := fun r w => Cls (H.set p (row base r.1 (some ⟨r.2.1, 0, none⟩) (m + m2) r.2.2 e sz (xs ++ news))) S w) rfl rfl hn (fun r => .slice (some ⟨r.2.1, 0, none⟩) (m + m2) r.2.2) (fun a w hs' hc => ?_) (fun r => by rw [← hF]; exact k r.1 r.2.1 r.2.2)
  obtain ⟨i, z, g1, g2, g3, g4, g5, g6, g7⟩ := rowElem_spec hu
  obtain ⟨s, hsm, hsb⟩ := hs
  have hbw : base ≤ w.heap.size := Nat.le_trans hsb (hc.kp s hsm).size
  have hi := hc.item (List.mem_of_getElem? hp)
  have hnews : ∀ j u, news[j]? = some u → w.cell? ((⟨b, o, none⟩ : Addr).add j) = some u := fun j u hj => by
    rw [add_mid, blk_cell (hc.item hb)]
    have := ht.get.2 j u hj
    rwa [List.getElem?_drop] at this
  obtain ⟨v', w', hr, h2, h3, h4, h5⟩ := run_append_own_at (P := P) (w := w) base t ty e i z sz bb g1 g2 g3 g4 g5 g6 g7 _ m xs hi.2 ⟨b, o, none⟩ m2 cap2 news ht.get.1 hnews (fun u hu => oneL_mem h1 u hu) hlim.1 hlim.2 hbw
  have hpos : 1 ≤ m2 := Nat.le_of_ble_eq_true hm2
  rcases h2.2 with ⟨rfl, h0⟩ | ⟨g', cap', cur, rfl, hb', hg', hrest⟩
  · omega
  · refine ⟨(fun k => O k ∨ k = g', g', cap'), w', ?_, ?_⟩
    · simp only [execOp, resolve, invoke, builtin, Sem.run_bind, Sem.run_pure, Result.andThen_ok, List.map_toArray, List.map_cons, List.map_nil, hs'.eval hx rfl, hs'.eval hy rfl, hr]
    · have hown : ∀ k, some k = (Value.slice q m cap).ownBlock → base ≤ k ∧ O k := fun k hk => by
        cases q with
        | none => simp [Value.ownBlock] at hk
        | some a =>
          simp only [Value.ownBlock, Option.some.injEq] at hk
          subst hk
          exact ⟨(World.ownsRow.lt hi.2 _ rfl).1, hi.1 _ rfl⟩
      refine hc.turn p hp (j := row base (fun k => O k ∨ k = g') (some ⟨g', 0, none⟩) (m + m2) cap' e sz (xs ++ news)) ⟨h3.os, h3.tape, h3.output, h3.size, fun k hk hO => h3.block k hk (fun e => hO (hown k e))⟩ ?_ ?_ ?_
      · exact ⟨fun a ha => by cases ha; exact .inr rfl, h2⟩
      · intro k hk
        have hlt : g' < w'.heap.size := (Array.getElem?_eq_some_iff.1 hg').1
        rcases hk.2 with h | h
        · exact ⟨.inl ⟨hk.1, h⟩, Nat.lt_of_lt_of_le (hc.lt _ (List.mem_of_getElem? hp) k ⟨hk.1, h⟩) h3.size⟩
        · subst h
          refine ⟨?_, hlt⟩
          rcases h5 with h5 | h5
          · exact .inl (hown k (by rw [← h5]; rfl))
          · simp only [Value.ownBlock, Option.some.injEq] at h5
            exact .inr (by omega)
      · exact fun k hk => ⟨hk.1, .inl hk.2⟩

/-- a cell of a row -/
theorem Pev.load_row {b o base m cap size : Nat} {O : Nat → Prop} {e : TypeId} {xs : List Value} {v : Value} (hx : evl l x = some (cx, .pointer (some ⟨b, o, none⟩))) (hcx : c = true → cx = true)
    (hp : row base O (some ⟨b, 0, none⟩) m cap e size xs ∈ H) (hs : scalB P t = true) (hv : xs[o]? = some v) : Pev P n l (Cls H S) ⟨d, .load t x, ty, pos, af, g⟩ c v :=
  .load_of hx hcx fun _ w hw => run_loadVar_scal hs (row_cell (hw.item hp) hv)
theorem Pev.load_rowA {b o base m cap size k : Nat} {O : Nat → Prop} {e : TypeId} {xs vs : List Value} (hx : evl l x = some (cx, .pointer (some ⟨b, o, none⟩))) (hcx : c = true → cx = true)
    (hp : row base O (some ⟨b, 0, none⟩) m cap e size xs ∈ H) (hs : aggN P t = some k) (hv : Take k (xs.drop o) vs) : Pev P n l (Cls H S) ⟨d, .load t x, ty, pos, af, g⟩ c (.agg vs.toArray) :=
  .load_of hx hcx fun _ w hw => run_loadVar_agg (by rw [hv.get.1]; exact hs) fun j v hj => by
    rw [add_mid]
    have := hv.get.2 j v hj
    rw [List.getElem?_drop] at this
    exact row_cell (hw.item hp) this
end
end Go.Eng
