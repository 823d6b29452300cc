/- Append of a slice that reads, of any length, to a grown row. General. No condition. -/
import Derived.Test.YtlboppiogeaicaaDoorRrw
import Derived.Test.YtlboppiogeaicaaDoorExt
namespace Go.Eng
open Go.RowKit
set_option linter.unusedVariables false
set_option linter.unusedSimpArgs false
section
variable {P : Program} {n : Nat} {l : Env} {H : List Item} {S : List World} {C : World → Prop} {ty : TypeId} {pos : String} {af : Array Edge}
variable {ops : Array Oper} {rest : List Oper} {Q : Exit → Act → World → Prop} {t : TypeId} {x y : Operand}
theorem run_append_src_nil2 {w : World} {ty e : TypeId} {i : TypeInfo} {q : Option Addr} {m cap cap2 : Nat} (ht : P.underlying t = some (.slice e)) (hi : P.info? e = some i) (hc : m ≤ cap) :
    (Builtin.append_ #[t, t] ty #[.slice q m cap, .slice none 0 cap2]).run P w = .ok (.slice q m cap) w := by
  cases q <;> simp [Builtin.append_, run_underlying ht, sizeOf, typeInfo, hi, Builtin.lenOf, hc, Builtin.firstCells, loadCells, loadCellsFrom, storeCells]
theorem OL.appendK {F : Item → List Item} {e : TypeId} {dd sz bb p m cap cap2 m2 base : Nat} {O : Nat → Prop} {q q2 : Option Addr} {xs news : List Value}
    (hx : evl l x = some (true, .slice q m cap)) (hy : evl l y = some (true, .slice q2 m2 cap2)) (hn : Nat.ble (dd + 1) n = true)
    (hu : rowElem P t = some (e, sz, bb)) (hp' : Hole p H (row base O q m cap e sz xs) F) (hsl : ∀ w, Cls H S w → SlAt w w.heap.size q2 news) (hl : news.length = m2 * sz) (h1 : oneL news = true)
    (hs : ∃ s ∈ S, base ≤ s.heap.size) (hlim : (m + m2) ≤ 9223372036854775807 ∧ (m + m2) * bb ≤ 140737488355328)
    (k : ∀ (O' : Nat → Prop) (q' : Option Addr) (cap' : Nat), OL P n ops Q rest ((dd, true, .slice q' (m + m2) cap') :: l) (Cls (F (row base O' q' (m + m2) cap' e sz (xs ++ news))) S)) :
    OL P n ops Q (⟨some dd, .call { callee := .builtin .append, args := #[x, y], argTypes := #[t, t] }, ty, pos, af, none⟩ :: rest) l (Cls H S) := by
  have hp := hp'.eq.1
  have hF := hp'.eq.2
  refine OL.newT (α := (Nat → Prop) × Option Addr × Nat) (C' := fun r w => Cls (H.set p (row base r.1 r.2.1 (m + m2) r.2.2 e sz (xs ++ news))) S w) rfl rfl hn (fun r => .slice r.2.1 (m + m2) r.2.2) (fun a w hs' hc => ?_) (fun r => by rw [← hF]; exact k r.1 r.2.1 r.2.2)
  obtain ⟨i, z, g1, g2, g3, g4, g5, g6, g7⟩ := rowElem_spec hu
  obtain ⟨s, hsm, hsb⟩ := hs
  have hbw : base ≤ w.heap.size := Nat.le_trans hsb (hc.kp s hsm).size
  have hi := hc.item (List.mem_of_getElem? hp)
  cases q2 with
  | none =>
    have hm2 : news = [] := by
      cases news with
      | nil => rfl
      | cons v r =>
        obtain ⟨a, ha, _⟩ := hsl w hc (by simp)
        cases ha
    subst hm2
    have hm0 : m2 = 0 := by
      rcases Nat.eq_zero_or_pos m2 with h0 | h0
      · exact h0
      · have := Nat.mul_pos h0 g7
        simp at hl
        omega
    subst hm0
    refine ⟨(O, q, cap), w, ?_, ?_⟩
    · simp only [execOp, resolve, invoke, builtin, Sem.run_bind, Sem.run_pure, Result.andThen_ok, List.map_toArray, List.map_cons, List.map_nil, hs'.eval hx rfl, hs'.eval hy rfl, run_append_src_nil2 (P := P) (cap2 := cap2) (w := w) (ty := ty) (q := q) g1 g2 (row_le hi)]
      rfl
    · simp only [List.append_nil, Nat.add_zero]
      rwa [set_same hp]
  | some ad =>
    have hnews : ∀ j u, news[j]? = some u → w.cell? (ad.add j) = some u := fun j u hj => by
      obtain ⟨a, ha, _, hca⟩ := hsl w hc (by have := (List.getElem?_eq_some_iff.1 hj).1; omega)
      obtain rfl := Option.some.inj ha
      exact hca j u hj
    obtain ⟨v', w', hr, h2, h3, h4, h5⟩ := run_append_own_at (P := P) (w := w) base t ty e i z sz bb g1 g2 g3 g4 g5 g6 g7 _ m xs hi.2 ad m2 cap2 news hl hnews (fun u hu => oneL_mem h1 u hu) hlim.1 hlim.2 hbw
    have hown : ∀ k, some k = (Value.slice q m cap).ownBlock → base ≤ k ∧ O k := fun k hk => by
      cases q with
      | none => simp [Value.ownBlock] at hk
      | some a =>
        simp only [Value.ownBlock, Option.some.injEq] at hk
        subst hk
        exact ⟨(World.ownsRow.lt hi.2 _ rfl).1, hi.1 _ rfl⟩
    rcases h2.2 with ⟨rfl, h0⟩ | ⟨g', cap', cur, rfl, hb', hg', hrest⟩
    · refine ⟨(O, none, 0), w', ?_, ?_⟩
      · simp only [execOp, resolve, invoke, builtin, Sem.run_bind, Sem.run_pure, Result.andThen_ok, List.map_toArray, List.map_cons, List.map_nil, hs'.eval hx rfl, hs'.eval hy rfl, hr, h0]
      · rw [h0] at h2 ⊢
        refine hc.turn p hp (j := row base O none 0 0 e sz (xs ++ news)) ⟨h3.os, h3.tape, h3.output, h3.size, fun k hk hO => h3.block k hk (fun e => hO (hown k e))⟩ ⟨fun a ha => (by cases ha), h2⟩ (fun k hk => ⟨.inl hk, Nat.lt_of_lt_of_le (hc.lt _ (List.mem_of_getElem? hp) k hk) h3.size⟩) (fun k hk => hk)
    · refine ⟨(fun k => O k ∨ k = g', some ⟨g', 0, none⟩, cap'), w', ?_, ?_⟩
      · simp only [execOp, resolve, invoke, builtin, Sem.run_bind, Sem.run_pure, Result.andThen_ok, List.map_toArray, List.map_cons, List.map_nil, hs'.eval hx rfl, hs'.eval hy rfl, hr]
      · refine hc.turn p hp (j := row base (fun k => O k ∨ k = g') (some ⟨g', 0, none⟩) (m + m2) cap' e sz (xs ++ news)) ⟨h3.os, h3.tape, h3.output, h3.size, fun k hk hO => h3.block k hk (fun e => hO (hown k e))⟩ ?_ ?_ ?_
        · exact ⟨fun a ha => by cases ha; exact .inr rfl, h2⟩
        · intro k hk
          have hlt : g' < w'.heap.size := (Array.getElem?_eq_some_iff.1 hg').1
          rcases hk.2 with h | h
          · exact ⟨.inl ⟨hk.1, h⟩, Nat.lt_of_lt_of_le (hc.lt _ (List.mem_of_getElem? hp) k ⟨hk.1, h⟩) h3.size⟩
          · subst h
            refine ⟨?_, hlt⟩
            rcases h5 with h5 | h5
            · exact .inl (hown k (by rw [← h5]; rfl))
            · simp only [Value.ownBlock, Option.some.injEq] at h5
              exact .inr (by omega)
        · exact fun k hk => ⟨hk.1, .inl hk.2⟩
end
end Go.Eng
