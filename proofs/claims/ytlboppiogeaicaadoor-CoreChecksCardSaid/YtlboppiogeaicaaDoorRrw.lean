/- Rows: a full block is one; one row appended to another; a part of one; results of which the first stands in a block. General. No condition. -/
import Derived.Test.YtlboppiogeaicaaDoorNds
namespace Go.Eng
open Go.RowKit
set_option linter.unusedVariables false
set_option linter.unusedSimpArgs false
section
variable {P : Program} {n : Nat} {l : Env} {H : List Item} {S : List World} {C : World → Prop} {c : Bool} {d : Option Nat} {ty : TypeId} {pos : String} {af : Array Edge} {g : Option (Nat × Bool)}
variable {ops : Array Oper} {rest : List Oper} {Q : Exit → Act → World → Prop}
variable {t : TypeId} {x y z : Operand} {cx cy cz : Bool}
theorem Cls.blk_row {b base m sz : Nat} {e : TypeId} {cs : List Value} {w : World} (h : Cls (blk b e cs :: H) S w) (hb : base ≤ b) (hl : cs.length = m * sz) (hm : m ≤ maxLen) : Cls (row base (fun k => k = b) (some ⟨b, 0, none⟩) m m e sz cs :: H) S w := by
  have hd := List.pairwise_cons.1 h.dj
  have h0 : (blk b e cs).holds w := h.holds _ (.head _)
  refine ⟨fun i hi => ?_, fun i hi => ?_, .cons (fun j hj k hk => hd.1 j hj k hk.2) hd.2, fun s hs => (h.kp s hs).mono fun k _ ⟨j, hj, hjk⟩ => ?_⟩
  · cases hi with
    | head => exact ⟨fun a ha => by cases ha; rfl, hl, .inr ⟨b, m, cs.toArray, rfl, hb, h0, Nat.le_refl _, hm, by simpa using hl, List.take_of_length_le (by simp [hl])⟩⟩
    | tail _ hi => exact h.holds _ (.tail _ hi)
  · cases hi with
    | head => exact fun k hk => h.lt _ (.head _) k hk.2
    | tail _ hi => exact h.lt _ (.tail _ hi)
  · cases hj with
    | head =>
      have hjk' : k = b := hjk
      exact ⟨_, .head _, by rw [hjk']; exact hb, hjk'⟩
    | tail _ hj => exact ⟨_, .tail _ hj, hjk⟩
theorem run_append_src_nil {w : World} {ty e : TypeId} {i : TypeInfo} {q : Option Addr} {m cap : Nat} (ht : P.underlying t = some (.slice e)) (hi : P.info? e = some i) (hc : m ≤ cap) :
    (Builtin.append_ #[t, t] ty #[.slice q m cap, .slice none 0 0]).run P w = .ok (.slice q m cap) w := by
  cases q <;> simp [Builtin.append_, run_underlying ht, sizeOf, typeInfo, hi, Builtin.lenOf, hc, Builtin.firstCells, loadCells, loadCellsFrom, storeCells]
/-- one row behind another -/
theorem OL.appendRR {F : Item → List Item} {e : TypeId} {dd sz bb p m cap cap2 m2 base base2 : Nat} {O O2 : Nat → Prop} {q q2 : Option Addr} {xs news : List Value}
    (hx : evl l x = some (true, .slice q m cap)) (hy : evl l y = some (true, .slice q2 m2 cap2)) (hn : Nat.ble (dd + 1) n = true)
    (hu : rowElem P t = some (e, sz, bb)) (hp' : Hole p H (row base O q m cap e sz xs) F) (hr2 : row base2 O2 q2 m2 cap2 e sz news ∈ H) (h1 : oneL news = true) (hpos : 0 < m)
    (hs : ∃ s ∈ S, base ≤ s.heap.size) (hlim : (m + m2) ≤ 9223372036854775807 ∧ (m + m2) * bb ≤ 140737488355328)
    (k : ∀ (O' : Nat → Prop) (g' cap' : Nat), OL P n ops Q rest ((dd, true, .slice (some ⟨g', 0, none⟩) (m + m2) cap') :: l) (Cls (F (row base O' (some ⟨g', 0, none⟩) (m + m2) cap' e sz (xs ++ news))) S)) :
    OL P n ops Q (⟨some dd, .call { callee := .builtin .append, args := #[x, y], argTypes := #[t, t] }, ty, pos, af, none⟩ :: rest) l (Cls H S) := by
  have hp := hp'.eq.1
  have hF := hp'.eq.2
  refine OL.newT (α := (Nat → Prop) × Nat × Nat) (C' := fun r w => Cls (H.set p (row base r.1 (some ⟨r.2.1, 0, none⟩) (m + m2) r.2.2 e sz (xs ++ news))) S w) rfl rfl hn (fun r => .slice (some ⟨r.2.1, 0, none⟩) (m + m2) r.2.2) (fun a w hs' hc => ?_) (fun r => by rw [← hF]; exact k r.1 r.2.1 r.2.2)
  obtain ⟨i, z, g1, g2, g3, g4, g5, g6, g7⟩ := rowElem_spec hu
  obtain ⟨s, hsm, hsb⟩ := hs
  have hbw : base ≤ w.heap.size := Nat.le_trans hsb (hc.kp s hsm).size
  have hi := hc.item (List.mem_of_getElem? hp)
  have hi2 := hc.item hr2
  obtain ⟨gx, rfl⟩ := row_some hi hpos
  rcases hi2.2.2 with ⟨h3, h4⟩ | ⟨g, cap', cur, h3, hb, hg, h4, h5, h6, h7⟩
  · cases h3
    have hne : news = [] := List.eq_nil_of_length_eq_zero (by have := hi2.2.1; omega)
    subst hne
    refine ⟨(O, gx, cap), w, ?_, ?_⟩
    · simp only [execOp, resolve, invoke, builtin, Sem.run_bind, Sem.run_pure, Result.andThen_ok, List.map_toArray, List.map_cons, List.map_nil, hs'.eval hx rfl, hs'.eval hy rfl, run_append_src_nil (P := P) (w := w) (ty := ty) (q := some ⟨gx, 0, none⟩) g1 g2 (row_le hi)]
      rfl
    · simp only [List.append_nil, Nat.add_zero]
      rwa [set_same hp]
  · simp only [Value.slice.injEq] at h3
    obtain ⟨rfl, _, rfl⟩ := h3
    have hl := hi2.2.1
    have hnews : ∀ j u, news[j]? = some u → w.cell? ((⟨g, 0, none⟩ : Addr).add j) = some u := fun j u hj => by
      rw [add_mid, Nat.zero_add]
      exact row_cell hi2 hj
    obtain ⟨v', w', hr, h2, h3, h4', h5'⟩ := run_append_own_at (P := P) (w := w) base t ty e i z sz bb g1 g2 g3 g4 g5 g6 g7 _ m xs hi.2 ⟨g, 0, none⟩ m2 cap2 news hl hnews (fun u hu => oneL_mem h1 u hu) hlim.1 hlim.2 hbw
    rcases h2.2 with ⟨rfl, h0⟩ | ⟨g', cap', cur', rfl, hb', hg', hrest⟩
    · omega
    · refine ⟨(fun k => O k ∨ k = g', g', cap'), w', ?_, ?_⟩
      · simp only [execOp, resolve, invoke, builtin, Sem.run_bind, Sem.run_pure, Result.andThen_ok, List.map_toArray, List.map_cons, List.map_nil, hs'.eval hx rfl, hs'.eval hy rfl, hr]
      · have hown : ∀ k, some k = (Value.slice (some ⟨gx, 0, none⟩) m cap).ownBlock → base ≤ k ∧ O k := fun k hk => by
          simp only [Value.ownBlock, Option.some.injEq] at hk
          subst hk
          exact ⟨(World.ownsRow.lt hi.2 _ rfl).1, hi.1 _ rfl⟩
        refine hc.turn p hp (j := row base (fun k => O k ∨ k = g') (some ⟨g', 0, none⟩) (m + m2) cap' e sz (xs ++ news)) ⟨h3.os, h3.tape, h3.output, h3.size, fun k hk hO => h3.block k hk (fun e => hO (hown k e))⟩ ?_ ?_ ?_
        · exact ⟨fun a ha => by cases ha; exact .inr rfl, h2⟩
        · intro k hk
          have hlt : g' < w'.heap.size := (Array.getElem?_eq_some_iff.1 hg').1
          rcases hk.2 with h | h
          · exact ⟨.inl ⟨hk.1, h⟩, Nat.lt_of_lt_of_le (hc.lt _ (List.mem_of_getElem? hp) k ⟨hk.1, h⟩) h3.size⟩
          · subst h
            refine ⟨?_, hlt⟩
            rcases h5' with h5' | h5'
            · exact .inl (hown k (by rw [← h5']; rfl))
            · simp only [Value.ownBlock, Option.some.injEq] at h5'
              exact .inr (by omega)
        · exact fun k hk => ⟨hk.1, .inl hk.2⟩
/-- the first elements of a row -/
theorem row_part {base m k cap sz : Nat} {O : Nat → Prop} {q : Option Addr} {e : TypeId} {xs : List Value} {w : World} (h : (row base O q m cap e sz xs).holds w) (hk : k ≤ m) : (row base O q k cap e sz (xs.take (k * sz))).holds w := by
  refine ⟨h.1, ?_⟩
  obtain ⟨h1, h2⟩ := h.2
  have hle : k * sz ≤ m * sz := Nat.mul_le_mul_right _ hk
  refine ⟨by rw [List.length_take]; omega, ?_⟩
  rcases h2 with ⟨h3, h4⟩ | ⟨g, cap', cur, h3, hb, hg, h4, h5, h6, h7⟩
  · simp only [Value.slice.injEq] at h3
    obtain ⟨rfl, rfl, rfl⟩ := h3
    obtain rfl : k = 0 := by omega
    exact .inl ⟨rfl, rfl⟩
  · simp only [Value.slice.injEq] at h3
    obtain ⟨rfl, _, rfl⟩ := h3
    refine .inr ⟨g, cap, cur, rfl, hb, hg, by omega, h5, h6, ?_⟩
    conv => rhs; rw [← h7]
    rw [List.take_take, Nat.min_eq_left hle]
theorem Cls.row_part {base m k cap sz : Nat} {O : Nat → Prop} {q : Option Addr} {e : TypeId} {xs : List Value} {w : World} (h : Cls (row base O q m cap e sz xs :: H) S w) (hk : k ≤ m) : Cls (row base O q k cap e sz (xs.take (k * sz)) :: H) S w := by
  have hd := List.pairwise_cons.1 h.dj
  refine ⟨fun i hi => ?_, fun i hi => ?_, .cons (fun j hj k' hk' => hd.1 j hj k' hk') hd.2, fun s hs => (h.kp s hs).mono fun k' _ ⟨j, hj, hjk⟩ => ?_⟩
  · cases hi with
    | head => exact Eng.row_part (h.holds _ (.head _)) hk
    | tail _ hi => exact h.holds _ (.tail _ hi)
  · cases hi with
    | head => exact fun k' hk' => h.lt (row base O q m cap e sz xs) (.head _) k' hk'
    | tail _ hi => exact h.lt _ (.tail _ hi)
  · cases hj with
    | head => exact ⟨_, .head _, hjk⟩
    | tail _ hj => exact ⟨_, .tail _ hj, hjk⟩
theorem At.cls {e : Exit} {C' : World → Prop} (hc : ∀ w, C w → C' w) (h : At n Q e l C') : At n Q e l C := ⟨fun a w s c => h.run a w s (hc w c)⟩
theorem At.finCT {fn : Func} {R : Ending → World → Prop} {tt b k u : Nat} {t' : TypeId} {cs : List Value} {v : Value} (hr : fn.results = #[.cell tt ty, .tmp u]) (ht : look l tt = some (true, .pointer (some ⟨b, 0, none⟩))) (hp : blk b t' cs ∈ H) (hs : aggN P ty = some k) (hk : cs.length = k)
    (hu : look l u = some (true, v)) (h : ∀ w, Cls H S w → R (.returned (.tuple #[.agg cs.toArray, v])) w) : At n (bodyPost P fn R) .ret l (Cls H S) :=
  ⟨fun a w hs' hc => ⟨hs'.df, .tuple #[.agg cs.toArray, v], by
    have h1 := hs'.at_ tt true _ ht
    have h3 := hs'.at_ u true _ hu
    have h2 := run_loadVar_agg (P := P) (t := ty) (vs := cs) (a := ⟨b, 0, none⟩) (w := w) (by rw [hk]; exact hs) (fun j v hj => by rw [add_mid, Nat.zero_add, blk_cell (hc.item hp)]; exact hj)
    simp [results, hr, Array.getD_eq_getD_getElem?, h1, asAddr, h2, h3], h w hc⟩⟩
theorem At.finCTT {fn : Func} {R : Ending → World → Prop} {tt b k u u2 : Nat} {t' : TypeId} {cs : List Value} {v v2 : Value} (hr : fn.results = #[.cell tt ty, .tmp u, .tmp u2]) (ht : look l tt = some (true, .pointer (some ⟨b, 0, none⟩))) (hp : blk b t' cs ∈ H) (hs : aggN P ty = some k) (hk : cs.length = k)
    (hu : look l u = some (true, v)) (hu2 : look l u2 = some (true, v2)) (h : ∀ w, Cls H S w → R (.returned (.tuple #[.agg cs.toArray, v, v2])) w) : At n (bodyPost P fn R) .ret l (Cls H S) :=
  ⟨fun a w hs' hc => ⟨hs'.df, .tuple #[.agg cs.toArray, v, v2], by
    have h1 := hs'.at_ tt true _ ht
    have h3 := hs'.at_ u true _ hu
    have h4 := hs'.at_ u2 true _ hu2
    have h2 := run_loadVar_agg (P := P) (t := ty) (vs := cs) (a := ⟨b, 0, none⟩) (w := w) (by rw [hk]; exact hs) (fun j v hj => by rw [add_mid, Nat.zero_add, blk_cell (hc.item hp)]; exact hj)
    simp [results, hr, Array.getD_eq_getD_getElem?, h1, asAddr, h2, h3, h4], h w hc⟩⟩
end
end Go.Eng
