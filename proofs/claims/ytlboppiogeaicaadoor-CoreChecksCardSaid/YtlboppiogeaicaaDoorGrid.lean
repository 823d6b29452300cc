/- A square of rows: blocks of one element type, told as a list of rows. General. No condition. -/
import Derived.Test.YtlboppiogeaicaaDoorMake
namespace Go.Eng
open Go.RowKit
set_option linter.unusedVariables false
set_option linter.unusedSimpArgs false

/-- the blocks bs hold the rows -/
def grid (bs : List Nat) (t : TypeId) (rows : List (List Value)) : Item :=
  ⟨fun k => k ∈ bs, fun w => bs.length = rows.length ∧ bs.Nodup ∧ ∀ (i b : Nat) (r : List Value), bs[i]? = some b → rows[i]? = some r → w.heap[b]? = some (.cells r.toArray t (0, 0)),
    fun w w' hk h => ⟨h.1, h.2.1, fun i b r hb hr => (hk b (List.mem_of_getElem? hb)).trans (h.2.2 i b r hb hr)⟩⟩
theorem grid_blk {w : World} {bs : List Nat} {t : TypeId} {rows : List (List Value)} {i b : Nat} {r : List Value} (h : (grid bs t rows).holds w) (hb : bs[i]? = some b) (hr : rows[i]? = some r) : (blk b t r).holds w := h.2.2 i b r hb hr
theorem grid_nil (w : World) (t : TypeId) : (grid [] t []).holds w := ⟨rfl, List.nodup_nil, fun i b r hb => by simp at hb⟩

theorem NotOwned.grid {H : List Item} {bs : List Nat} {t : TypeId} {rows : List (List Value)} {k B : Nat} (h : ∀ b, b ∈ bs → B ≤ b) (hk : k < B) (r : NotOwned H k) : NotOwned (Eng.grid bs t rows :: H) k :=
  NotOwned.any (fun hm => Nat.not_le_of_lt hk (h k hm)) r
section
variable {P : Program} {n : Nat} {l : Env} {H : List Item} {S : List World} {C : World → Prop} {c : Bool} {d : Option Nat} {ty : TypeId} {pos : String} {af : Array Edge} {g : Option (Nat × Bool)}
variable {ops : Array Oper} {rest : List Oper} {Q : Exit → Act → World → Prop} {t : TypeId} {x y : Operand} {cx cy : Bool}

theorem Cls.grid_start {w : World} (h : Cls H S w) (t : TypeId) : Cls (grid [] t [] :: H) S w :=
  h.add (Keep.refl _ w) _ (grid_nil w t) (fun k hk => by cases hk)
/-- a new block becomes the next row -/
theorem Cls.grid_push {w : World} {b : Nat} {t : TypeId} {r : List Value} {bs : List Nat} {rows : List (List Value)} (h : Cls (blk b t r :: grid bs t rows :: H) S w) : Cls (grid (bs ++ [b]) t (rows ++ [r]) :: H) S w := by
  have hg := h.item (i := grid bs t rows) (by simp)
  have hb := h.item (i := blk b t r) (by simp)
  have hd := h.dj
  rw [List.pairwise_cons, List.pairwise_cons] at hd
  obtain ⟨hb1, hg1, hH⟩ := hd
  have hnot : b ∉ bs := fun hm => hb1 (grid bs t rows) (by simp) b rfl hm
  refine ⟨fun i hi => ?_, fun i hi => ?_, ?_, fun s hs => (h.kp s hs).mono fun k _ ⟨i, hi, hk⟩ => ?_⟩
  · rcases List.mem_cons.1 hi with rfl | hi
    · refine ⟨by simp [hg.1], ?_, fun i b' r' hb' hr' => ?_⟩
      · rw [List.nodup_append]
        exact ⟨hg.2.1, by simp, fun a ha b' hb' => by
          rw [List.mem_singleton.1 hb']
          exact fun e => hnot (e ▸ ha)⟩
      · rcases Nat.lt_or_ge i bs.length with hl | hl
        · rw [List.getElem?_append_left hl] at hb'
          rw [List.getElem?_append_left (by rw [← hg.1]; exact hl)] at hr'
          exact hg.2.2 i b' r' hb' hr'
        · rw [List.getElem?_append_right hl] at hb'
          rw [List.getElem?_append_right (by rw [← hg.1]; exact hl), ← hg.1] at hr'
          have h0 : i - bs.length = 0 := by
            have := (List.getElem?_eq_some_iff.1 hb').1
            simpa using this
          rw [h0] at hb' hr'
          simp only [List.getElem?_cons_zero, Option.some.injEq] at hb' hr'
          subst hb'
          subst hr'
          exact hb
    · exact h.holds i (by simp [hi])
  · rcases List.mem_cons.1 hi with rfl | hi
    · intro k hk
      rcases List.mem_append.1 hk with hk | hk
      · exact h.lt (grid bs t rows) (by simp) k hk
      · exact h.lt (blk b t r) (by simp) k (List.mem_singleton.1 hk)
    · exact h.lt i (by simp [hi])
  · rw [List.pairwise_cons]
    refine ⟨fun j hj k hk => ?_, hH⟩
    rcases List.mem_append.1 hk with hk | hk
    · exact hg1 j hj k hk
    · exact hb1 j (by simp [hj]) k (List.mem_singleton.1 hk)
  · rcases List.mem_cons.1 hi with rfl | hi
    · exact ⟨_, List.mem_cons_self, List.mem_append.2 (.inr (List.mem_singleton.2 hk))⟩
    · rcases List.mem_cons.1 hi with rfl | hi
      · exact ⟨_, List.mem_cons_self, List.mem_append.2 (.inl hk)⟩
      · exact ⟨i, List.mem_cons_of_mem _ hi, hk⟩
/-- a cell that every world of the class holds -/
theorem Pev.load_cls {a : Addr} {v : Value} (hx : evl l x = some (cx, .pointer (some a))) (hcx : c = true → cx = true) (hs : scalB P t = true) (hv : c = true → ∀ w, C w → w.cell? a = some v) : Pev P n l C ⟨d, .load t x, ty, pos, af, g⟩ c v :=
  .load_of hx hcx fun h w hw => run_loadVar_scal hs (hv h w hw)
/-- a store of one cell into a row of a square -/
theorem OL.storeG {b o i : Nat} {t' : TypeId} {bs : List Nat} {rows : List (List Value)} {r : List Value} {v : Value} {p : Nat} {F : Item → List Item} (hx : evl l x = some (true, .pointer (some ⟨b, o, none⟩))) (hy : evl l y = some (true, v)) (hv : v.cells = #[v])
    (hs : sizeN P t = some 1) (h1 : oneL [v] = true) (hH : Hole p H (grid bs t' rows) F) (hb : bs[i]? = some b) (hr : rows[i]? = some r) (hl : o < r.length)
    (kk : OL P n ops Q rest l (Cls (F (grid bs t' (rows.set i (r.set o v)))) S)) : OL P n ops Q (⟨none, .store t x y, ty, pos, af, none⟩ :: rest) l (Cls H S) := by
  obtain ⟨hp, hF⟩ := hH.eq
  rw [hF] at kk
  refine OL.store_ (C' := Cls (H.set p (grid bs t' (rows.set i (r.set o v)))) S) rfl rfl (fun a w hs' hc => ?_) kk
  have hg := hc.item (List.mem_of_getElem? hp)
  obtain ⟨w', hr', hh, hkp⟩ := run_storeAt_blk (P := P) (o := o) (vs := [v]) (grid_blk hg hb hr) hs hv rfl (show o + 1 ≤ r.length from hl) h1
  refine ⟨w', ?_, hc.turn p hp (j := grid bs t' (rows.set i (r.set o v))) ⟨hkp.os, hkp.tape, hkp.output, hkp.size, fun k hk hn => hkp.block k hk (fun e => hn (by rw [show k = b from e]; exact List.mem_of_getElem? hb))⟩ ?_ (fun q hq => ⟨.inl hq, Nat.lt_of_lt_of_le (hc.lt _ (List.mem_of_getElem? hp) q hq) hkp.size⟩) (fun q hq => hq)⟩
  · simp only [execOp, hs'.eval hx rfl, hs'.eval hy rfl, Sem.run_bind, hr', Result.andThen_ok]; rfl
  · refine ⟨by simp [hg.1], hg.2.1, fun i' b' r' hb' hr'' => ?_⟩
    by_cases hi : i = i'
    · subst hi
      rw [hb] at hb'
      obtain rfl := Option.some.inj hb'
      have hlt := (List.getElem?_eq_some_iff.1 hr).1
      rw [List.getElem?_set_self hlt] at hr''
      obtain rfl := Option.some.inj hr''
      exact hh
    · rw [List.getElem?_set_ne hi] at hr''
      have hne : b' ≠ b := fun e => by
        subst e
        have h1' := (List.getElem?_eq_some_iff.1 hb).1
        exact hi ((List.getElem?_inj h1' hg.2.1).1 (hb.trans hb'.symm))
      have hlt := hc.lt _ (List.mem_of_getElem? hp) b' (List.mem_of_getElem? hb')
      rw [hkp.block b' hlt hne]
      exact hg.2.2 i' b' r' hb' hr''
end
end Go.Eng
