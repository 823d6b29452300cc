/- More rules: what a class tells, calls of function values that change the class, a store into a grown row, forgetting ahead of an unknown rest. General. No condition. -/
import Derived.Test.YtlboppiogeaicaaDoorBuf
import Derived.Test.YtlboppiogeaicaaDoorAny
namespace Go.Eng
open Go.RowKit
set_option linter.unusedVariables false
set_option linter.unusedSimpArgs false
section
variable {P : Program} {n : Nat} {l : Env} {H : List Item} {S : List World} {C : World → Prop} {c : Bool} {d : Option Nat} {ty : TypeId} {pos : String} {af : Array Edge} {g : Option (Nat × Bool)}
variable {ops : Array Oper} {rest : List Oper} {Q : Exit → Act → World → Prop} {t : TypeId} {x y z : Operand} {cx cy cz : Bool}

theorem W.fact {code : Code} {φ : Prop} (h : ∀ w, C w → φ) (k : φ → W P n code Q l C) : W P n code Q l C := ⟨fun a w hs hc => (k (h w hc)).run a w hs hc⟩
theorem OL.fact {φ : Prop} (h : ∀ w, C w → φ) (k : φ → OL P n ops Q rest l C) : OL P n ops Q rest l C := ⟨fun a w hs hc => (k (h w hc)).run a w hs hc⟩
theorem At.fact {e : Exit} {φ : Prop} (h : ∀ w, C w → φ) (k : φ → At n Q e l C) : At n Q e l C := ⟨fun a w hs hc => (k (h w hc)).run a w hs hc⟩
theorem OL.sub {l' : Env} {C' : World → Prop} (hs : Sub l l') (hc : ∀ w, C w → C' w) (h : OL P n ops Q rest l' C') : OL P n ops Q rest l C := ⟨fun a w s c => h.run a w (s.sub hs) (hc w c)⟩

/-- a call of a function value whose result is one of several: told by u -/
theorem OL.callvE {α : Type} (V : α → Value) (Φ : α → Prop) (C' : α → World → Prop) {f : FuncId} {first cap : List Value} {args : List Operand} {vs : List Value} {ats : Array TypeId} {dd : Nat} (hx : evl l x = some (true, .func (.func f) first.toArray cap.toArray)) (hn : Nat.ble (dd + 1) n = true) (hf : callable P f = true) (ha : Args l true args vs)
    (h : ∀ w, C w → Calls P f (first ++ vs ++ cap).toArray w fun e w' => ∃ u, e = .returned (V u) ∧ Φ u ∧ C' u w')
    (k : ∀ u, Φ u → OL P n ops Q rest ((dd, true, V u) :: l) (C' u)) : OL P n ops Q (⟨some dd, .call { callee := .value x, args := args.toArray, argTypes := ats }, ty, pos, af, none⟩ :: rest) l C := by
  have hn' := Nat.le_of_ble_eq_true hn
  refine ⟨fun a w hs hc => ?_⟩
  refine wpList_plain rfl fun K hK => ?_
  show Oper.upon P _ a K Q ((execOp a.eval _).run P w)
  rw [run_callv hf (hs.eval hx rfl)]
  show Calls P f _ w _
  rw [List.map_toArray, ha.map hs rfl]
  have h2 := h w hc
  simp only [List.append_toArray] at h2 ⊢
  refine h2.mono fun e w' ⟨u, he, hu, hr⟩ => ?_
  subst he
  exact hK _ _ ((k u hu).run _ w' (hs.put hn' true (V u)) hr)

/-- where two ways meet: what both leave is told once -/
theorem W.joinc {code r : Code} (l' : Env) (C' : World → Prop) (h1 : W P n code (Exit.then (fun a w => Sees n l' a ∧ C' w) Q) l C) (h2 : W P n r Q l' C') : W P n code (Exit.then (r.wp P Q) Q) l C :=
  ⟨fun a w hs hc => wp_mono (h1.run a w hs hc) fun e a' w' hq => by
    cases e with
    | normal => exact h2.run a' w' hq.1 hq.2
    | _ => exact hq⟩
theorem At.joined {l' : Env} {C' : World → Prop} (hs : Sub l l') (hc : ∀ w, C w → C' w) : At n (Exit.then (fun a w => Sees n l' a ∧ C' w) Q) .normal l C := ⟨fun a w s c => ⟨s.sub hs, hc w c⟩⟩
theorem Thin.same : ∀ {H : List Item}, Thin S H H
  | [] => .nil
  | _ :: _ => .keep Thin.same

theorem row_some {w : World} {base m cap size : Nat} {O : Nat → Prop} {q : Option Addr} {e : TypeId} {xs : List Value} (h : (row base O q m cap e size xs).holds w) (hm : 0 < m) : ∃ g0, q = some ⟨g0, 0, none⟩ := by
  rcases h.2.2 with ⟨h3, h4⟩ | ⟨g, cap', cur, h3, _⟩
  · omega
  · simp only [Value.slice.injEq] at h3
    exact ⟨g, h3.1⟩
/-- a store of one cell into a grown row -/
theorem OL.storeR {g0 o p base m cap : Nat} {O : Nat → Prop} {e : TypeId} {xs : List Value} {v : Value} {F : Item → List Item} (hx : evl l x = some (true, .pointer (some ⟨g0, o, none⟩))) (hy : evl l y = some (true, v)) (hv : v.cells = #[v])
    (hs : sizeN P t = some 1) (h1 : oneL [v] = true) (hH : Hole p H (row base O (some ⟨g0, 0, none⟩) m cap e 1 xs) F) (hl : o < xs.length)
    (kk : OL P n ops Q rest l (Cls (F (row base O (some ⟨g0, 0, none⟩) m cap e 1 (xs.set o v))) S)) : OL P n ops Q (⟨none, .store t x y, ty, pos, af, none⟩ :: rest) l (Cls H S) := by
  obtain ⟨hp, hF⟩ := hH.eq
  rw [hF] at kk
  refine OL.store_ (C' := Cls (H.set p (row base O (some ⟨g0, 0, none⟩) m cap e 1 (xs.set o v))) S) rfl rfl (fun a w hs' hc => ?_) kk
  have hi := hc.item (List.mem_of_getElem? hp)
  obtain ⟨hO, hxl, hor⟩ := hi
  rcases hor with ⟨h3, _⟩ | ⟨gg, cap', cur, h3, hb, hg, h4, h5, h6, h7⟩
  · cases h3
  · simp only [Value.slice.injEq, Option.some.injEq, Addr.mk.injEq] at h3
    obtain ⟨⟨rfl, _⟩, _, rfl⟩ := h3
    have hcl : o < cur.toList.length := by
      rw [← h7, List.length_take] at hl
      omega
    obtain ⟨w', hr', hh, hkp⟩ := run_storeAt_blk (P := P) (o := o) (vs := [v]) (cs := cur.toList) (t' := e) (w := w) (b := g0) (by simpa using hg) hs hv rfl (show o + 1 ≤ cur.toList.length from hcl) h1
    refine ⟨w', ?_, hc.turn p hp (j := row base O (some ⟨g0, 0, none⟩) m cap e 1 (xs.set o v)) ⟨hkp.os, hkp.tape, hkp.output, hkp.size, fun k hk hn => hkp.block k hk (fun e2 => hn (by rw [show k = g0 from e2]; exact ⟨hb, hO _ rfl⟩))⟩ ?_ (fun q hq => ⟨.inl hq, Nat.lt_of_lt_of_le (hc.lt _ (List.mem_of_getElem? hp) q hq) hkp.size⟩) (fun q hq => hq)⟩
    · simp only [execOp, hs'.eval hx rfl, hs'.eval hy rfl, Sem.run_bind, hr', Result.andThen_ok]; rfl
    · refine ⟨hO, by rw [List.length_set]; exact hxl, .inr ⟨g0, cap, (cur.toList.set o v).toArray, rfl, hb, hh, h4, h5, by simpa using h6, ?_⟩⟩
      rw [← h7]
      simp only [List.take_set]
theorem OL.cls {C' : World → Prop} (hc : ∀ w, C w → C' w) (h : OL P n ops Q rest l C') : OL P n ops Q rest l C := ⟨fun a w s c => h.run a w s (hc w c)⟩
theorem W.cls {code : Code} {C' : World → Prop} (hc : ∀ w, C w → C' w) (h : W P n code Q l C') : W P n code Q l C := ⟨fun a w s c => h.run a w s (hc w c)⟩
theorem Cls.perm {H' : List Item} {w : World} (h : Cls H S w) (hp : H.Perm H') : Cls H' S w :=
  ⟨fun i hi => h.holds i (hp.mem_iff.2 hi), fun i hi => h.lt i (hp.mem_iff.2 hi), (hp.pairwise_iff (fun {i j} hij k hj hi => hij k hi hj)).1 h.dj, fun s hs => (h.kp s hs).mono fun k _ ⟨i, hi, hk⟩ => ⟨i, hp.mem_iff.1 hi, hk⟩⟩
theorem Cls.last {w : World} {i : Item} (h : Cls (i :: H) S w) : Cls (H ++ [i]) S w := h.perm (List.perm_append_comm (l₁ := [i]))
theorem Cls.back2 {w : World} {i j k : Item} (h : Cls (i :: j :: k :: H) S w) : Cls (j :: k :: i :: H) S w := h.perm (List.Perm.append_right H (List.perm_append_comm (l₁ := [i]) (l₂ := [j, k])))
theorem Cls.flip {w : World} {i j : Item} (h : Cls (i :: j :: H) S w) : Cls (j :: i :: H) S w := h.perm (List.Perm.swap _ _ _)
/-- a result that stands in a variable's own block -/
theorem At.finC {fn : Func} {R : Ending → World → Prop} {tt b k : Nat} {t' : TypeId} {cs : List Value} (hr : fn.results = #[.cell tt ty]) (ht : look l tt = some (true, .pointer (some ⟨b, 0, none⟩))) (hp : blk b t' cs ∈ H) (hs : aggN P ty = some k) (hk : cs.length = k)
    (h : ∀ w, Cls H S w → R (.returned (.agg cs.toArray)) w) : At n (bodyPost P fn R) .ret l (Cls H S) :=
  ⟨fun a w hs' hc => ⟨hs'.df, .agg cs.toArray, by
    have h1 := hs'.at_ tt true _ ht
    have h2 := run_loadVar_agg (P := P) (t := ty) (vs := cs) (a := ⟨b, 0, none⟩) (w := w) (by rw [hk]; exact hs) (fun j v hj => by rw [add_mid, Nat.zero_add, blk_cell (hc.item hp)]; exact hj)
    simp [results, hr, Array.getD_eq_getD_getElem?, h1, asAddr, h2], h w hc⟩⟩
/-- append to a grown row that is not empty: its base needs no look -/
theorem OL.appendP {F : Item → List Item} {e : TypeId} {dd sz bb p m cap cap2 o b m2 : Nat} {base : Nat} {O : Nat → Prop} {q : Option Addr} {xs cs news : List Value} {t' : TypeId}
    (hx : evl l x = some (true, .slice q m cap)) (hy : evl l y = some (true, .slice (some ⟨b, o, none⟩) m2 cap2)) (hn : Nat.ble (dd + 1) n = true)
    (hu : rowElem P t = some (e, sz, bb)) (hp' : Hole p H (row base O q m cap e sz xs) F) (hb : blk b t' cs ∈ H) (ht : Take (m2 * sz) (cs.drop o) news) (h1 : oneL news = true) (hm2 : Nat.ble 1 m2 = true)
    (hpos : 0 < m) (hlim : (m + m2) ≤ 9223372036854775807 ∧ (m + m2) * bb ≤ 140737488355328)
    (k : ∀ (O' : Nat → Prop) (g' cap' : Nat), OL P n ops Q rest ((dd, true, .slice (some ⟨g', 0, none⟩) (m + m2) cap') :: l) (Cls (F (row base O' (some ⟨g', 0, none⟩) (m + m2) cap' e sz (xs ++ news))) S)) :
    OL P n ops Q (⟨some dd, .call { callee := .builtin .append, args := #[x, y], argTypes := #[t, t] }, ty, pos, af, none⟩ :: rest) l (Cls H S) := by
  refine ⟨fun a w hs hc => ?_⟩
  have hi := hc.item (List.mem_of_getElem? hp'.eq.1)
  have hbw : base ≤ w.heap.size := by
    rcases hi.2.2 with ⟨_, h4⟩ | ⟨g, cap', cur, h3, hb', hg, _⟩
    · omega
    · have := (Array.getElem?_eq_some_iff.1 hg).1
      omega
  have key := OL.append (S := w :: S) (P := P) (n := n) (ops := ops) (Q := Q) (rest := rest) (ty := ty) (pos := pos) (af := af) hx hy hn hu hp' hb ht h1 hm2 ⟨w, .head _, hbw⟩ hlim (fun O' g' cap' => OL.cls (C' := Cls (F (row base O' (some ⟨g', 0, none⟩) (m + m2) cap' e sz (xs ++ news))) S) (fun w' hw' => hw'.forget (fun s hs => .tail _ hs)) (k O' g' cap'))
  exact key.run a w hs hc.note
theorem Cls.nothing_cons {w : World} (h : Cls H S w) : Cls (nothing :: H) S w :=
  h.add (Keep.refl _ w) _ trivial (fun k hk => hk.elim)
end
end Go.Eng
