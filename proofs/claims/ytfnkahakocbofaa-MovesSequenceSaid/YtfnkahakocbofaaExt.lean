/- More rules: what a class tells, calls of function values that change the class, a store into a grown row, forgetting ahead of an unknown rest. General. No condition. -/
import Derived.Test.YtfnkahakocbofaaBuf
import Derived.Test.YtfnkahakocbofaaAny
namespace Go.Eng
open Go.RowKit
set_option linter.unusedVariables false
section
variable {P : Program} {n : Nat} {l : Env} {H : List Item} {S : List World} {C : World → Prop} {c : Bool} {d : Option Nat} {ty : TypeId} {pos : String} {af : Array Edge} {g : Option (Nat × Bool)}
variable {ops : Array Oper} {rest : List Oper} {Q : Exit → Act → World → Prop} {t : TypeId} {x y z : Operand} {cx cy cz : Bool}

theorem W.fact {code : Code} {φ : Prop} (h : ∀ w, C w → φ) (k : φ → W P n code Q l C) : W P n code Q l C := ⟨fun a w hs hc => (k (h w hc)).run a w hs hc⟩
theorem OL.fact {φ : Prop} (h : ∀ w, C w → φ) (k : φ → OL P n ops Q rest l C) : OL P n ops Q rest l C := ⟨fun a w hs hc => (k (h w hc)).run a w hs hc⟩
theorem At.fact {e : Exit} {φ : Prop} (h : ∀ w, C w → φ) (k : φ → At n Q e l C) : At n Q e l C := ⟨fun a w hs hc => (k (h w hc)).run a w hs hc⟩
theorem OL.sub {l' : Env} {C' : World → Prop} (hs : Sub l l') (hc : ∀ w, C w → C' w) (h : OL P n ops Q rest l' C') : OL P n ops Q rest l C := ⟨fun a w s c => h.run a w (s.sub hs) (hc w c)⟩

/-- a call of a function value whose result is one of several: told by u -/
theorem OL.callvE {α : Type} (V : α → Value) (Φ : α → Prop) (C' : α → World → Prop) {f : FuncId} {first cap : List Value} {args : List Operand} {vs : List Value} {ats : Array TypeId} {dd : Nat} (hx : evl l x = some (true, .func (.func f) first.toArray cap.toArray)) (hn : Nat.ble (dd + 1) n = true) (hf : callable P f = true) (ha : Args l true args vs)
    (h : ∀ w, C w → Calls P f (first ++ vs ++ cap).toArray w fun e w' => ∃ u, e = .returned (V u) ∧ Φ u ∧ C' u w')
    (k : ∀ u, Φ u → OL P n ops Q rest ((dd, true, V u) :: l) (C' u)) : OL P n ops Q (⟨some dd, .call { callee := .value x, args := args.toArray, argTypes := ats }, ty, pos, af, none⟩ :: rest) l C := by
  have hn' := Nat.le_of_ble_eq_true hn
  refine ⟨fun a w hs hc => ?_⟩
  refine wpList_plain rfl fun K hK => ?_
  show Oper.upon P _ a K Q ((execOp a.eval _).run P w)
  rw [run_callv hf (hs.eval hx rfl)]
  show Calls P f _ w _
  rw [List.map_toArray, ha.map hs rfl]
  have h2 := h w hc
  simp only [List.append_toArray] at h2 ⊢
  refine h2.mono fun e w' ⟨u, he, hu, hr⟩ => ?_
  subst he
  exact hK _ _ ((k u hu).run _ w' (hs.put hn' true (V u)) hr)

theorem Thin.same : ∀ {H : List Item}, Thin S H H
  | [] => .nil
  | _ :: _ => .keep Thin.same

theorem row_some {w : World} {base m cap size : Nat} {O : Nat → Prop} {q : Option Addr} {e : TypeId} {xs : List Value} (h : (row base O q m cap e size xs).holds w) (hm : 0 < m) : ∃ g0, q = some ⟨g0, 0, none⟩ := by
  rcases h.2.2 with ⟨h3, h4⟩ | ⟨g, cap', cur, h3, _⟩
  · omega
  · simp only [Value.slice.injEq] at h3
    exact ⟨g, h3.1⟩
/-- a store of one cell into a grown row -/
theorem OL.storeR {g0 o p base m cap : Nat} {O : Nat → Prop} {e : TypeId} {xs : List Value} {v : Value} {F : Item → List Item} (hx : evl l x = some (true, .pointer (some ⟨g0, o, none⟩))) (hy : evl l y = some (true, v)) (hv : v.cells = #[v])
    (hs : sizeN P t = some 1) (h1 : oneL [v] = true) (hH : Hole p H (row base O (some ⟨g0, 0, none⟩) m cap e 1 xs) F) (hl : o < xs.length)
    (kk : OL P n ops Q rest l (Cls (F (row base O (some ⟨g0, 0, none⟩) m cap e 1 (xs.set o v))) S)) : OL P n ops Q (⟨none, .store t x y, ty, pos, af, none⟩ :: rest) l (Cls H S) := by
  obtain ⟨hp, hF⟩ := hH.eq
  rw [hF] at kk
  refine OL.store_ (C' := Cls (H.set p (row base O (some ⟨g0, 0, none⟩) m cap e 1 (xs.set o v))) S) rfl rfl (fun a w hs' hc => ?_) kk
  have hi := hc.item (List.mem_of_getElem? hp)
  obtain ⟨hO, hxl, hor⟩ := hi
  rcases hor with ⟨h3, _⟩ | ⟨gg, cap', cur, h3, hb, hg, h4, h5, h6, h7⟩
  · cases h3
  · simp only [Value.slice.injEq, Option.some.injEq, Addr.mk.injEq] at h3
    obtain ⟨⟨rfl, _⟩, _, rfl⟩ := h3
    have hcl : o < cur.toList.length := by
      rw [← h7, List.length_take] at hl
      omega
    obtain ⟨w', hr', hh, hkp⟩ := run_storeAt_blk (P := P) (o := o) (vs := [v]) (cs := cur.toList) (t' := e) (w := w) (b := g0) (by simpa using hg) hs hv rfl (show o + 1 ≤ cur.toList.length from hcl) h1
    refine ⟨w', ?_, hc.turn p hp (j := row base O (some ⟨g0, 0, none⟩) m cap e 1 (xs.set o v)) ⟨hkp.os, hkp.tape, hkp.output, hkp.size, fun k hk hn => hkp.block k hk (fun e2 => hn (by rw [show k = g0 from e2]; exact ⟨hb, hO _ rfl⟩))⟩ ?_ (fun q hq => ⟨.inl hq, Nat.lt_of_lt_of_le (hc.lt _ (List.mem_of_getElem? hp) q hq) hkp.size⟩) (fun q hq => hq)⟩
    · simp only [execOp, hs'.eval hx rfl, hs'.eval hy rfl, Sem.run_bind, hr', Result.andThen_ok]; rfl
    · refine ⟨hO, by rw [List.length_set]; exact hxl, .inr ⟨g0, cap, (cur.toList.set o v).toArray, rfl, hb, hh, h4, h5, by simpa using h6, ?_⟩⟩
      rw [← h7]
      simp only [List.take_set]
theorem OL.cls {C' : World → Prop} (hc : ∀ w, C w → C' w) (h : OL P n ops Q rest l C') : OL P n ops Q rest l C := ⟨fun a w s c => h.run a w s (hc w c)⟩
theorem W.cls {code : Code} {C' : World → Prop} (hc : ∀ w, C w → C' w) (h : W P n code Q l C') : W P n code Q l C := ⟨fun a w s c => h.run a w s (hc w c)⟩
theorem Cls.perm {H' : List Item} {w : World} (h : Cls H S w) (hp : H.Perm H') : Cls H' S w :=
  ⟨fun i hi => h.holds i (hp.mem_iff.2 hi), fun i hi => h.lt i (hp.mem_iff.2 hi), (hp.pairwise_iff (fun {i j} hij k hj hi => hij k hi hj)).1 h.dj, fun s hs => (h.kp s hs).mono fun k _ ⟨i, hi, hk⟩ => ⟨i, hp.mem_iff.1 hi, hk⟩⟩
theorem Cls.last {w : World} {i : Item} (h : Cls (i :: H) S w) : Cls (H ++ [i]) S w := h.perm (List.perm_append_comm (l₁ := [i]))
theorem Cls.flip {w : World} {i j : Item} (h : Cls (i :: j :: H) S w) : Cls (j :: i :: H) S w := h.perm (List.Perm.swap _ _ _)
theorem Cls.nothing_cons {w : World} (h : Cls H S w) : Cls (nothing :: H) S w :=
  h.add (Keep.refl _ w) _ trivial (fun k hk => hk.elim)
end
end Go.Eng
