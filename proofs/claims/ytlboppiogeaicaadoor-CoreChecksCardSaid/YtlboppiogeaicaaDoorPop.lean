/- Grown rows of structs: their elements read in place, the last ones taken away. General. No condition. -/
import Derived.Test.YtlboppiogeaicaaDoorExt
import Derived.Test.YtlboppiogeaicaaDoorCat
namespace Go.Eng
open Go.RowKit
set_option linter.unusedVariables false
set_option linter.unusedSimpArgs false

section
variable {P : Program} {n : Nat} {l : Env} {C : World → Prop} {Q : Exit → Act → World → Prop}
/-- where two ways meet in a state that is told by g -/
theorem W.joinx {G : Type} {code r : Code} (Φ : G → Prop) (lg : G → Env) (Cg : G → World → Prop) (h1 : W P n code (Exit.then (fun a w => ∃ g, Φ g ∧ Sees n (lg g) a ∧ Cg g w) Q) l C) (h2 : ∀ g, Φ g → W P n r Q (lg g) (Cg g)) : W P n code (Exit.then (r.wp P Q) Q) l C :=
  ⟨fun a w hs hc => wp_mono (h1.run a w hs hc) fun e a' w' hq => by
    cases e with
    | normal =>
      obtain ⟨g, hg, hs', hc'⟩ := hq
      exact (h2 g hg).run a' w' hs' hc'
    | _ => exact hq⟩
theorem At.joinedx {G : Type} {Φ : G → Prop} {lg : G → Env} {Cg : G → World → Prop} (g : G) (hg : Φ g) (hs : Sub l (lg g)) (hc : ∀ w, C w → Cg g w) : At n (Exit.then (fun a w => ∃ g, Φ g ∧ Sees n (lg g) a ∧ Cg g w) Q) .normal l C := ⟨fun a w s c => ⟨g, hg, s.sub hs, hc w c⟩⟩
end
theorem row_cap {w : World} {base m cap size : Nat} {O : Nat → Prop} {q : Option Addr} {e : TypeId} {xs : List Value} (h : (row base O q m cap e size xs).holds w) : m ≤ cap := by
  rcases h.2.2 with ⟨h3, h4⟩ | ⟨g, cap', cur, h3, _, _, hn, _⟩
  · omega
  · simp only [Value.slice.injEq] at h3
    omega
/-- the last elements of a grown row go -/
theorem Cls.rowPop {p : Nat} {H : List Eng.Item} {S : List World} {w : World} {base m cap size : Nat} {O : Nat → Prop} {q : Option Addr} {e : TypeId} {xs : List Value} {F : Eng.Item → List Eng.Item} (m' : Nat) (xs' : List Value) (hh : Hole p H (row base O q m cap e size xs) F) (hm : m' ≤ m) (hx : xs' = xs.take (m' * size)) (h : Cls H S w) : Cls (F (row base O q m' cap e size xs')) S w := by
  obtain ⟨h1, h2⟩ := hh.eq
  rw [h2]
  refine h.turn p h1 (Keep.refl _ _) ?_ (fun k hk => ⟨.inl hk, ?_⟩) (fun k hk => hk)
  · have hi := h.holds _ (List.mem_of_getElem? h1)
    obtain ⟨ha, hb, hc⟩ := hi
    refine ⟨ha, ?_, ?_⟩
    · rw [hx, List.length_take, hb]
      exact Nat.min_eq_left (Nat.mul_le_mul_right _ hm)
    · rcases hc with ⟨hv, hn⟩ | ⟨g, cap2, cur, hv, hg, hh2, hn, hc2, hs, ht⟩
      · simp only [Value.slice.injEq] at hv
        obtain ⟨rfl, _, rfl⟩ := hv
        exact .inl ⟨by rw [show m' = 0 by omega], by omega⟩
      · simp only [Value.slice.injEq] at hv
        obtain ⟨rfl, _, rfl⟩ := hv
        refine .inr ⟨g, _, cur, rfl, hg, hh2, by omega, hc2, hs, ?_⟩
        rw [hx, ← ht, List.take_take, Nat.min_eq_left (Nat.mul_le_mul_right _ hm)]
  · exact h.lt _ (List.mem_of_getElem? h1) k hk
theorem Cls.in3 {H : List Eng.Item} {S : List World} {w : World} {i a b c : Eng.Item} (h : Cls (i :: a :: b :: c :: H) S w) : Cls (a :: b :: c :: i :: H) S w := h.perm (List.Perm.append_right H (List.perm_append_comm (l₁ := [i]) (l₂ := [a, b, c])))
theorem Cls.out3 {H : List Eng.Item} {S : List World} {w : World} {i a b c : Eng.Item} (h : Cls (a :: b :: c :: i :: H) S w) : Cls (i :: a :: b :: c :: H) S w := h.perm (List.Perm.append_right H (List.perm_append_comm (l₁ := [a, b, c]) (l₂ := [i])))
theorem Cls.in4 {H : List Eng.Item} {S : List World} {w : World} {i a b c d : Eng.Item} (h : Cls (i :: a :: b :: c :: d :: H) S w) : Cls (a :: b :: c :: d :: i :: H) S w := h.perm (List.Perm.append_right H (List.perm_append_comm (l₁ := [i]) (l₂ := [a, b, c, d])))
theorem Cls.out4 {H : List Eng.Item} {S : List World} {w : World} {i a b c d : Eng.Item} (h : Cls (a :: b :: c :: d :: i :: H) S w) : Cls (i :: a :: b :: c :: d :: H) S w := h.perm (List.Perm.append_right H (List.perm_append_comm (l₁ := [a, b, c, d]) (l₂ := [i])))
/-- type and place of a field that is one cell -/
def fieldT (P : Program) (t : TypeId) (i : Nat) : Option (TypeId × Nat) := match P.underlying t with
  | some (.struct fs) => match fs[i]? with
    | some f => match lit f.offset with
      | some o => match scalB P f.type with
        | true => some (f.type, o)
        | false => none
      | none => none
    | none => none
  | _ => none
section
variable {P : Program} {n : Nat} {l : Env} {H : List Item} {S : List World} {C : World → Prop} {c : Bool} {d : Option Nat} {ty : TypeId} {pos : String} {af : Array Edge} {g : Option (Nat × Bool)} {t : TypeId} {x : Operand} {cx : Bool}
variable {α : Type} {f : α → List Value} {sz : Nat}
theorem Pev.pick_off {x y z : Operand} {cx cz b : Bool} {v : Value} (hx : evl l x = some (cx, .bool b)) (hc : c = true → cx = true) (hb : c = true → b = false) (hz : evl l z = some (cz, v)) (hcz : c = true → cz = true) : Pev P n l C ⟨d, .pick x y z, ty, pos, af, g⟩ c v :=
  .of_run fun h a w hs hw => by
    rw [run_pick (hs.eval hx (hc h)), hb h, cond_false, hs.eval hz (hcz h)]
theorem Pev.pick_on {x y z : Operand} {cx cy b : Bool} {v : Value} (hx : evl l x = some (cx, .bool b)) (hc : c = true → cx = true) (hb : c = true → b = true) (hy : evl l y = some (cy, v)) (hcy : c = true → cy = true) : Pev P n l C ⟨d, .pick x y z, ty, pos, af, g⟩ c v :=
  .of_run fun h a w hs hw => by
    rw [run_pick (hs.eval hx (hc h)), hb h, cond_true, hs.eval hy (hcy h)]
/-- a field of a struct that is no variable -/
theorem Pev.field {i o : Nat} {ft : TypeId} {cs : List Value} {v : Value} (hx : evl l x = some (cx, .agg cs.toArray)) (hcx : c = true → cx = true) (hf : fieldT P t i = some (ft, o)) (hv : cs[o]? = some v) : Pev P n l C ⟨d, .field t x i, ty, pos, af, g⟩ c v :=
  .of_run fun h a w hs hw => by
    unfold fieldT at hf
    cases hu : P.underlying t with
    | none => simp [hu] at hf
    | some dd =>
      rw [hu] at hf
      cases dd <;> simp only [reduceCtorEq] at hf
      rename_i fs
      cases hi : fs[i]? with
      | none => simp [hi] at hf
      | some f =>
        simp only [hi] at hf
        cases ho : lit f.offset with
        | none => simp [ho] at hf
        | some o' =>
          simp only [ho] at hf
          cases hb : scalB P f.type with
          | false => simp [hb] at hf
          | true =>
            simp only [hb] at hf
            simp only [Option.some.injEq, Prod.mk.injEq] at hf
            obtain ⟨_, rfl⟩ := hf
            have h2 := lit_eq ho
            simp [execOp, Instr.field, Sem.run_bind, run_underlying hu, hs.eval hx (hcx h), hi, asAgg, part, run_isAgg_scal hb, h2, hv]
/-- a field of an element of a grown row -/
theorem Pev.load_rowC {b o j i base m cap : Nat} {O : Nat → Prop} {e : TypeId} {L : List α} {u : α} {v : Value} (hx : evl l x = some (cx, .pointer (some ⟨b, o + j, none⟩))) (hcx : c = true → cx = true) (hp : row base O (some ⟨b, 0, none⟩) m cap e sz (cat f L) ∈ H)
    (hs : scalB P t = true) (hf : ∀ x, (f x).length = sz) (hL : c = true → L[i]? = some u) (hv : (f u)[j]? = some v) (ho : c = true → o = i * sz) : Pev P n l (Cls H S) ⟨d, .load t x, ty, pos, af, g⟩ c v :=
  .load_of hx hcx fun hc w hw => run_loadVar_scal hs (by
    rw [ho hc]
    exact row_cell (hw.item hp) (cat_get hf (hL hc) j v hv))
/-- an element of a grown row -/
theorem Pev.load_rowE {b o i base m cap : Nat} {O : Nat → Prop} {e : TypeId} {L : List α} {u : α} (hx : evl l x = some (cx, .pointer (some ⟨b, o, none⟩))) (hcx : c = true → cx = true) (hp : row base O (some ⟨b, 0, none⟩) m cap e sz (cat f L) ∈ H)
    (hs : aggN P t = some sz) (hf : ∀ x, (f x).length = sz) (hL : c = true → L[i]? = some u) (ho : c = true → o = i * sz) : Pev P n l (Cls H S) ⟨d, .load t x, ty, pos, af, g⟩ c (.agg (f u).toArray) :=
  .load_of hx hcx fun hc w hw => run_loadVar_agg (by rw [hf]; exact hs) fun j v hj => by
    rw [ho hc, add_mid]
    exact row_cell (hw.item hp) (cat_get hf (hL hc) j v hj)
end
end Go.Eng
