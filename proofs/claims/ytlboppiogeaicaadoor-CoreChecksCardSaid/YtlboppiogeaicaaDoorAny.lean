/- A region that draws its order and whose operations write memory beside one another: an invariant over the set of operations that are done. General. No condition. -/
import Derived.Test.YtlboppiogeaicaaDoorReg
import Derived.Test.YtlboppiogeaicaaDoorRow
namespace Go.Eng
open Go.RowKit
set_option linter.unusedVariables false
set_option linter.unusedSimpArgs false

/-- as Sub, where an entry may also tell what its slot held before -/
inductive SubO (l : Env) (n : Nat) (old : Nat → Value) : Env → Prop where
  | nil : SubO l n old []
  | cons {t : Nat} {c : Bool} {v : Value} {l' : Env} (h : look l t = some (c, v)) (r : SubO l n old l') : SubO l n old ((t, c, v) :: l')
  | old {t : Nat} {l' : Env} (h : Nat.ble (t + 1) n = true) (r : SubO l n old l') : SubO l n old ((t, true, old t) :: l')
theorem Sees.subO {n : Nat} {l l' : Env} {a : Act} {old : Nat → Value} (h : Sees n l a) (ho : ∀ t, t < n → a.tmps[t]? = some (old t)) (hs : SubO l n old l') : Sees n l' a := by
  refine ⟨h.df, h.sz, ?_⟩
  induction hs with
  | nil => intro t c v ht; cases ht
  | @cons t0 c0 v0 l0 h0 _ ih =>
    intro t c v ht
    simp only [Eng.look] at ht
    by_cases e : t0 = t
    · subst e
      rw [Nat.beq_refl, cond_true] at ht
      exact h.at_ t0 c v (by rw [h0]; exact ht)
    · rw [show Nat.beq t0 t = false from by rw [Bool.eq_false_iff]; intro hb; exact e (Nat.eq_of_beq_eq_true hb), cond_false] at ht
      exact ih t c v ht
  | @old t0 l0 h0 _ ih =>
    intro t c v ht
    simp only [Eng.look] at ht
    by_cases e : t0 = t
    · subst e
      rw [Nat.beq_refl, cond_true] at ht
      simp only [Option.some.injEq, Prod.mk.injEq] at ht
      obtain ⟨rfl, rfl⟩ := ht
      exact ho t0 (Nat.le_of_ble_eq_true h0)
    · rw [show Nat.beq t0 t = false from by rw [Bool.eq_false_iff]; intro hb; exact e (Nat.eq_of_beq_eq_true hb), cond_false] at ht
      exact ih t c v ht
theorem Sub.cons_eq {l l' : Env} {t : Nat} {c : Bool} {v v' : Value} (h : Eng.look l t = some (c, v')) (hv : v' = v) (r : Sub l l') : Sub l ((t, c, v) :: l') := .cons (by rw [h, hv]) r
def upd (e : Nat → Bool) (i : Nat) : Nat → Bool := fun j => Nat.beq j i || e j
/-- how many of the first n are not done -/
def cnt (e : Nat → Bool) : Nat → Nat
  | 0 => 0
  | n + 1 => cnt e n + (if e n then 0 else 1)
theorem upd_ne {e : Nat → Bool} {i j : Nat} (h : j ≠ i) : upd e i j = e j := by
  have : Nat.beq j i = false := by
    rw [Bool.eq_false_iff]; intro hb; exact h (Nat.eq_of_beq_eq_true hb)
  simp [upd, this]
theorem upd_eq {e : Nat → Bool} {i : Nat} : upd e i i = true := by simp [upd, Nat.beq_refl]
theorem cnt_upd {e : Nat → Bool} {i : Nat} (h : e i = false) : ∀ n, cnt (upd e i) n = if i < n then cnt e n - 1 else cnt e n
  | 0 => by simp [cnt]
  | n + 1 => by
    have ih := cnt_upd h n
    have hpos : ∀ n, i < n → 1 ≤ cnt e n := by
      intro n
      induction n with
      | zero => intro h; omega
      | succ n ih =>
        intro hn
        rw [cnt]
        by_cases hin : i = n
        · subst hin; rw [h]; simp
        · have := ih (by omega); omega
    rw [cnt, cnt, ih]
    by_cases hin : i = n
    · subst hin
      rw [upd_eq, h]; simp
    · rw [upd_ne (Ne.symm hin)]
      by_cases hl : i < n
      · have := hpos n hl
        have h3 : i < n + 1 := by omega
        rw [if_pos hl, if_pos h3]; omega
      · have h3 : ¬ i < n + 1 := by omega
        rw [if_neg hl, if_neg h3]
theorem cnt_zero {e : Nat → Bool} : ∀ {n}, cnt e n = 0 → ∀ i, i < n → e i = true
  | 0, _, i, hi => by omega
  | n + 1, h, i, hi => by
    rw [cnt] at h
    by_cases hin : i = n
    · subst hin
      cases he : e i
      · rw [he] at h; simp at h
      · rfl
    · exact cnt_zero (n := n) (by omega) i (by omega)
theorem cnt_pos {e : Nat → Bool} : ∀ {n}, (∀ i, i < n → e i = true) → cnt e n = 0
  | 0, _ => rfl
  | n + 1, h => by rw [cnt, cnt_pos (fun i hi => h i (by omega)), h n (by omega)]; rfl

section
variable {P : Program} {ops : Array Oper} {Q : Exit → Act → World → Prop}
/-- every operation waits for earlier ones alone -/
def backB (ops : Array Oper) : Bool := (List.range ops.size).all fun j => match ops[j]? with
  | some o => o.after.all fun e => !Region.binds .any e || Nat.blt e.on j
  | none => true
theorem backB_spec (h : backB ops = true) {j : Nat} {o : Oper} (hj : ops[j]? = some o) {e : Edge} (he : e ∈ o.after) (hbd : Region.binds .any e = true) : e.on < j := by
  have h1 := List.all_eq_true.1 h j (List.mem_range.2 (Array.getElem?_eq_some_iff.1 hj).1)
  simp only [hj] at h1
  have h2 := Array.all_eq_true_iff_forall_mem.1 h1 e he
  rw [hbd, Bool.not_true, Bool.false_or] at h2
  exact Nat.le_of_ble_eq_true h2
theorem ready_some (hb : backB ops = true) {li : Array Bool} {e : Nat → Bool} (hl : ∀ i, i < ops.size → e i = li.getD i false) (hs : li.size = ops.size) {k : Nat} (hk : k < ops.size) (hk' : e k = false) : Region.ready .any ops li ≠ [] := by
  -- the least one that is not done is ready
  obtain ⟨i, hi, hmin⟩ : ∃ i, (i < ops.size ∧ e i = false) ∧ ∀ j, j < i → ¬ (j < ops.size ∧ e j = false) := by
    induction k using Nat.strongRecOn with
    | _ k ih =>
      by_cases hex : ∃ j, j < k ∧ (j < ops.size ∧ e j = false)
      · obtain ⟨j, hj, h1, h2⟩ := hex
        exact ih j hj h1 h2
      · exact ⟨k, ⟨hk, hk'⟩, fun j hj h => hex ⟨j, hj, h⟩⟩
  have hmem : i ∈ Region.ready .any ops li := by
    rw [mem_ready]
    refine ⟨?_, ops[i], Array.getElem?_eq_getElem hi.1, fun d hd hbd => ?_⟩
    · have := hl i hi.1
      rw [hi.2] at this
      have hlt : i < li.size := by omega
      simp [hlt] at this ⊢
      first | exact this | exact this.symm
    · have h1 := backB_spec hb (Array.getElem?_eq_getElem hi.1) hd hbd
      have h2 : e d.on = true := by
        cases hd' : e d.on
        · exact absurd ⟨by omega, hd'⟩ (hmin d.on h1)
        · rfl
      rw [← hl d.on (by omega)]; exact h2
  intro h0
  rw [h0] at hmem
  cases hmem

theorem wpAny_inv (hb : backB ops = true) (I : (Nat → Bool) → Act → World → Prop)
    (hstep : ∀ e i o a w, I e a w → ops[i]? = some o → e i = false → (∀ d ∈ o.after, Region.binds .any d = true → e d.on = true) → wpOp P ops Q i (I (upd e i)) a w)
    (hend : ∀ e a w, I e a w → (∀ i, i < ops.size → e i = true) → Q .normal a w) :
    ∀ (f : Nat) (li : Array Bool) (e : Nat → Bool) (a : Act) (w : World), (∀ i, i < ops.size → e i = li.getD i false) → li.size = ops.size → cnt e ops.size = f → I e a w → wpAny P .any ops Q f li a w
  | 0, li, e, a, w, hl, hs, hc, hI => by
    have hall := cnt_zero hc
    refine ⟨?_, hend e a w hI hall⟩
    rw [List.eq_nil_iff_forall_not_mem]
    intro i hi
    obtain ⟨h1, o, ho, _⟩ := mem_ready.1 hi
    have hlt := (Array.getElem?_eq_some_iff.1 ho).1
    have h2 := hl i hlt
    rw [hall i hlt] at h2
    have hlt' : i < li.size := by omega
    simp [hlt'] at h1 h2
    rw [h1] at h2
    cases h2
  | f + 1, li, e, a, w, hl, hs, hc, hI => by
    refine ⟨fun h0 => ?_, fun i hi => ?_⟩
    · exfalso
      have : ∃ k, k < ops.size ∧ e k = false := by
        refine Classical.byContradiction fun hn => ?_
        have := cnt_pos (e := e) (n := ops.size) (fun i hi => by
          cases he : e i
          · exact absurd ⟨i, hi, he⟩ hn
          · rfl)
        omega
      obtain ⟨k, hk, hk'⟩ := this
      exact ready_some hb hl hs hk hk' h0
    · obtain ⟨h1, o, ho, hall⟩ := mem_ready.1 hi
      have hlt := (Array.getElem?_eq_some_iff.1 ho).1
      have hlt' : i < li.size := by omega
      have hei : e i = false := by
        rw [hl i hlt]
        simp [hlt'] at h1 ⊢
        exact h1
      refine wpOp_mono (fun a' w' hI' => wpAny_inv hb I hstep hend f (li.setIfInBounds i true) (upd e i) a' w' (fun j hj => ?_) (by simp [hs]) ?_ hI') (hstep e i o a w hI ho hei (fun d hd hb' => ?_))
      · by_cases hji : j = i
        · subst hji; rw [upd_eq]; simp [hlt']
        · rw [upd_ne hji, getD_set_ne false (Ne.symm hji)]; exact hl j hj
      · rw [cnt_upd hei, if_pos hlt]; omega
      · have h2 := hall d hd hb'
        rw [← hl d.on (Nat.lt_trans (backB_spec hb ho hd hb') hlt)] at h2
        exact h2
end

section
variable {P : Program} {n : Nat} {l : Env} {C : World → Prop} {Q : Exit → Act → World → Prop} {S : List World}
/-- what one operation of the region is to leave -/
def Beside (n : Nat) (S : List World) {X : Type} (E : X → (Nat → Bool) → Env) (H : X → (Nat → Bool) → List Item) (e : Nat → Bool) (Q : Exit → Act → World → Prop) : Exit → Act → World → Prop := fun ex a w => match ex with
  | .normal => ∃ x, Sees n (E x e) a ∧ Cls (H x e) S w
  | ex => Q ex a w
/-- what is done is done with all that it waits for -/
def Closed (l0 : List Oper) (e : Nat → Bool) : Prop := ∀ j o, l0[j]? = some o → e j = true → ∀ d ∈ o.after, Region.binds .any d = true → e d.on = true
theorem upd_mono {e : Nat → Bool} {i j : Nat} (h : e j = true) : upd e i j = true := by simp [Eng.upd, h]
theorem Closed.upd {l0 : List Oper} {e : Nat → Bool} (h : Closed l0 e) {i : Nat} {o : Oper} (ho : l0[i]? = some o) (hd : ∀ d ∈ o.after, Region.binds .any d = true → e d.on = true) : Closed l0 (Eng.upd e i) := fun j o' ho' hj d hd' hb => by
  by_cases hji : j = i
  · subst hji
    rw [ho] at ho'
    obtain rfl := Option.some.inj ho'
    exact upd_mono (hd d hd' hb)
  · rw [upd_ne hji] at hj
    exact upd_mono (h j o' ho' hj d hd' hb)
/-- what waits for an operation that is not done is not done -/
theorem Closed.not {l0 : List Oper} {e : Nat → Bool} (h : Closed l0 e) {i j : Nat} {o : Oper} (ho : l0[j]? = some o) (hi : e i = false) (hd : (o.after.any fun d => Nat.beq d.on i && Region.binds .any d) = true) : e j = false := by
  cases hj : e j
  · rfl
  · rw [Array.any_eq_true] at hd
    obtain ⟨k, hk, h3⟩ := hd
    simp only [Bool.and_eq_true, Nat.beq_eq] at h3
    have := h j o ho hj _ (Array.getElem_mem hk) h3.2
    rw [h3.1, hi] at this
    exact this.symm
theorem At.beside {X : Type} {E : X → (Nat → Bool) → Env} {H : X → (Nat → Bool) → List Item} {e : Nat → Bool} (x : X) (hs : Sub l (E x e)) (hc : ∀ w, C w → Cls (H x e) S w) : At n (Beside n S E H e Q) .normal l C :=
  ⟨fun a w s c => ⟨x, s.sub hs, hc w c⟩⟩
theorem upon_Q {o : Oper} {a : Act} {K : Act → World → Prop} {Q Q' : Exit → Act → World → Prop} (hp : ∀ e a w, e ≠ .normal → Q e a w → Q' e a w) {r : Result Next} (h : Oper.upon P o a K Q r) : Oper.upon P o a K Q' r := by
  have hlet : LetsOut Q → LetsOut Q' := fun ⟨a, w, hq⟩ => ⟨a, w, hp _ _ _ (by simp) hq⟩
  cases r with
  | ok n w' =>
    cases n <;> simp only [Oper.upon] at h ⊢ <;>
      first
        | exact h
        | exact Calls.mono h (fun e w'' he => by cases e <;> first | exact he | exact hp _ _ _ (by simp) he | exact hlet he)
  | halt x w' =>
    cases x <;> simp only [Oper.upon] at h ⊢ <;> first | exact h | exact hp _ _ _ (by simp) h
theorem wpOp_of_one {ops : Array Oper} {i : Nat} {o : Oper} {a : Act} {w : World} {X : Type} {E : X → (Nat → Bool) → Env} {H : X → (Nat → Bool) → List Item} {e : Nat → Bool} (ho : ops[i]? = some o)
    (h : wpList P ops (Beside n S E H e Q) [o] a w) : wpOp P ops Q i (fun a w => ∃ x, Sees n (E x e) a ∧ Cls (H x e) S w) a w := by
  have hp : ∀ ex a w, ex ≠ .normal → Beside n S E H e Q ex a w → Q ex a w := fun ex a w hne h => by
    cases ex <;> first | exact h | exact absurd rfl hne
  unfold wpOp
  simp only [ho]
  unfold wpList at h
  split
  · rename_i hw
    rw [if_pos hw] at h
    rcases h with h | ⟨h, a', w', hq⟩
    · refine .inl ?_
      unfold Oper.wp at h ⊢
      exact upon_Q hp h
    · exact .inr ⟨h, a', w', hp _ _ _ (by simp) hq⟩
  · rename_i hw
    rw [if_neg hw] at h
    exact h
theorem W.regany {id : Nat} {l0 : List Oper} {X : Type} (E : X → (Nat → Bool) → Env) (H : X → (Nat → Bool) → List Item) (x0 : (Nat → Value) → X) (hm : P.follows .mixedOrders = true) (hb : backB l0.toArray = true) (hC : ∀ w, C w → C { w with drawn := w.drawn + 1 })
    (h0 : ∀ old, SubO l n old (E (x0 old) (fun _ => false))) (hc0 : ∀ old w, C w → Cls (H (x0 old) (fun _ => false)) S w)
    (step : ∀ x e i o, l0[i]? = some o → e i = false → (∀ d ∈ o.after, Region.binds .any d = true → e d.on = true) → Closed l0 e → OL P n l0.toArray (Beside n S E H (upd e i) Q) [o] (E x e) (Cls (H x e) S))
    (fin : ∀ x e, (∀ i, i < l0.length → e i = true) → At n Q .normal (E x e) (Cls (H x e) S)) : W P n (.region id l0.toArray true) Q l C := ⟨fun a w hs hc => by
  refine wp_region_any hm (wpAny_inv hb (fun e a w => Closed l0 e ∧ ∃ x, Sees n (E x e) a ∧ Cls (H x e) S w) ?_ ?_ _ _ (fun _ => false) a _ ?_ (by simp) ?_ ⟨fun j o _ h => (by cases h), x0 (fun t => (a.tmps[t]?).getD undef), hs.subO (fun t ht => (by rw [Array.getElem?_eq_getElem (by rw [hs.sz]; exact ht)]; rfl)) (h0 _), hc0 _ _ (hC w hc)⟩)
  · rintro e i o a w ⟨hcl, x, hs, hc⟩ ho hei hd
    have ho' : l0[i]? = some o := by simpa using ho
    exact wpOp_mono (fun a w h => ⟨hcl.upd ho' hd, h⟩) (wpOp_of_one (by simpa using ho) ((step x e i o ho' hei hd hcl).run a w hs hc))
  · rintro e a w ⟨_, x, hs, hc⟩ hall
    exact (fin x e (fun i hi => hall i (by simpa using hi))).run a w hs hc
  · intro i hi
    simp at hi
    simp [hi]
  · have : ∀ n, cnt (fun _ => false) n = n := by
      intro n; induction n with
      | zero => rfl
      | succ n ih => rw [cnt, ih]; rfl
    rw [this]⟩
end

/-- an item that says nothing: a place for a block that is not there yet -/
def nothing : Item := ⟨fun _ => False, fun _ => True, fun _ _ _ _ => trivial⟩
theorem NotOwned.nothing {H : List Item} {k : Nat} (r : NotOwned H k) : NotOwned (Eng.nothing :: H) k := NotOwned.any (fun h => h) r
theorem NotOwned.bif {c : Bool} {i j : Item} {H : List Item} {k : Nat} (hi : NotOwned [i] k) (hj : NotOwned [j] k) (r : NotOwned H k) : NotOwned ((bif c then i else j) :: H) k := by
  refine NotOwned.any (fun h => ?_) r
  cases c
  · exact hj.not ⟨j, by simp, h⟩
  · exact hi.not ⟨i, by simp, h⟩
theorem Hole.parts {p : Nat} {H : List Item} {i : Item} {F : Item → List Item} (h : Hole p H i F) : ∃ H1 H2, H = H1 ++ i :: H2 ∧ ∀ j, F j = H1 ++ j :: H2 := by
  induction h with
  | z => exact ⟨[], _, rfl, fun j => rfl⟩
  | s h ih =>
    obtain ⟨H1, H2, h1, h2⟩ := ih
    exact ⟨_ :: H1, H2, by rw [h1]; rfl, fun j => by show _ :: _ = _; rw [h2 j]; rfl⟩
theorem Cls.fill {p : Nat} {H : List Item} {S : List World} {j : Item} {F : Item → List Item} {w : World} (hh : Hole p H nothing F) (h : Cls (j :: H) S w) : Cls (F j) S w := by
  obtain ⟨H1, H2, rfl, hF⟩ := hh.parts
  rw [hF]
  have hsub : ∀ i, i ∈ H1 ++ j :: H2 → i ∈ j :: (H1 ++ nothing :: H2) := fun i hi => by
    simp only [List.mem_append, List.mem_cons] at hi ⊢
    rcases hi with h | h | h
    · exact .inr (.inl h)
    · exact .inl h
    · exact .inr (.inr (.inr h))
  have hd := h.dj
  rw [List.pairwise_cons, List.pairwise_append, List.pairwise_cons] at hd
  obtain ⟨hj, h1, ⟨_, h2⟩, h12⟩ := hd
  refine ⟨fun i hi => h.holds i (hsub i hi), fun i hi => h.lt i (hsub i hi), ?_, fun s hs => (h.kp s hs).mono fun k _ ⟨i, hi, hk⟩ => ?_⟩
  · rw [List.pairwise_append, List.pairwise_cons]
    refine ⟨h1, ⟨fun b hb => hj b (by simp [hb]), h2⟩, fun a ha b hb => ?_⟩
    rcases List.mem_cons.1 hb with rfl | hb
    · exact fun k hk hk' => hj a (by simp [ha]) k hk' hk
    · exact h12 a ha b (by simp [hb])
  · simp only [List.mem_cons, List.mem_append] at hi
    rcases hi with rfl | h | rfl | h
    · exact ⟨_, by simp, hk⟩
    · exact ⟨i, by simp [h], hk⟩
    · exact hk.elim
    · exact ⟨i, by simp [h], hk⟩
theorem Cls.add_nothing {H : List Item} {S : List World} {w : World} (h : Cls H S w) : Cls (H ++ [nothing]) S w := by
  refine ⟨fun i hi => ?_, fun i hi => ?_, ?_, fun s hs => (h.kp s hs).mono fun k _ ⟨i, hi, hk⟩ => ⟨i, by simp [hi], hk⟩⟩
  · rcases List.mem_append.1 hi with h' | h'
    · exact h.holds i h'
    · rw [List.mem_singleton.1 h']; trivial
  · rcases List.mem_append.1 hi with h' | h'
    · exact h.lt i h'
    · rw [List.mem_singleton.1 h']; exact fun k hk => hk.elim
  · rw [List.pairwise_append]
    exact ⟨h.dj, List.pairwise_singleton _ _, fun a _ b hb k _ hk => by rw [List.mem_singleton.1 hb] at hk; exact hk⟩
end Go.Eng
