/- A region that draws its order, whose pure operations come first, whatever its other ones wait for, and whose other ones then follow one behind another. General. No condition. -/
import Derived.Test.YtlboppiogeaicaaDoorAny
namespace Go.Eng
open Go.RowKit
set_option linter.unusedVariables false
set_option linter.unusedSimpArgs false

/-- an operation that makes nothing and writes nothing -/
def pureB (o : Oper) : Bool := match o.op with
  | .move _ => true
  | .assign _ => true
  | .pick .. => true
  | .build .. => true
  | .load .. => true
  | .nilCheck _ => true
  | .binOp .. => true
  | .unOp .. => true
  | .convert .. => true
  | .makeFunc .. => true
  | .slice .. => true
  | .fieldAddr .. => true
  | .field .. => true
  | .indexAddr .. => true
  | .index .. => true
  | .lookup .. => true
  | .extract .. => true
  | .call c => match c.callee with
    | .builtin .len => true
    | .builtin .min => true
    | .builtin .max => true
    | _ => false
  | _ => false
/-- an operation that looks at memory -/
def depB (o : Oper) : Bool := match o.op with
  | .load .. => true
  | .lookup .. => true
  | .index .. => true
  | .convert .. => true
  | _ => false

section
variable {P : Program} {ops : Array Oper} {C0 : World → Prop}
theorem value_only {M : Sem Value} {w : World} {n : Next} {w' : World} (h : (do pure (.value (← M)) : Sem Next).run P w = .ok n w') : ∃ u, n = .value u := by
  rw [Sem.run_bind] at h
  generalize M.run P w = r at h
  cases r with
  | ok v w1 => simp [Result.andThen] at h; exact ⟨v, h.1.symm⟩
  | halt x w1 => simp [Result.andThen] at h
theorem value_bind {α : Type} {M : Sem α} {f : α → Sem Next} (hf : ∀ x w n w', (f x).run P w = .ok n w' → ∃ u, n = .value u) (w : World) (n : Next) (w' : World) (h : (M >>= f).run P w = .ok n w') : ∃ u, n = .value u := by
  rw [Sem.run_bind] at h
  generalize M.run P w = r at h
  cases r with
  | ok v w1 => exact hf _ _ _ _ h
  | halt x w1 => simp [Result.andThen] at h
theorem pure_value {o : Oper} {ρ : Operand → Value} {w : World} {n : Next} {w' : World} (hp : pureB o = true) (h : (execOp ρ o).run P w = .ok n w') : ∃ u, n = .value u := by
  obtain ⟨dst, op, type, pos, after, guard⟩ := o
  cases op <;> simp only [pureB, Bool.false_eq_true] at hp <;> simp only [execOp] at h <;> try (exact value_only h)
  case move x => simp at h; exact ⟨_, h.1.symm⟩
  case assign x => simp at h; exact ⟨_, h.1.symm⟩
  case pick c a b =>
    rw [Sem.run_bind] at h
    generalize (asBool (ρ c)).run P w = r at h
    cases r with
    | ok v w1 => simp [Result.andThen] at h; exact ⟨_, h.1.symm⟩
    | halt x w1 => simp [Result.andThen] at h
  case nilCheck x =>
    split at h
    · simp [runtimePanic] at h
    · simp [runtimePanic] at h
    · simp [runtimePanic] at h
    · split at h
      · simp [runtimePanic] at h
      · refine value_bind (fun p => value_bind (fun q => ?_)) _ _ _ h
        intro w n w' h
        split at h
        · simp only [unsupported, Sem.run_bind] at h
          simp at h
        · simp at h; exact ⟨_, h.1.symm⟩
      · simp at h; exact ⟨_, h.1.symm⟩
    · simp at h; exact ⟨_, h.1.symm⟩
  case call c =>
    obtain ⟨callee, args, ats⟩ := c
    cases callee with
    | builtin b =>
      cases b <;> simp only [Bool.false_eq_true] at hp <;> simp only [resolve, invoke, builtin, Sem.run_bind, Sem.run_pure, Result.andThen_ok] at h
      case len =>
        generalize (Builtin.len_ ats type (Array.map ρ args)).run P w = r at h
        cases r with
        | ok v w1 => simp [Result.andThen] at h; exact ⟨v, h.1.symm⟩
        | halt x w1 => simp [Result.andThen] at h
      case min =>
        generalize (Builtin.min_ ats type (Array.map ρ args)).run P w = r at h
        cases r with
        | ok v w1 => simp [Result.andThen] at h; exact ⟨v, h.1.symm⟩
        | halt x w1 => simp [Result.andThen] at h
      case max =>
        generalize (Builtin.max_ ats type (Array.map ρ args)).run P w = r at h
        cases r with
        | ok v w1 => simp [Result.andThen] at h; exact ⟨v, h.1.symm⟩
        | halt x w1 => simp [Result.andThen] at h
    | value f => simp at hp
    | invoke r m => simp at hp
theorem still_of {D : World → Prop} {o : Oper} {ρ : Operand → Value} {w : World} {v : Value} (hp : pureB o = true) (h : Oper.quietUpon P D w v ((execOp ρ o).run P w)) : (execOp ρ o).run P w = .ok (.value v) w := by
  cases hr : (execOp ρ o).run P w with
  | ok n w' =>
    obtain ⟨u, rfl⟩ := pure_value hp hr
    rw [hr] at h
    simp only [Oper.quietUpon] at h
    rw [h.1, h.2]
  | halt x w' => rw [hr] at h; simp only [Oper.quietUpon] at h

/-! ### What one operation yields, where the class is asked of operations that look at memory alone -/
def YieldsZ (P : Program) (ops : Array Oper) (C0 : World → Prop) (o : Oper) (v : Value) (a : Act) : Prop :=
  (Region.wanted o (yielded ops a.tmps) = true ∧ ∀ w, (depB o = true → C0 w) → (execOp a.eval o).run P w = .ok (.value v) w) ∨
  (Region.wanted o (yielded ops a.tmps) = false ∧ v = undef)
theorem YieldsZ.of_same {o : Oper} {v : Value} {a a' : Act} (hy : YieldsZ P ops C0 o v a) (he : execOp a'.eval o = execOp a.eval o)
    (hw : Region.wanted o (yielded ops a'.tmps) = Region.wanted o (yielded ops a.tmps)) : YieldsZ P ops C0 o v a' := by
  unfold YieldsZ at *
  rw [he, hw]
  exact hy
variable {Q : Exit → Act → World → Prop}
theorem YieldsZ.wpOp {i : Nat} {o : Oper} {v : Value} {a : Act} (hi : ops[i]? = some o) (hy : YieldsZ P ops C0 o v a) {K : Act → World → Prop} {w : World} (hw0 : depB o = true → C0 w) (h : K (a.put o.dst v) w) : wpOp P ops Q i K a w := by
  unfold Go.wpOp
  simp only [hi]
  rcases hy with ⟨hw, hv⟩ | ⟨hw, rfl⟩
  · simp only [hw, if_true, Oper.wp, hv w hw0, Oper.upon]; exact .inl h
  · simp only [hw, Bool.false_eq_true, if_false]; exact h
theorem wpOp_putZ {j : Nat} {oi oj : Oper} {v : Value} (hj : ops[j]? = some oj) (hap : oi.apart ops oj = true)
    (hsi : ∀ cs b, oi.op ≠ .select cs b) (hsj : ∀ cs b, oj.op ≠ .select cs b) (hQ : ∀ c a w, ¬ Q (.panic c) a w) {K : Act → World → Prop} {a : Act} {w : World}
    (hy : YieldsZ P ops C0 oi v a) (h : wpOp P ops Q j K (a.put oi.dst v) w) :
    wpOp P ops Q j (fun a' w' => YieldsZ P ops C0 oi v a' ∧ K (a'.put oi.dst v) w') a w := by
  obtain ⟨h1, h2, h3⟩ := Oper.apart_spec hap
  have keep : ∀ (a : Act), YieldsZ P ops C0 oi v a → ∀ u, YieldsZ P ops C0 oi v (a.put oj.dst u) := fun a hy u =>
    hy.of_same (execOp_put oi hsi a oj.dst u h3) (wanted_put oi a oj.dst u h3)
  have keepD : ∀ d, YieldsZ P ops C0 oi v { a with defers := d :: a.defers } := fun d => hy.of_same rfl rfl
  unfold Go.wpOp at *
  simp only [hj] at *
  rw [wanted_put oj a oi.dst v h1] at h
  split
  · rename_i hw
    simp only [hw, if_true] at h
    rcases h with h | ⟨hasks, hlets⟩
    case inr => exact .inr ⟨by unfold Oper.asks at *; rw [execOp_put oj hsj a oi.dst v h1] at hasks; exact hasks, hlets⟩
    refine .inl ?_
    unfold Oper.wp at *
    rw [execOp_put oj hsj a oi.dst v h1] at h
    generalize (execOp a.eval oj).run P w = r at *
    cases r with
    | ok n w' =>
      cases n <;> simp only [Oper.upon] at h ⊢
      case value u => exact ⟨keep a hy u, by rw [← Act.put_comm a v u h2]; exact h⟩
      case skip => exact ⟨keep a hy _, by rw [← Act.put_comm a v undef h2]; exact h⟩
      case defer d =>
        refine ⟨keep _ (keepD d) _, ?_⟩
        rw [← Act.put_comm _ v undef h2, ← Act.put_defers]
        exact h
      case enter f args =>
        refine Calls.mono h fun e w'' he => ?_
        cases e with
        | returned u => exact ⟨keep a hy u, by rw [← Act.put_comm a v u h2]; exact he⟩
        | panicked c => exact absurd he (hQ _ _ _)
        | outgrown => exact he
      case row row args => exact Rows.mono h fun u w'' he => ⟨keep a hy u, by rw [← Act.put_comm a v u h2]; exact he⟩
    | halt x w' =>
      cases x <;> simp only [Oper.upon] at h ⊢
      case panic u => exact absurd h (hQ _ _ _)
  · rename_i hw
    simp only [hw] at h
    exact ⟨keep a hy _, by rw [← Act.put_comm a v undef h2]; exact h⟩

/-! ### Whatever order: what some operations keep is told -/
def wpZ (P : Program) (ops : Array Oper) (C0 : World → Prop) (need : Nat → Bool) (Q : Exit → Act → World → Prop) : Nat → Array Bool → Act → World → Prop
  | 0, li, a, w => Region.ready .any ops li = [] ∧ Q .normal a w
  | f + 1, li, a, w => (Region.ready .any ops li = [] → Q .normal a w) ∧ ∀ i ∈ Region.ready .any ops li, wpOp P ops Q i (fun a' w' => (need i = true → C0 w → C0 w') ∧ wpZ P ops C0 need Q f (li.setIfInBounds i true) a' w') a w
theorem wpAny_of_Z {need : Nat → Bool} : ∀ (f : Nat) (li : Array Bool) (a : Act) (w : World), wpZ P ops C0 need Q f li a w → wpAny P .any ops Q f li a w
  | 0, _, _, _, h => h
  | f + 1, li, a, w, h => ⟨h.1, fun i hi => wpOp_mono (fun a' w' h' => wpAny_of_Z f _ a' w' h'.2) (h.2 i hi)⟩

theorem wpZ_first {need : Nat → Bool} {i : Nat} {oi : Oper} {v : Value} (hi : ops[i]? = some oi) (hsel : ∀ (j : Nat) (o : Oper) cs b, ops[j]? = some o → o.op ≠ .select cs b) (hQ : ∀ c a w, ¬ Q (.panic c) a w) :
    ∀ (fuel : Nat) (li : Array Bool) (a : Act) (w : World), Dn ops li →
      (∀ j oj, ops[j]? = some oj → j ≠ i → li.getD j true = false → waitsB ops ops.size j i = false → oi.apart ops oj = true ∧ (depB oi = true → need j = true)) →
      i ∈ Region.ready .any ops li → YieldsZ P ops C0 oi v a → (depB oi = true → C0 w) →
      wpZ P ops C0 need Q fuel (li.setIfInBounds i true) (a.put oi.dst v) w → wpZ P ops C0 need Q (fuel + 1) li a w := by
  intro fuel
  induction fuel with
  | zero =>
    intro li a w hD _ hr hy hC H
    refine ⟨fun h => (by rw [h] at hr; cases hr), fun j hj => ?_⟩
    by_cases hji : j = i
    · subst hji; exact hy.wpOp hi hC ⟨fun _ h => h, H⟩
    · have := ready_mono hj hji
      rw [H.1] at this
      cases this
  | succ fuel ih =>
    intro li a w hD hfree hr hy hC H
    refine ⟨fun h => (by rw [h] at hr; cases hr), fun j hj => ?_⟩
    by_cases hji : j = i
    · subst hji; exact hy.wpOp hi hC ⟨fun _ h => h, H⟩
    · have h1 := H.2 j (ready_mono hj hji)
      obtain ⟨hjun, oj, hoj, hall⟩ := mem_ready.1 hj
      have hnw : waitsB ops ops.size j i = false := by
        cases hw : waitsB ops ops.size j i with
        | false => rfl
        | true =>
          have h2 := waits_done hD _ j oj hoj hall hw
          rw [getD_ft (mem_ready.1 hr).1] at h2
          cases h2
      obtain ⟨hap, hn⟩ := hfree j oj hoj hji hjun hnw
      have h2 := wpOp_putZ hoj hap (fun cs b => hsel i oi cs b hi) (fun cs b => hsel j oj cs b hoj) hQ hy h1
      have hfree' : ∀ k ok, ops[k]? = some ok → k ≠ i → (li.setIfInBounds j true).getD k true = false → waitsB ops ops.size k i = false → oi.apart ops ok = true ∧ (depB oi = true → need k = true) := fun k ok hk hki hun hno => by
        refine hfree k ok hk hki ?_ hno
        by_cases hjk : j = k
        · subst hjk; exact hjun
        · rw [getD_set_ne true hjk] at hun; exact hun
      refine wpOp_mono (fun a' w' h3 => ⟨h3.2.1, ih (li.setIfInBounds j true) a' w' (hD.set hj) hfree' (ready_mono hr (Ne.symm hji)) h3.1 (fun hd => h3.2.1 (hn hd) (hC hd)) ?_⟩) h2
      rw [Array.setIfInBounds_comm _ _ hji]
      exact h3.2.2

/-! ### The pure ones first -/
def freeZ (ops : Array Oper) (li : Array Bool) (i : Nat) : Bool :=
  match ops[i]? with
  | none => false
  | some oi => (List.range ops.size).all fun j => Nat.beq j i || (li.getD j true || (waitsB ops ops.size j i || (match ops[j]? with
      | some oj => oi.apart ops oj
      | none => true)))
/-- must operation k keep the class for one of the pure ones? -/
def needZ (ops : Array Oper) (xi : List Nat) (k : Nat) : Bool := xi.any fun i => (match ops[i]? with | some o => depB o | none => false) && !waitsB ops ops.size k i
theorem freeZ_spec {i : Nat} {oi : Oper} {li : Array Bool} {xi : List Nat} (hi : ops[i]? = some oi) (hx : i ∈ xi) (h : freeZ ops li i = true) (j : Nat) (oj : Oper) (hj : ops[j]? = some oj) (hne : j ≠ i) (hun : li.getD j true = false) (hno : waitsB ops ops.size j i = false) :
    oi.apart ops oj = true ∧ (depB oi = true → needZ ops xi j = true) := by
  simp only [freeZ, hi, List.all_eq_true, List.mem_range] at h
  have h1 := h j (Array.getElem?_eq_some_iff.1 hj).1
  have hb : Nat.beq j i = false := by
    rw [Bool.eq_false_iff]; intro hb; exact hne (Nat.eq_of_beq_eq_true hb)
  simp only [hj, hun, hno, hb, Bool.false_or] at h1
  refine ⟨h1, fun hd => List.any_eq_true.2 ⟨i, hx, ?_⟩⟩
  simp [hi, hd, hno]
def preZ (ops : Array Oper) : List Nat → Array Bool → Bool
  | [], _ => true
  | i :: r, li => (Region.ready .any ops li).contains i && (freeZ ops li i && preZ ops r (li.setIfInBounds i true))
def runZ : List Nat → Array Bool → Array Bool
  | [], li => li
  | i :: r, li => runZ r (li.setIfInBounds i true)
def seqZ (ops : Array Oper) : List Nat → Array Bool → Bool
  | [], li => (Region.ready .any ops li).isEmpty
  | k :: t, li => (Region.ready .any ops li == [k]) && seqZ ops t (li.setIfInBounds k true)
def wpZL (P : Program) (ops : Array Oper) (C0 : World → Prop) (K : Act → Prop) : List Oper → Act → Prop
  | [], a => K a
  | o :: r, a => if Region.wanted o (yielded ops a.tmps) then ∃ v, (∀ w, (depB o = true → C0 w) → (execOp a.eval o).run P w = .ok (.value v) w) ∧ wpZL P ops C0 K r (a.put o.dst v) else wpZL P ops C0 K r (a.put o.dst undef)
def wpT (P : Program) (ops : Array Oper) (C0 : World → Prop) (need : Nat → Bool) (Q : Exit → Act → World → Prop) : List (Nat × Oper) → Act → World → Prop
  | [], a, w => Q .normal a w
  | (k, _) :: r, a, w => wpOp P ops Q k (fun a' w' => (need k = true → C0 w') ∧ wpT P ops C0 need Q r a' w') a w
theorem wpZ_seq {need : Nat → Bool} : ∀ (y : List (Nat × Oper)) (li : Array Bool) (a : Act) (w : World), seqZ ops (y.map (·.1)) li = true → wpT P ops C0 need Q y a w → wpZ P ops C0 need Q y.length li a w
  | [], li, a, w, hB, h => ⟨by simpa [seqZ] using hB, h⟩
  | (k, o) :: r, li, a, w, hB, h => by
    simp only [List.map_cons, seqZ, Bool.and_eq_true, beq_iff_eq] at hB
    refine ⟨fun h' => (by rw [hB.1] at h'; cases h'), fun i hi => ?_⟩
    rw [hB.1, List.mem_singleton] at hi
    subst hi
    exact wpOp_mono (fun a' w' h3 => ⟨fun hn _ => h3.1 hn, wpZ_seq r _ a' w' hB.2 h3.2⟩) h
theorem wpZ_pre {xi0 : List Nat} (hs : Region.noSelect ops = true) (hQ : ∀ c a w, ¬ Q (.panic c) a w) {K : Act → Prop} {f : Nat} {w : World} (hw : C0 w) : ∀ (x : List (Nat × Oper)) (li : Array Bool) (a : Act), (∀ p ∈ x, p.1 ∈ xi0 ∧ ops[p.1]? = some p.2) → Dn ops li →
    preZ ops (x.map (·.1)) li = true → wpZL P ops C0 K (x.map (·.2)) a → (∀ a, K a → wpZ P ops C0 (needZ ops xi0) Q f (runZ (x.map (·.1)) li) a w) → wpZ P ops C0 (needZ ops xi0) Q (x.length + f) li a w
  | [], li, a, _, _, _, h, hK => by
    rw [List.length_nil, Nat.zero_add]; exact hK a h
  | (i, o) :: r, li, a, hx, hD, hB, h, hK => by
    obtain ⟨hmem, hi⟩ := hx _ (.head _)
    simp only [List.map_cons, preZ, Bool.and_eq_true] at hB
    obtain ⟨hr, hf, hB'⟩ := hB
    have hr' : i ∈ Region.ready .any ops li := by simpa using hr
    have key : ∃ v, YieldsZ P ops C0 o v a ∧ wpZL P ops C0 K (r.map (·.2)) (a.put o.dst v) := by
      simp only [List.map_cons, wpZL] at h
      split at h
      · rename_i hw
        obtain ⟨v, h1, h2⟩ := h
        exact ⟨v, .inl ⟨hw, h1⟩, h2⟩
      · rename_i hw
        exact ⟨undef, .inr ⟨by simpa using hw, rfl⟩, h⟩
    obtain ⟨v, hy, h2⟩ := key
    rw [List.length_cons, show r.length + 1 + f = (r.length + f) + 1 by omega]
    exact wpZ_first hi (Region.noSelect_spec hs) hQ _ li a w hD (freeZ_spec hi hmem hf) hr' hy (fun _ => hw)
      (wpZ_pre hs hQ hw r _ _ (fun p hp => hx p (.tail _ hp)) (hD.set hr') hB' h2 hK)

def NoPanic (Q : Exit → Act → World → Prop) : Exit → Act → World → Prop := fun e a w => match e with
  | .panic _ => False
  | e => Q e a w
theorem wpOp_np {i : Nat} {K : Act → World → Prop} {a : Act} {w : World} (h : wpOp P ops (NoPanic Q) i K a w) : wpOp P ops Q i K a w := by
  have hp : ∀ e a w, e ≠ .normal → NoPanic Q e a w → Q e a w := fun e a w _ h => by
    cases e <;> first | exact h | exact h.elim
  unfold wpOp at *
  split
  · rename_i ho; simp only [ho] at h; exact h
  · rename_i o ho
    simp only [ho] at h
    split
    · rename_i hw
      rw [if_pos hw] at h
      rcases h with h | ⟨h, a', w', hq⟩
      · refine .inl ?_
        unfold Oper.wp at h ⊢
        exact upon_Q hp h
      · exact .inr ⟨h, a', w', hq⟩
    · rename_i hw
      rw [if_neg hw] at h
      exact h
theorem wpAny_np : ∀ (f : Nat) (li : Array Bool) (a : Act) (w : World), wpAny P .any ops (NoPanic Q) f li a w → wpAny P .any ops Q f li a w
  | 0, _, _, _, h => h
  | f + 1, li, a, w, h => ⟨h.1, fun i hi => wpOp_np (wpOp_mono (fun a' w' h' => wpAny_np f _ a' w' h') (h.2 i hi))⟩
end

/-- the pure operations that wait for none of the others, and the others -/
inductive ZSplit : Nat → List Nat → List Oper → List (Nat × Oper) → List (Nat × Oper) → Prop where
  | nil {k : Nat} {tl : List Nat} : ZSplit k tl [] [] []
  | pure {k : Nat} {tl : List Nat} {o : Oper} {r : List Oper} {x y : List (Nat × Oper)} (hp : (pureB o && o.after.toList.all fun e => tl.all fun t => !Nat.beq t e.on) = true) (h : ZSplit (k + 1) tl r x y) : ZSplit k tl (o :: r) ((k, o) :: x) y
  | tail {k : Nat} {tl : List Nat} {o : Oper} {r : List Oper} {x y : List (Nat × Oper)} (h : ZSplit (k + 1) (k :: tl) r x y) : ZSplit k tl (o :: r) x ((k, o) :: y)
theorem ZSplit.spec {k : Nat} {tl : List Nat} {l : List Oper} {x y : List (Nat × Oper)} (h : ZSplit k tl l x y) : (∀ p ∈ x, k ≤ p.1 ∧ l[p.1 - k]? = some p.2 ∧ pureB p.2 = true) ∧ (∀ p ∈ y, k ≤ p.1 ∧ l[p.1 - k]? = some p.2) ∧ x.length + y.length = l.length := by
  induction h with
  | nil => simp
  | @pure k tl o r x y hp h ih =>
    simp only [Bool.and_eq_true] at hp
    refine ⟨fun p hpm => ?_, fun p hpm => ?_, by simp only [List.length_cons]; omega⟩
    · rcases List.mem_cons.1 hpm with rfl | hpm
      · exact ⟨Nat.le_refl _, by simp, hp.1⟩
      · obtain ⟨h1, h2, h3⟩ := ih.1 p hpm
        exact ⟨by omega, by rw [show p.1 - k = (p.1 - (k + 1)) + 1 by omega, List.getElem?_cons_succ]; exact h2, h3⟩
    · obtain ⟨h1, h2⟩ := ih.2.1 p hpm
      exact ⟨by omega, by rw [show p.1 - k = (p.1 - (k + 1)) + 1 by omega, List.getElem?_cons_succ]; exact h2⟩
  | @tail k tl o r x y h ih =>
    refine ⟨fun p hpm => ?_, fun p hpm => ?_, by simp only [List.length_cons]; omega⟩
    · obtain ⟨h1, h2, h3⟩ := ih.1 p hpm
      exact ⟨by omega, by rw [show p.1 - k = (p.1 - (k + 1)) + 1 by omega, List.getElem?_cons_succ]; exact h2, h3⟩
    · rcases List.mem_cons.1 hpm with rfl | hpm
      · exact ⟨Nat.le_refl _, by simp⟩
      · obtain ⟨h1, h2⟩ := ih.2.1 p hpm
        exact ⟨by omega, by rw [show p.1 - k = (p.1 - (k + 1)) + 1 by omega, List.getElem?_cons_succ]; exact h2⟩

structure ZL (P : Program) (n : Nat) (ops : Array Oper) (C0 : World → Prop) (K : Act → Prop) (rest : List (Nat × Oper)) (l : Env) : Prop where
  run : ∀ a, Sees n l a → wpZL P ops C0 K (rest.map (·.2)) a
structure TL (P : Program) (n : Nat) (ops : Array Oper) (C0 : World → Prop) (need : Nat → Bool) (Q : Exit → Act → World → Prop) (y : List (Nat × Oper)) (l : Env) (C : World → Prop) : Prop where
  run : ∀ a w, Sees n l a → C w → wpT P ops C0 need Q y a w
def TQ (P : Program) (ops : Array Oper) (C0 : World → Prop) (need : Nat → Bool) (k : Nat) (r : List (Nat × Oper)) (Q : Exit → Act → World → Prop) : Exit → Act → World → Prop := fun e a w => match e with
  | .normal => (need k = true → C0 w) ∧ wpT P ops C0 need Q r a w
  | e => Q e a w
def zB (ops : Array Oper) (xi yi : List Nat) : Bool := Region.noSelect ops && (preZ ops xi (Array.replicate ops.size false) && seqZ ops yi (runZ xi (Array.replicate ops.size false)))

section
variable {P : Program} {n : Nat} {l : Env} {C C0 : World → Prop} {ops : Array Oper} {Q : Exit → Act → World → Prop} {K : Act → Prop} {o : Oper} {k : Nat} {x y r : List (Nat × Oper)} {need : Nat → Bool}
theorem W.regz {id : Nat} {l0 : List Oper} (hs : ZSplit 0 [] l0 x y) (hm : P.follows .mixedOrders = true) (hB : zB l0.toArray (x.map (·.1)) (y.map (·.1)) = true) (hC : ∀ w, C w → C { w with drawn := w.drawn + 1 })
    (h : ZL P n l0.toArray C (fun a' => ∀ w', C w' → wpT P l0.toArray C (needZ l0.toArray (x.map (·.1))) (NoPanic Q) y a' w') x l) : W P n (.region id l0.toArray true) Q l C := ⟨fun a w hs' hc => by
  simp only [zB, Bool.and_eq_true] at hB
  obtain ⟨h1, h2, h3⟩ := hB
  obtain ⟨hx, hy, hlen⟩ := hs.spec
  refine wp_region_any hm (wpAny_np _ _ _ _ (wpAny_of_Z (C0 := C) (need := needZ l0.toArray (x.map (·.1))) _ _ _ _ ?_))
  have key := wpZ_pre (P := P) (ops := l0.toArray) (C0 := C) (Q := NoPanic Q) (xi0 := x.map (·.1)) (f := y.length) (w := { w with drawn := w.drawn + 1 }) h1 (fun _ _ _ h => h) (hC w hc) x (Array.replicate l0.toArray.size false) a
    (fun p hp => ⟨List.mem_map.2 ⟨p, hp, rfl⟩, by have := (hx p hp).2.1; simpa using this⟩) (fun j o _ hj => by rw [getD_rep] at hj; cases hj) h2 (h.run a hs')
    (fun a' hK => wpZ_seq y _ a' _ h3 (hK _ (hC w hc)))
  have e : x.length + y.length = l0.toArray.size := by simpa using hlen
  exact (congrArg (fun s => wpZ P l0.toArray C (needZ l0.toArray (x.map (·.1))) (NoPanic Q) s (Array.replicate l0.toArray.size false) a { w with drawn := w.drawn + 1 }) e).mp key⟩
theorem ZL.nil (h : TL P n ops C0 need Q y l C0) : ZL P n ops C0 (fun a' => ∀ w', C0 w' → wpT P ops C0 need Q y a' w') [] l := ⟨fun a hs w hc => h.run a w hs hc⟩
theorem ZL.step {d : Nat} {c : Bool} {v : Value} (hp : pureB o = true) (hg : Guard l ops o.guard c) (hd : o.dst = some d) (hn : Nat.ble (d + 1) n = true) (hv : Pev P n l (fun w => depB o = true → C0 w) o c v)
    (kk : ZL P n ops C0 K r ((d, c, v) :: l)) : ZL P n ops C0 K ((k, o) :: r) l := by
  have hn' := Nat.le_of_ble_eq_true hn
  refine ⟨fun a hs => ?_⟩
  show wpZL P ops C0 K (o :: r.map (·.2)) a
  unfold wpZL
  rw [hg.wanted hs]
  cases c with
  | true => exact ⟨v, fun w hw => still_of hp (hv.run rfl a w hs hw), by rw [hd]; exact kk.run _ (hs.put hn' true v)⟩
  | false => rw [hd]; exact kk.run _ (hs.put hn' false v)
theorem ZL.op {d : Nat} {c : Bool} {v : Value} (hb : (pureB o && !depB o) = true) (hg : Guard l ops o.guard c) (hd : o.dst = some d) (hn : Nat.ble (d + 1) n = true) (hv : Pev P n l (fun _ => True) o c v)
    (kk : ZL P n ops C0 K r ((d, c, v) :: l)) : ZL P n ops C0 K ((k, o) :: r) l := by
  simp only [Bool.and_eq_true, Bool.not_eq_true'] at hb
  exact ZL.step hb.1 hg hd hn ⟨fun hc a w hs hw => by
    have := hv.run hc a w hs trivial
    rw [still_of hb.1 this]; exact ⟨rfl, rfl⟩⟩ kk
theorem ZL.ld {d : Nat} {c : Bool} {v : Value} (hb : (pureB o && depB o) = true) (hg : Guard l ops o.guard c) (hd : o.dst = some d) (hn : Nat.ble (d + 1) n = true) (hv : Pev P n l C0 o c v)
    (kk : ZL P n ops C0 K r ((d, c, v) :: l)) : ZL P n ops C0 K ((k, o) :: r) l := by
  simp only [Bool.and_eq_true] at hb
  exact ZL.step hb.1 hg hd hn ⟨fun hc a w hs hw => by
    have := hv.run hc a w hs (hw hb.2)
    rw [still_of hb.1 this]; exact ⟨rfl, rfl⟩⟩ kk
theorem TL.nil (h : At n Q .normal l C) : TL P n ops C0 need Q [] l C := ⟨fun a w hs hc => h.run a w hs hc⟩
theorem TL.one (hi : ops[k]? = some o) (h : OL P n ops (TQ P ops C0 need k r Q) [o] l C) : TL P n ops C0 need Q ((k, o) :: r) l C := ⟨fun a w hs hc => by
  have hp : ∀ ex a w, ex ≠ .normal → TQ P ops C0 need k r Q ex a w → Q ex a w := fun ex a w hne h => by
    cases ex <;> first | exact h | exact absurd rfl hne
  have h := h.run a w hs hc
  show wpOp P ops Q k _ a w
  unfold wpOp
  simp only [hi]
  unfold wpList at h
  split
  · rename_i hw
    rw [if_pos hw] at h
    rcases h with h | ⟨h, a', w', hq⟩
    · refine .inl ?_
      unfold Oper.wp at h ⊢
      exact upon_Q hp h
    · exact .inr ⟨h, a', w', hp _ _ _ (by simp) hq⟩
  · rename_i hw
    rw [if_neg hw] at h
    exact h⟩
theorem At.tn (hk : need k = false) (h : TL P n ops C0 need Q r l C) : At n (TQ P ops C0 need k r Q) .normal l C := ⟨fun a w hs hc => ⟨fun h' => (by rw [hk] at h'; cases h'), h.run a w hs hc⟩⟩
theorem At.tk (hk : ∀ w, C w → C0 w) (h : TL P n ops C0 need Q r l C) : At n (TQ P ops C0 need k r Q) .normal l C := ⟨fun a w hs hc => ⟨fun _ => hk w hc, h.run a w hs hc⟩⟩
theorem At.np (h : At n Q .normal l C) : At n (NoPanic Q) .normal l C := ⟨h.run⟩
end

/-! a guard that is known, among the quiet operations -/
section
variable {P : Program} {n : Nat} {l : Env} {C : World → Prop} {c : Bool} {d : Option Nat} {op : Op} {ty : TypeId} {pos : String} {af : Array Edge} {g : Option (Nat × Bool)} {ops : Array Oper} {K : Act → Prop} {rest : List Oper}
theorem QL.gateOff {dd : Nat} (hg : Guard l ops g c) (hc : c = false) (hn : Nat.ble (dd + 1) n = true) (h : QL P n ops C K rest ((dd, false, undef) :: l)) : QL P n ops C K (⟨some dd, op, ty, pos, af, g⟩ :: rest) l := by
  have hn' := Nat.le_of_ble_eq_true hn
  refine ⟨fun a hs => ?_⟩
  unfold wpQuiet
  rw [hg.wanted hs]
  subst hc
  exact h.run _ (hs.put hn' false undef)
end
end Go.Eng
