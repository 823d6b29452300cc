/- Texts of the proof of MatchFirst, part 2: rules of a calculus for walking, plain laws, and walks of the functions that the law reaches. No condition. -/
import Derived.RangeFuncNested
import Derived.MapKept
import Derived.Test.YtleggdmhihcafaaProg
import Derived.LaidEqlPtr
import Derived.Lib.Builder
import Derived.Laws.Pointers
import Derived.ArgAppend
import Derived.Shelf.SlGeneric
import Derived.Shelf.Spec.SlicesGrow
import Derived.Ground.Names8Prog
import Derived.Test.YtleggdmhihcafaaMatchFirst1
set_option linter.unusedVariables false
set_option linter.unusedSimpArgs false
set_option linter.unusedSectionVars false
/- A region that draws its order, whose pure operations come first, whatever its other ones wait for, and whose other ones then follow one behind another. General. No condition. -/
namespace Go.Eng
open Go.RowKit
def pureB (o : Oper) : Bool := match o.op with
 | .move _ => true
 | .assign _ => true
 | .pick .. => true
 | .build .. => true
 | .load .. => true
 | .nilCheck _ => true
 | .binOp .. => true
 | .unOp .. => true
 | .convert .. => true
 | .makeFunc .. => true
 | .slice .. => true
 | .fieldAddr .. => true
 | .field .. => true
 | .indexAddr .. => true
 | .index .. => true
 | .lookup .. => true
 | .extract .. => true
 | .call c => match c.callee with
  | .builtin .len => true
  | .builtin .min => true
  | .builtin .max => true
  | _ => false
 | _ => false
def depB (o : Oper) : Bool := match o.op with
 | .load .. => true
 | .lookup .. => true
 | .index .. => true
 | .convert .. => true
 | _ => false
section
variable {P : Program} {ops : Array Oper} {C0 : World → Prop}
theorem value_only {M : Sem Value} {w : World} {n : Next} {w' : World} (h : (do pure (.value (← M)) : Sem Next).run P w = .ok n w') : ∃ u, n = .value u := by
 rw [Sem.run_bind] at h
 generalize M.run P w = r at h
 cases r with
 | ok v w1 => simp [Result.andThen] at h; exact ⟨v, h.1.symm⟩
 | halt x w1 => simp [Result.andThen] at h
theorem value_bind {α : Type} {M : Sem α} {f : α → Sem Next} (hf : ∀ x w n w', (f x).run P w = .ok n w' → ∃ u, n = .value u) (w : World) (n : Next) (w' : World) (h : (M >>= f).run P w = .ok n w') : ∃ u, n = .value u := by
 rw [Sem.run_bind] at h
 generalize M.run P w = r at h
 cases r with
 | ok v w1 => exact hf _ _ _ _ h
 | halt x w1 => simp [Result.andThen] at h
theorem pure_value {o : Oper} {ρ : Operand → Value} {w : World} {n : Next} {w' : World} (hp : pureB o = true) (h : (execOp ρ o).run P w = .ok n w') : ∃ u, n = .value u := by
 obtain ⟨dst, op, type, pos, after, guard⟩ := o
 cases op <;> simp only [pureB, Bool.false_eq_true] at hp <;> simp only [execOp] at h <;> try (exact value_only h)
 case move x => simp at h; exact ⟨_, h.1.symm⟩
 case assign x => simp at h; exact ⟨_, h.1.symm⟩
 case pick c a b =>
  rw [Sem.run_bind] at h
  generalize (asBool (ρ c)).run P w = r at h
  cases r with
  | ok v w1 => simp [Result.andThen] at h; exact ⟨_, h.1.symm⟩
  | halt x w1 => simp [Result.andThen] at h
 case nilCheck x =>
  split at h
  ·simp [runtimePanic] at h
  ·simp [runtimePanic] at h
  ·simp [runtimePanic] at h
  ·split at h
   ·simp [runtimePanic] at h
   ·refine value_bind (fun p => value_bind (fun q => ?_)) _ _ _ h
    intro w n w' h
    split at h
    ·simp only [unsupported, Sem.run_bind] at h
     simp at h
    ·simp at h; exact ⟨_, h.1.symm⟩
   ·simp at h; exact ⟨_, h.1.symm⟩
  ·simp at h; exact ⟨_, h.1.symm⟩
 case call c =>
  obtain ⟨callee, args, ats⟩ := c
  cases callee with
  | builtin b =>
   cases b <;> simp only [Bool.false_eq_true] at hp <;> simp only [resolve, invoke, builtin, Sem.run_bind, Sem.run_pure, Result.andThen_ok] at h
   case len =>
    generalize (Builtin.len_ ats type (Array.map ρ args)).run P w = r at h
    cases r with
    | ok v w1 => simp [Result.andThen] at h; exact ⟨v, h.1.symm⟩
    | halt x w1 => simp [Result.andThen] at h
   case min =>
    generalize (Builtin.min_ ats type (Array.map ρ args)).run P w = r at h
    cases r with
    | ok v w1 => simp [Result.andThen] at h; exact ⟨v, h.1.symm⟩
    | halt x w1 => simp [Result.andThen] at h
   case max =>
    generalize (Builtin.max_ ats type (Array.map ρ args)).run P w = r at h
    cases r with
    | ok v w1 => simp [Result.andThen] at h; exact ⟨v, h.1.symm⟩
    | halt x w1 => simp [Result.andThen] at h
  | value f => simp at hp
  | invoke r m => simp at hp
theorem still_of {D : World → Prop} {o : Oper} {ρ : Operand → Value} {w : World} {v : Value} (hp : pureB o = true) (h : Oper.quietUpon P D w v ((execOp ρ o).run P w)) : (execOp ρ o).run P w = .ok (.value v) w := by
 cases hr : (execOp ρ o).run P w with
 | ok n w' =>
  obtain ⟨u, rfl⟩ := pure_value hp hr
  rw [hr] at h
  simp only [Oper.quietUpon] at h
  rw [h.1, h.2]
 | halt x w' => rw [hr] at h; simp only [Oper.quietUpon] at h
/-! ### What one operation yields, where the class is asked of operations that look at memory alone -/
def YieldsZ (P : Program) (ops : Array Oper) (C0 : World → Prop) (o : Oper) (v : Value) (a : Act) : Prop :=
 (Region.wanted o (yielded ops a.tmps) = true ∧ ∀ w, (depB o = true → C0 w) → (execOp a.eval o).run P w = .ok (.value v) w) ∨
 (Region.wanted o (yielded ops a.tmps) = false ∧ v = undef)
theorem YieldsZ.of_same {o : Oper} {v : Value} {a a' : Act} (hy : YieldsZ P ops C0 o v a) (he : execOp a'.eval o = execOp a.eval o)
  (hw : Region.wanted o (yielded ops a'.tmps) = Region.wanted o (yielded ops a.tmps)) : YieldsZ P ops C0 o v a' := by
 unfold YieldsZ at *
 rw [he, hw]
 exact hy
variable {Q : Exit → Act → World → Prop}
theorem YieldsZ.wpOp {i : Nat} {o : Oper} {v : Value} {a : Act} (hi : ops[i]? = some o) (hy : YieldsZ P ops C0 o v a) {K : Act → World → Prop} {w : World} (hw0 : depB o = true → C0 w) (h : K (a.put o.dst v) w) : wpOp P ops Q i K a w := by
 unfold Go.wpOp
 simp only [hi]
 rcases hy with ⟨hw, hv⟩ | ⟨hw, rfl⟩
 ·simp only [hw, if_true, Oper.wp, hv w hw0, Oper.upon]; exact .inl h
 ·simp only [hw, Bool.false_eq_true, if_false]; exact h
theorem wpOp_putZ {j : Nat} {oi oj : Oper} {v : Value} (hj : ops[j]? = some oj) (hap : oi.apart ops oj = true)
  (hsi : ∀ cs b, oi.op ≠ .select cs b) (hsj : ∀ cs b, oj.op ≠ .select cs b) (hQ : ∀ c a w, ¬ Q (.panic c) a w) {K : Act → World → Prop} {a : Act} {w : World}
  (hy : YieldsZ P ops C0 oi v a) (h : wpOp P ops Q j K (a.put oi.dst v) w) :
  wpOp P ops Q j (fun a' w' => YieldsZ P ops C0 oi v a' ∧ K (a'.put oi.dst v) w') a w := by
 obtain ⟨h1, h2, h3⟩ := Oper.apart_spec hap
 have keep : ∀ (a : Act), YieldsZ P ops C0 oi v a → ∀ u, YieldsZ P ops C0 oi v (a.put oj.dst u) := fun a hy u =>
  hy.of_same (execOp_put oi hsi a oj.dst u h3) (wanted_put oi a oj.dst u h3)
 have keepD : ∀ d, YieldsZ P ops C0 oi v { a with defers := d :: a.defers } := fun d => hy.of_same rfl rfl
 unfold Go.wpOp at *
 simp only [hj] at *
 rw [wanted_put oj a oi.dst v h1] at h
 split
 ·rename_i hw
  simp only [hw, if_true] at h
  rcases h with h | ⟨hasks, hlets⟩
  case inr => exact .inr ⟨by unfold Oper.asks at *; rw [execOp_put oj hsj a oi.dst v h1] at hasks; exact hasks, hlets⟩
  refine .inl ?_
  unfold Oper.wp at *
  rw [execOp_put oj hsj a oi.dst v h1] at h
  generalize (execOp a.eval oj).run P w = r at *
  cases r with
  | ok n w' =>
   cases n <;> simp only [Oper.upon] at h ⊢
   case value u => exact ⟨keep a hy u, by rw [← Act.put_comm a v u h2]; exact h⟩
   case skip => exact ⟨keep a hy _, by rw [← Act.put_comm a v undef h2]; exact h⟩
   case defer d =>
    refine ⟨keep _ (keepD d) _, ?_⟩
    rw [← Act.put_comm _ v undef h2, ← Act.put_defers]
    exact h
   case enter f args =>
    refine Calls.mono h fun e w'' he => ?_
    cases e with
    | returned u => exact ⟨keep a hy u, by rw [← Act.put_comm a v u h2]; exact he⟩
    | panicked c => exact absurd he (hQ _ _ _)
    | outgrown => exact he
   case row row args => exact Rows.mono h fun u w'' he => ⟨keep a hy u, by rw [← Act.put_comm a v u h2]; exact he⟩
  | halt x w' =>
   cases x <;> simp only [Oper.upon] at h ⊢
   case panic u => exact absurd h (hQ _ _ _)
 ·rename_i hw
  simp only [hw] at h
  exact ⟨keep a hy _, by rw [← Act.put_comm a v undef h2]; exact h⟩
/-! ### Whatever order: what some operations keep is told -/
def wpZ (P : Program) (ops : Array Oper) (C0 : World → Prop) (need : Nat → Bool) (Q : Exit → Act → World → Prop) : Nat → Array Bool → Act → World → Prop
 | 0, li, a, w => Region.ready .any ops li = [] ∧ Q .normal a w
 | f + 1, li, a, w => (Region.ready .any ops li = [] → Q .normal a w) ∧ ∀ i ∈ Region.ready .any ops li, wpOp P ops Q i (fun a' w' => (need i = true → C0 w → C0 w') ∧ wpZ P ops C0 need Q f (li.setIfInBounds i true) a' w') a w
theorem wpAny_of_Z {need : Nat → Bool} : ∀ (f : Nat) (li : Array Bool) (a : Act) (w : World), wpZ P ops C0 need Q f li a w → wpAny P .any ops Q f li a w
 | 0, _, _, _, h => h
 | f + 1, li, a, w, h => ⟨h.1, fun i hi => wpOp_mono (fun a' w' h' => wpAny_of_Z f _ a' w' h'.2) (h.2 i hi)⟩
theorem wpZ_first {need : Nat → Bool} {i : Nat} {oi : Oper} {v : Value} (hi : ops[i]? = some oi) (hsel : ∀ (j : Nat) (o : Oper) cs b, ops[j]? = some o → o.op ≠ .select cs b) (hQ : ∀ c a w, ¬ Q (.panic c) a w) :
  ∀ (fuel : Nat) (li : Array Bool) (a : Act) (w : World), Dn ops li →
   (∀ j oj, ops[j]? = some oj → j ≠ i → li.getD j true = false → waitsB ops ops.size j i = false → oi.apart ops oj = true ∧ (depB oi = true → need j = true)) →
   i ∈ Region.ready .any ops li → YieldsZ P ops C0 oi v a → (depB oi = true → C0 w) →
   wpZ P ops C0 need Q fuel (li.setIfInBounds i true) (a.put oi.dst v) w → wpZ P ops C0 need Q (fuel + 1) li a w := by
 intro fuel
 induction fuel with
 | zero =>
  intro li a w hD _ hr hy hC H
  refine ⟨fun h => (by rw [h] at hr; cases hr), fun j hj => ?_⟩
  by_cases hji : j = i
  ·subst hji; exact hy.wpOp hi hC ⟨fun _ h => h, H⟩
  ·have := ready_mono hj hji
   rw [H.1] at this
   cases this
 | succ fuel ih =>
  intro li a w hD hfree hr hy hC H
  refine ⟨fun h => (by rw [h] at hr; cases hr), fun j hj => ?_⟩
  by_cases hji : j = i
  ·subst hji; exact hy.wpOp hi hC ⟨fun _ h => h, H⟩
  ·have h1 := H.2 j (ready_mono hj hji)
   obtain ⟨hjun, oj, hoj, hall⟩ := mem_ready.1 hj
   have hnw : waitsB ops ops.size j i = false := by
    cases hw : waitsB ops ops.size j i with
    | false => rfl
    | true =>
     have h2 := waits_done hD _ j oj hoj hall hw
     rw [getD_ft (mem_ready.1 hr).1] at h2
     cases h2
   obtain ⟨hap, hn⟩ := hfree j oj hoj hji hjun hnw
   have h2 := wpOp_putZ hoj hap (fun cs b => hsel i oi cs b hi) (fun cs b => hsel j oj cs b hoj) hQ hy h1
   have hfree' : ∀ k ok, ops[k]? = some ok → k ≠ i → (li.setIfInBounds j true).getD k true = false → waitsB ops ops.size k i = false → oi.apart ops ok = true ∧ (depB oi = true → need k = true) := fun k ok hk hki hun hno => by
    refine hfree k ok hk hki ?_ hno
    by_cases hjk : j = k
    ·subst hjk; exact hjun
    ·rw [getD_set_ne true hjk] at hun; exact hun
   refine wpOp_mono (fun a' w' h3 => ⟨h3.2.1, ih (li.setIfInBounds j true) a' w' (hD.set hj) hfree' (ready_mono hr (Ne.symm hji)) h3.1 (fun hd => h3.2.1 (hn hd) (hC hd)) ?_⟩) h2
   rw [Array.setIfInBounds_comm _ _ hji]
   exact h3.2.2
/-! ### The pure ones first -/
def freeZ (ops : Array Oper) (li : Array Bool) (i : Nat) : Bool :=
 match ops[i]? with
 | none => false
 | some oi => (List.range ops.size).all fun j => Nat.beq j i || (li.getD j true || (waitsB ops ops.size j i || (match ops[j]? with
   | some oj => oi.apart ops oj
   | none => true)))
def needZ (ops : Array Oper) (xi : List Nat) (k : Nat) : Bool := xi.any fun i => (match ops[i]? with | some o => depB o | none => false) && !waitsB ops ops.size k i
theorem freeZ_spec {i : Nat} {oi : Oper} {li : Array Bool} {xi : List Nat} (hi : ops[i]? = some oi) (hx : i ∈ xi) (h : freeZ ops li i = true) (j : Nat) (oj : Oper) (hj : ops[j]? = some oj) (hne : j ≠ i) (hun : li.getD j true = false) (hno : waitsB ops ops.size j i = false) :
  oi.apart ops oj = true ∧ (depB oi = true → needZ ops xi j = true) := by
 simp only [freeZ, hi, List.all_eq_true, List.mem_range] at h
 have h1 := h j (Array.getElem?_eq_some_iff.1 hj).1
 have hb : Nat.beq j i = false := by
  rw [Bool.eq_false_iff]; intro hb; exact hne (Nat.eq_of_beq_eq_true hb)
 simp only [hj, hun, hno, hb, Bool.false_or] at h1
 refine ⟨h1, fun hd => List.any_eq_true.2 ⟨i, hx, ?_⟩⟩
 simp [hi, hd, hno]
def preZ (ops : Array Oper) : List Nat → Array Bool → Bool
 | [], _ => true
 | i :: r, li => (Region.ready .any ops li).contains i && (freeZ ops li i && preZ ops r (li.setIfInBounds i true))
def runZ : List Nat → Array Bool → Array Bool
 | [], li => li
 | i :: r, li => runZ r (li.setIfInBounds i true)
def seqZ (ops : Array Oper) : List Nat → Array Bool → Bool
 | [], li => (Region.ready .any ops li).isEmpty
 | k :: t, li => (Region.ready .any ops li == [k]) && seqZ ops t (li.setIfInBounds k true)
def wpZL (P : Program) (ops : Array Oper) (C0 : World → Prop) (K : Act → Prop) : List Oper → Act → Prop
 | [], a => K a
 | o :: r, a => if Region.wanted o (yielded ops a.tmps) then ∃ v, (∀ w, (depB o = true → C0 w) → (execOp a.eval o).run P w = .ok (.value v) w) ∧ wpZL P ops C0 K r (a.put o.dst v) else wpZL P ops C0 K r (a.put o.dst undef)
def wpT (P : Program) (ops : Array Oper) (C0 : World → Prop) (need : Nat → Bool) (Q : Exit → Act → World → Prop) : List (Nat × Oper) → Act → World → Prop
 | [], a, w => Q .normal a w
 | (k, _) :: r, a, w => wpOp P ops Q k (fun a' w' => (need k = true → C0 w') ∧ wpT P ops C0 need Q r a' w') a w
theorem wpZ_seq {need : Nat → Bool} : ∀ (y : List (Nat × Oper)) (li : Array Bool) (a : Act) (w : World), seqZ ops (y.map (·.1)) li = true → wpT P ops C0 need Q y a w → wpZ P ops C0 need Q y.length li a w
 | [], li, a, w, hB, h => ⟨by simpa [seqZ] using hB, h⟩
 | (k, o) :: r, li, a, w, hB, h => by
  simp only [List.map_cons, seqZ, Bool.and_eq_true, beq_iff_eq] at hB
  refine ⟨fun h' => (by rw [hB.1] at h'; cases h'), fun i hi => ?_⟩
  rw [hB.1, List.mem_singleton] at hi
  subst hi
  exact wpOp_mono (fun a' w' h3 => ⟨fun hn _ => h3.1 hn, wpZ_seq r _ a' w' hB.2 h3.2⟩) h
theorem wpZ_pre {xi0 : List Nat} (hs : Region.noSelect ops = true) (hQ : ∀ c a w, ¬ Q (.panic c) a w) {K : Act → Prop} {f : Nat} {w : World} (hw : C0 w) : ∀ (x : List (Nat × Oper)) (li : Array Bool) (a : Act), (∀ p ∈ x, p.1 ∈ xi0 ∧ ops[p.1]? = some p.2) → Dn ops li →
  preZ ops (x.map (·.1)) li = true → wpZL P ops C0 K (x.map (·.2)) a → (∀ a, K a → wpZ P ops C0 (needZ ops xi0) Q f (runZ (x.map (·.1)) li) a w) → wpZ P ops C0 (needZ ops xi0) Q (x.length + f) li a w
 | [], li, a, _, _, _, h, hK => by
  rw [List.length_nil, Nat.zero_add]; exact hK a h
 | (i, o) :: r, li, a, hx, hD, hB, h, hK => by
  obtain ⟨hmem, hi⟩ := hx _ (.head _)
  simp only [List.map_cons, preZ, Bool.and_eq_true] at hB
  obtain ⟨hr, hf, hB'⟩ := hB
  have hr' : i ∈ Region.ready .any ops li := by simpa using hr
  have key : ∃ v, YieldsZ P ops C0 o v a ∧ wpZL P ops C0 K (r.map (·.2)) (a.put o.dst v) := by
   simp only [List.map_cons, wpZL] at h
   split at h
   ·rename_i hw
    obtain ⟨v, h1, h2⟩ := h
    exact ⟨v, .inl ⟨hw, h1⟩, h2⟩
   ·rename_i hw
    exact ⟨undef, .inr ⟨by simpa using hw, rfl⟩, h⟩
  obtain ⟨v, hy, h2⟩ := key
  rw [List.length_cons, show r.length + 1 + f = (r.length + f) + 1 by omega]
  exact wpZ_first hi (Region.noSelect_spec hs) hQ _ li a w hD (freeZ_spec hi hmem hf) hr' hy (fun _ => hw)
   (wpZ_pre hs hQ hw r _ _ (fun p hp => hx p (.tail _ hp)) (hD.set hr') hB' h2 hK)
def NoPanic (Q : Exit → Act → World → Prop) : Exit → Act → World → Prop := fun e a w => match e with
 | .panic _ => False
 | e => Q e a w
theorem wpOp_np {i : Nat} {K : Act → World → Prop} {a : Act} {w : World} (h : wpOp P ops (NoPanic Q) i K a w) : wpOp P ops Q i K a w := by
 have hp : ∀ e a w, e ≠ .normal → NoPanic Q e a w → Q e a w := fun e a w _ h => by
  cases e <;> first | exact h | exact h.elim
 unfold wpOp at *
 split
 ·rename_i ho; simp only [ho] at h; exact h
 ·rename_i o ho
  simp only [ho] at h
  split
  ·rename_i hw
   rw [if_pos hw] at h
   rcases h with h | ⟨h, a', w', hq⟩
   ·refine .inl ?_
    unfold Oper.wp at h ⊢
    exact upon_Q hp h
   ·exact .inr ⟨h, a', w', hq⟩
  ·rename_i hw
   rw [if_neg hw] at h
   exact h
theorem wpAny_np : ∀ (f : Nat) (li : Array Bool) (a : Act) (w : World), wpAny P .any ops (NoPanic Q) f li a w → wpAny P .any ops Q f li a w
 | 0, _, _, _, h => h
 | f + 1, li, a, w, h => ⟨h.1, fun i hi => wpOp_np (wpOp_mono (fun a' w' h' => wpAny_np f _ a' w' h') (h.2 i hi))⟩
end
inductive ZSplit : Nat → List Nat → List Oper → List (Nat × Oper) → List (Nat × Oper) → Prop where
 | nil {k : Nat} {tl : List Nat} : ZSplit k tl [] [] []
 | pure {k : Nat} {tl : List Nat} {o : Oper} {r : List Oper} {x y : List (Nat × Oper)} (hp : (pureB o && o.after.toList.all fun e => tl.all fun t => !Nat.beq t e.on) = true) (h : ZSplit (k + 1) tl r x y) : ZSplit k tl (o :: r) ((k, o) :: x) y
 | tail {k : Nat} {tl : List Nat} {o : Oper} {r : List Oper} {x y : List (Nat × Oper)} (h : ZSplit (k + 1) (k :: tl) r x y) : ZSplit k tl (o :: r) x ((k, o) :: y)
theorem ZSplit.spec {k : Nat} {tl : List Nat} {l : List Oper} {x y : List (Nat × Oper)} (h : ZSplit k tl l x y) : (∀ p ∈ x, k ≤ p.1 ∧ l[p.1 - k]? = some p.2 ∧ pureB p.2 = true) ∧ (∀ p ∈ y, k ≤ p.1 ∧ l[p.1 - k]? = some p.2) ∧ x.length + y.length = l.length := by
 induction h with
 | nil => simp
 | @pure k tl o r x y hp h ih =>
  simp only [Bool.and_eq_true] at hp
  refine ⟨fun p hpm => ?_, fun p hpm => ?_, by simp only [List.length_cons]; omega⟩
  ·rcases List.mem_cons.1 hpm with rfl | hpm
   ·exact ⟨Nat.le_refl _, by simp, hp.1⟩
   ·obtain ⟨h1, h2, h3⟩ := ih.1 p hpm
    exact ⟨by omega, by rw [show p.1 - k = (p.1 - (k + 1)) + 1 by omega, List.getElem?_cons_succ]; exact h2, h3⟩
  ·obtain ⟨h1, h2⟩ := ih.2.1 p hpm
   exact ⟨by omega, by rw [show p.1 - k = (p.1 - (k + 1)) + 1 by omega, List.getElem?_cons_succ]; exact h2⟩
 | @tail k tl o r x y h ih =>
  refine ⟨fun p hpm => ?_, fun p hpm => ?_, by simp only [List.length_cons]; omega⟩
  ·obtain ⟨h1, h2, h3⟩ := ih.1 p hpm
   exact ⟨by omega, by rw [show p.1 - k = (p.1 - (k + 1)) + 1 by omega, List.getElem?_cons_succ]; exact h2, h3⟩
  ·rcases List.mem_cons.1 hpm with rfl | hpm
   ·exact ⟨Nat.le_refl _, by simp⟩
   ·obtain ⟨h1, h2⟩ := ih.2.1 p hpm
    exact ⟨by omega, by rw [show p.1 - k = (p.1 - (k + 1)) + 1 by omega, List.getElem?_cons_succ]; exact h2⟩
structure ZL (P : Program) (n : Nm) (ops : Array Oper) (C0 : World → Prop) (K : Act → Prop) (rest : List (Nat × Oper)) (l : Env) : Prop where
 run : ∀ a, Sees n l a → wpZL P ops C0 K (rest.map (·.2)) a
structure TL (P : Program) (n : Nm) (ops : Array Oper) (C0 : World → Prop) (need : Nat → Bool) (Q : Exit → Act → World → Prop) (y : List (Nat × Oper)) (l : Env) (C : World → Prop) : Prop where
 run : ∀ a w, Sees n l a → C w → wpT P ops C0 need Q y a w
def TQ (P : Program) (ops : Array Oper) (C0 : World → Prop) (need : Nat → Bool) (k : Nat) (r : List (Nat × Oper)) (Q : Exit → Act → World → Prop) : Exit → Act → World → Prop := fun e a w => match e with
 | .normal => (need k = true → C0 w) ∧ wpT P ops C0 need Q r a w
 | e => Q e a w
def zB (ops : Array Oper) (xi yi : List Nat) : Bool := Region.noSelect ops && (preZ ops xi (Array.replicate ops.size false) && seqZ ops yi (runZ xi (Array.replicate ops.size false)))
section
variable {P : Program} {n : Nm} {l : Env} {C C0 : World → Prop} {ops : Array Oper} {Q : Exit → Act → World → Prop} {K : Act → Prop} {o : Oper} {k : Nat} {x y r : List (Nat × Oper)} {need : Nat → Bool}
theorem W.regz {id : Nat} {l0 : List Oper} (hs : ZSplit 0 [] l0 x y) (hm : P.follows .mixedOrders = true) (hB : zB l0.toArray (x.map (·.1)) (y.map (·.1)) = true) (hC : ∀ w, C w → C { w with drawn := w.drawn + 1 })
  (h : ZL P n l0.toArray C (fun a' => ∀ w', C w' → wpT P l0.toArray C (needZ l0.toArray (x.map (·.1))) (NoPanic Q) y a' w') x l) : W P n (.region id l0.toArray true) Q l C := ⟨fun a w hs' hc => by
 simp only [zB, Bool.and_eq_true] at hB
 obtain ⟨h1, h2, h3⟩ := hB
 obtain ⟨hx, hy, hlen⟩ := hs.spec
 refine wpp_region_any hm (wpAny_np _ _ _ _ (wpAny_of_Z (C0 := C) (need := needZ l0.toArray (x.map (·.1))) _ _ _ _ ?_))
 have key := wpZ_pre (P := P) (ops := l0.toArray) (C0 := C) (Q := NoPanic Q) (xi0 := x.map (·.1)) (f := y.length) (w := { w with drawn := w.drawn + 1 }) h1 (fun _ _ _ h => h) (hC w hc) x (Array.replicate l0.toArray.size false) a
  (fun p hp => ⟨List.mem_map.2 ⟨p, hp, rfl⟩, by have := (hx p hp).2.1; simpa using this⟩) (fun j o _ hj => by rw [getD_rep] at hj; cases hj) h2 (h.run a hs')
  (fun a' hK => wpZ_seq y _ a' _ h3 (hK _ (hC w hc)))
 have e : x.length + y.length = l0.toArray.size := by simpa using hlen
 exact (congrArg (fun s => wpZ P l0.toArray C (needZ l0.toArray (x.map (·.1))) (NoPanic Q) s (Array.replicate l0.toArray.size false) a { w with drawn := w.drawn + 1 }) e).mp key⟩
theorem ZL.nil (h : TL P n ops C0 need Q y l C0) : ZL P n ops C0 (fun a' => ∀ w', C0 w' → wpT P ops C0 need Q y a' w') [] l := ⟨fun a hs w hc => h.run a w hs hc⟩
theorem ZL.step {d : Nat} {c : Bool} {v : Value} (hp : pureB o = true) (hg : Guard l ops o.guard c) (hd : o.dst = some d) (hn : Nat.ble (d + 1) n.n = true) (hv : Pev P n l (fun w => depB o = true → C0 w) o c v)
  (kk : ZL P n ops C0 K r ((d, c, v) :: l)) : ZL P n ops C0 K ((k, o) :: r) l := by
 have hn' := Nat.le_of_ble_eq_true hn
 refine ⟨fun a hs => ?_⟩
 show wpZL P ops C0 K (o :: r.map (·.2)) a
 unfold wpZL
 rw [hg.wanted hs]
 cases c with
 | true => exact ⟨v, fun w hw => still_of hp (hv.run rfl a w hs hw), by rw [hd]; exact kk.run _ (hs.put hn' true v)⟩
 | false => rw [hd]; exact kk.run _ (hs.put hn' false v)
theorem ZL.op {d : Nat} {c : Bool} {v : Value} (hb : (pureB o && !depB o) = true) (hg : Guard l ops o.guard c) (hd : o.dst = some d) (hn : Nat.ble (d + 1) n.n = true) (hv : Pev P n l (fun _ => True) o c v)
  (kk : ZL P n ops C0 K r ((d, c, v) :: l)) : ZL P n ops C0 K ((k, o) :: r) l := by
 simp only [Bool.and_eq_true, Bool.not_eq_true'] at hb
 exact ZL.step hb.1 hg hd hn ⟨fun hc a w hs hw => by
  have := hv.run hc a w hs trivial
  rw [still_of hb.1 this]; exact ⟨rfl, rfl⟩⟩ kk
theorem ZL.ld {d : Nat} {c : Bool} {v : Value} (hb : (pureB o && depB o) = true) (hg : Guard l ops o.guard c) (hd : o.dst = some d) (hn : Nat.ble (d + 1) n.n = true) (hv : Pev P n l C0 o c v)
  (kk : ZL P n ops C0 K r ((d, c, v) :: l)) : ZL P n ops C0 K ((k, o) :: r) l := by
 simp only [Bool.and_eq_true] at hb
 exact ZL.step hb.1 hg hd hn ⟨fun hc a w hs hw => by
  have := hv.run hc a w hs (hw hb.2)
  rw [still_of hb.1 this]; exact ⟨rfl, rfl⟩⟩ kk
theorem TL.nil (h : At n Q .normal l C) : TL P n ops C0 need Q [] l C := ⟨fun a w hs hc => h.run a w hs hc⟩
theorem TL.one (hi : ops[k]? = some o) (h : OL P n ops (TQ P ops C0 need k r Q) [o] l C) : TL P n ops C0 need Q ((k, o) :: r) l C := ⟨fun a w hs hc => by
 have hp : ∀ ex a w, ex ≠ .normal → TQ P ops C0 need k r Q ex a w → Q ex a w := fun ex a w hne h => by
  cases ex <;> first | exact h | exact absurd rfl hne
 have h := h.run a w hs hc
 show wpOp P ops Q k _ a w
 unfold wpOp
 simp only [hi]
 unfold wpList at h
 split
 ·rename_i hw
  rw [if_pos hw] at h
  rcases h with h | ⟨h, a', w', hq⟩
  ·refine .inl ?_
   unfold Oper.wp at h ⊢
   exact upon_Q hp h
  ·exact .inr ⟨h, a', w', hp _ _ _ (by simp) hq⟩
 ·rename_i hw
  rw [if_neg hw] at h
  exact h⟩
theorem At.tn (hk : need k = false) (h : TL P n ops C0 need Q r l C) : At n (TQ P ops C0 need k r Q) .normal l C := ⟨fun a w hs hc => ⟨fun h' => (by rw [hk] at h'; cases h'), h.run a w hs hc⟩⟩
theorem At.tk (hk : ∀ w, C w → C0 w) (h : TL P n ops C0 need Q r l C) : At n (TQ P ops C0 need k r Q) .normal l C := ⟨fun a w hs hc => ⟨fun _ => hk w hc, h.run a w hs hc⟩⟩
theorem At.np (h : At n Q .normal l C) : At n (NoPanic Q) .normal l C := ⟨h.run⟩
end
/-! a guard that is known, among the quiet operations -/
section
variable {P : Program} {n : Nm} {l : Env} {C : World → Prop} {c : Bool} {d : Option Nat} {op : Op} {ty : TypeId} {pos : String} {af : Array Edge} {g : Option (Nat × Bool)} {ops : Array Oper} {K : Act → Prop} {rest : List Oper}
theorem QL.gateOff {dd : Nat} (hg : Guard l ops g c) (hc : c = false) (hn : Nat.ble (dd + 1) n.n = true) (h : QL P n ops C K rest ((dd, false, undef) :: l)) : QL P n ops C K (⟨some dd, op, ty, pos, af, g⟩ :: rest) l := by
 have hn' := Nat.le_of_ble_eq_true hn
 refine ⟨fun a hs => ?_⟩
 unfold wpQuiet
 rw [hg.wanted hs]
 subst hc
 exact h.run _ (hs.put hn' false undef)
end
end Go.Eng

/- A drawn region whose pure operations look at a part of memory alone (the same as in SbI, which is not imported beside this). General. No condition. -/
namespace Go.Eng
open Go.RowKit
theorem AllLe.of {k : Nat} : ∀ {S : List World}, (∀ s ∈ S, s.heap.size ≤ k) → AllLe S k
 | [], _ => trivial
 | s :: S, h => ⟨h s (.head _), AllLe.of fun x hx => h x (.tail _ hx)⟩
section
variable {P : Program} {n : Nm} {l : Env} {H : List Item} {S : List World} {ops : Array Oper} {rest : List Oper} {Q : Exit → Act → World → Prop} {t ty : TypeId} {pos : String} {af : Array Edge}
theorem Cls.sub {w : World} {L : List Item} (h : Cls H S w) (hs : L.Sublist H) : Cls L [] w where
 holds := fun j hj => h.holds _ (hs.subset hj)
 lt := fun j hj => h.lt _ (hs.subset hj)
 dj := h.dj.sublist hs
 kp := fun s hs => by cases hs
theorem Cls.onlyI {w : World} {i : Item} (h : Cls H S w) (hi : i ∈ H) : Cls [i] [] w where
 holds := fun j hj => by obtain rfl := List.mem_singleton.1 hj; exact h.holds _ hi
 lt := fun j hj => by obtain rfl := List.mem_singleton.1 hj; exact h.lt _ hi
 dj := List.pairwise_singleton _ _
 kp := fun s hs => by cases hs
variable {C C0 : World → Prop} {x y : List (Nat × Oper)}
theorem W.regzC {id : Nat} {l0 : List Oper} (hs : ZSplit 0 [] l0 x y) (hm : P.follows .mixedOrders = true) (hB : zB l0.toArray (x.map (·.1)) (y.map (·.1)) = true) (hC : ∀ w, C w → C { w with drawn := w.drawn + 1 }) (hC0 : ∀ w, C w → C0 w)
  (h : ZL P n l0.toArray C0 (fun a' => ∀ w', C w' → wpT P l0.toArray C0 (needZ l0.toArray (x.map (·.1))) (NoPanic Q) y a' w') x l) : W P n (.region id l0.toArray true) Q l C := ⟨fun a w hs' hc => by
 simp only [zB, Bool.and_eq_true] at hB
 obtain ⟨h1, h2, h3⟩ := hB
 obtain ⟨hx, hy, hlen⟩ := hs.spec
 refine wpp_region_any hm (wpAny_np _ _ _ _ (wpAny_of_Z (C0 := C0) (need := needZ l0.toArray (x.map (·.1))) _ _ _ _ ?_))
 have key := wpZ_pre (P := P) (ops := l0.toArray) (C0 := C0) (Q := NoPanic Q) (xi0 := x.map (·.1)) (f := y.length) (w := { w with drawn := w.drawn + 1 }) h1 (fun _ _ _ h => h) (hC0 _ (hC w hc)) x (Array.replicate l0.toArray.size false) a
  (fun p hp => ⟨List.mem_map.2 ⟨p, hp, rfl⟩, by have := (hx p hp).2.1; simpa using this⟩) (fun j o _ hj => by rw [getD_rep] at hj; cases hj) h2 (h.run a hs')
  (fun a' hK => wpZ_seq y _ a' _ h3 (hK _ (hC w hc)))
 have e : x.length + y.length = l0.toArray.size := by simpa using hlen
 exact (congrArg (fun s => wpZ P l0.toArray C0 (needZ l0.toArray (x.map (·.1))) (NoPanic Q) s (Array.replicate l0.toArray.size false) a { w with drawn := w.drawn + 1 }) e).mp key⟩
theorem ZL.nilC {need : Nat → Bool} (h : TL P n ops C0 need Q y l C) : ZL P n ops C0 (fun a' => ∀ w', C w' → wpT P ops C0 need Q y a' w') [] l := ⟨fun a hs w hc => h.run a w hs hc⟩
end
end Go.Eng

/- A range over a function: the call of yield, a round, the statement, and the end of a function that holds one. General. No condition. -/
namespace Go.Eng
open Go.RowKit
def setL (rc : Loop) (s : LoopState) (p : Option Code) : Loop := { rc with state := s, pending := p }
def lpI (lp : Nat) (rc : Loop) : Item := ⟨fun k => k = lp, fun w => w.heap[lp]? = some (.loop rc), fun w w' hk h => (hk lp rfl).trans h⟩
def mkI (D : Nat) : Item := ⟨fun k => k = D, fun w => w.heap[D]? = some (.deferred (some [])), fun w w' hk h => (hk D rfl).trans h⟩
abbrev yv (lp : Nat) : Value := .func (.yield lp) #[] #[]
def dMark (D : Nat) : Deferred := { target := .collected D, args := #[] }
section
variable {P : Program} {n : Nm} {l : Env} {H : List Item} {S : List World} {C : World → Prop} {ops : Array Oper} {rest : List Oper} {Q : Exit → Act → World → Prop} {ty : TypeId} {pos : String} {af : Array Edge} {x : Operand}
theorem Cls.putO {F : Item → List Item} {w : World} {p k : Nat} {i j : Item} {o : Obj} (h : Cls H S w) (hH : Hole p H i F) (hi : i.own k) (hk : k < w.heap.size) (hj : j.holds (w.putObj k o)) (ho : ∀ q, j.own q → i.own q) (ho2 : ∀ q, i.own q → j.own q) : Cls (F j) S (w.putObj k o) := by
 obtain ⟨hp, hF⟩ := hH.eq
 rw [hF]
 have hsz : (w.putObj k o).heap.size = w.heap.size := by simp [World.putObj]
 refine h.turn p hp (j := j) ⟨rfl, rfl, rfl, by rw [hsz]; exact Nat.le_refl _, fun q hq hn => World.putObj_heap_other (fun e => hn (by rw [e]; exact hi))⟩ hj (fun q hq => ⟨.inl (ho q hq), by rw [hsz]; exact h.lt _ (List.mem_of_getElem? hp) q (ho q hq)⟩) ho2
/-! ### The call of yield -/
def YQ (P : Program) (ops : Array Oper) (Q : Exit → Act → World → Prop) (o : Oper) (post : List Oper) : Exit → Act → World → Prop := fun e a w => match e with
 | .normal => ∃ lp args, o.guard = none ∧ (∀ c, o.op ≠ .defer c) ∧ (execOp a.eval o).run P w = (Instr.yield lp args).run P w ∧ YieldAt Fence.wide 0 P lp args w fun e' w' => ∃ v, e' = .returned v ∧ wpList P ops Q post (a.put o.dst v) w'
 | e => Q e a w
theorem yieldAt_mono {F : Fence} {m lp : Nat} {args : Array Value} {w : World} {R R' : Ending → World → Prop} (h : YieldAt F m P lp args w R) (hr : ∀ e w, R e w → R' e w) : YieldAt F m P lp args w R' := by
 obtain ⟨fn, tmps, assign, body, hy, hR⟩ := h
 exact ⟨fn, tmps, assign, body, hy, hR.mono hr⟩
inductive CutN : Nat → List Oper → List Oper → Oper → List Oper → Prop where
 | z {o : Oper} {r : List Oper} : CutN 0 (o :: r) [] o r
 | s {k : Nat} {x o : Oper} {r pre post : List Oper} (h : CutN k r pre o post) : CutN (k + 1) (x :: r) (x :: pre) o post
theorem CutN.eq {k : Nat} {l0 pre post : List Oper} {o : Oper} (h : CutN k l0 pre o post) : l0 = pre ++ o :: post := by
 induction h with
 | z => rfl
 | s _ ih => rw [ih]; rfl
theorem At.yield {α : Type} (V : α → Bool) (Φ : α → Prop) (C' : α → World → Prop) {lp dd : Nat} {args : List Operand} {vs : List Value} {ats : Array TypeId} {post : List Oper} (hx : evl l x = some (true, .func (.yield lp) #[] #[])) (hn : Nat.ble (dd + 1) n.n = true) (ha : Args l true args vs)
  (h : ∀ w, C w → YieldAt Fence.wide 0 P lp vs.toArray w fun e w' => ∃ u, e = .returned (.bool (V u)) ∧ Φ u ∧ C' u w')
  (k : ∀ u, Φ u → OL P n ops Q post ((dd, true, .bool (V u)) :: l) (C' u)) : At n (YQ P ops Q ⟨some dd, .call { callee := .value x, args := args.toArray, argTypes := ats }, ty, pos, af, none⟩ post) .normal l C := ⟨fun a w hs hC => by
 have hn' := Nat.le_of_ble_eq_true hn
 refine ⟨lp, vs.toArray, rfl, (fun c hc => by cases hc), ?_, yieldAt_mono (h w hC) ?_⟩
 ·have h1 := hs.eval hx rfl
  have h2 := ha.map hs rfl
  have h3 : (args.toArray.map a.eval) = vs.toArray := by rw [List.map_toArray, h2]
  simp only [execOp, resolve, h1, h3, Sem.run_bind, Sem.run_pure, Result.andThen_ok, invoke]
  simp [go_sem]
 ·rintro e w' ⟨u, rfl, hu, hc⟩
  exact ⟨_, rfl, (k u hu).run _ w' (hs.put hn' true _) hc⟩⟩
/-! ### A round -/
def BegQ (P : Program) (lp : Nat) (body : Code) (R : Ending → World → Prop) : Exit → Act → World → Prop := fun e a w => match e with
 | .normal => ∃ w2, (Instr.beginRound lp).run P w = .ok () w2 ∧ wpp (some lp) P body (roundPost P lp R) a w2
 | _ => False
theorem Cls.loopTo {w : World} {p lp : Nat} {rc rc' : Loop} {F : Item → List Item} (h : Cls H S w) (hH : Hole p H (lpI lp rc) F) : Cls (F (lpI lp rc')) S (w.putObj lp (.loop rc')) := by
 have hi := h.item (List.mem_of_getElem? hH.eq.1)
 have hlt := h.lt _ (List.mem_of_getElem? hH.eq.1) lp rfl
 exact h.putO hH rfl hlt (World.putObj_heap_same hlt) (fun q hq => hq) (fun q hq => hq)
/-! ### The statement -/
def zipE : List Nat → List Value → Env → Env
 | p :: ps, v :: vs, l => zipE ps vs ((p, true, v) :: l)
 | _, _, l => l
def foldT (t : Array Value) (q : List (Nat × Value)) : Array Value := q.foldl (fun t (p, v) => t.setIfInBounds p v) t
theorem sees_zip {m : Nat} {M : List Deferred} {r : Option Nat} : ∀ (ps : List Nat) (vs : List Value) (l : Env) (a : Act), (∀ p ∈ ps, Nat.ble (p + 1) m = true) → Sees ⟨m, M, r⟩ l a → Sees ⟨m, M, r⟩ (zipE ps vs l) { a with tmps := foldT a.tmps (ps.zip vs) }
 | [], _, l, a, _, h => by simpa [zipE, foldT] using h
 | p :: ps, [], l, a, _, h => by simpa [zipE, foldT] using h
 | p :: ps, v :: vs, l, a, hb, h => by
  have h1 := h.put (Nat.le_of_ble_eq_true (hb p (.head _))) true v
  exact sees_zip ps vs _ _ (fun q hq => hb q (.tail _ hq)) h1
def RdR (S : List World) {σ : Type} (I : σ → List Item) (B : σ → List Value → σ → Prop) (Z : Code → σ → Prop) (lp D : Nat) (rc : Loop) (x : σ) (vs : List Value) : Ending → World → Prop := fun e w =>
 (∃ x', e = .returned (.bool true) ∧ B x vs x' ∧ Cls (lpI lp (setL rc .ready none) :: mkI D :: I x') S w) ∨ (∃ c x', e = .returned (.bool false) ∧ Z c x' ∧ Cls (lpI lp (setL rc .done (some c)) :: mkI D :: I x') S w)
def Iter (P : Program) (gf : FuncId) (first cap : List Value) (S : List World) {σ : Type} (I : σ → List Item) (A : σ → List Value → Prop) (B : σ → List Value → σ → Prop) (E : σ → Prop) (x0 : σ) : Prop :=
 ∀ (lp D : Nat) (rc : Loop) (Z : Code → σ → Prop), AllLe S lp → AllLe S D →
  (∀ x vs w, A x vs → Cls (lpI lp (setL rc .ready none) :: mkI D :: I x) S w → YieldAt Fence.wide 0 P lp vs.toArray w (RdR S I B Z lp D rc x vs)) →
  ∀ w, Cls (lpI lp (setL rc .ready none) :: mkI D :: I x0) S w → Calls P gf (first ++ [yv lp] ++ cap).toArray w fun e w' => (∃ v, e = .returned v) ∧
   ((∃ x', E x' ∧ Cls (lpI lp (setL rc .ready none) :: mkI D :: I x') S w') ∨ (∃ c x', Z c x' ∧ Cls (lpI lp (setL rc .done (some c)) :: mkI D :: I x') S w'))
theorem AllLe.all {k : Nat} : ∀ {S : List World}, AllLe S k → ∀ s ∈ S, s.heap.size ≤ k
 | [], _, s, hs => by cases hs
 | s :: S, h, t, ht => by
  rcases List.mem_cons.1 ht with rfl | ht
  ·exact h.1
  ·exact AllLe.all h.2 t ht
theorem W.range {m : Nat} {M : List Deferred} {g : Operand} {ps : List Nat} {assign body : Code} {gf : FuncId} {first cap : List Value} {σ : Type} (I : σ → List Item) (A : σ → List Value → Prop) (B : σ → List Value → σ → Prop) (E : σ → Prop) (Z : Code → σ → Prop) (x0 : σ)
  (hg : evl l g = some (true, .func (.func gf) first.toArray cap.toArray)) (hf : callable P gf = true) (hps : ∀ p ∈ ps, Nat.ble (p + 1) m = true) (hcb : calmC assign && calmC body) (hI : ∀ w, C w → Cls (I x0) S w)
  (hvs : ∀ x vs, A x vs → vs.length = ps.length)
  (hiter : ∀ w, Cls (I x0) S w → Iter P gf first cap S I A B E x0)
  (hround : ∀ (lp D : Nat) (rc : Loop) (x : σ) (vs : List Value), AllLe S lp → AllLe S D → A x vs → W P ⟨m, [], some lp⟩ assign (BegQ P lp body (RdR S I B Z lp D rc x vs)) (zipE ps vs l) (Cls (lpI lp (setL rc .ready none) :: mkI D :: I x) S))
  (hdone : ∀ D x, AllLe S D → E x → At ⟨m, dMark D :: M, none⟩ Q .normal l (Cls (mkI D :: I x) S))
  (hstop : ∀ D c x, AllLe S D → Z c x → W P ⟨m, dMark D :: M, none⟩ c Q l (Cls (mkI D :: I x) S)) :
  W P ⟨m, M, none⟩ (.rangeFunc g ps.toArray assign body) Q l C := ⟨fun a w0 hs hC hp => by
 have hc := hI w0 hC
 simp only [Bool.and_eq_true] at hcb
 refine wpIn_rangeFunc ?_
 intro fn hfn
 have hev := hs.eval hg rfl
 obtain ⟨rc, hrc⟩ : ∃ rc : Loop, rc = { state := .ready, pending := none, fn, tmps := a.tmps, params := ps.toArray, assign, body, defers := w0.heap.size } := ⟨_, rfl⟩
 have hrc0 : setL rc .ready none = rc := by rw [hrc]; rfl
 obtain ⟨w1, hw1⟩ : ∃ w1, w0.alloc (.deferred (some [])) = w1 := ⟨_, rfl⟩
 have hz1 : w1.heap.size = w0.heap.size + 1 := by rw [← hw1, World.size_alloc]
 obtain ⟨w2, hw2⟩ : ∃ w2, w1.alloc (.loop rc) = w2 := ⟨_, rfl⟩
 have hz2 : w2.heap.size = w0.heap.size + 2 := by rw [← hw2, World.size_alloc, hz1]
 have hE1 : Ext w0 w1 := by rw [← hw1]; exact Ext.of_below ((Below.refl _ w0).alloc (Nat.le_refl _) _)
 have hE2 : Ext w1 w2 := by rw [← hw2]; exact Ext.of_below ((Below.refl _ w1).alloc (Nat.le_refl _) _)
 have c1 : Cls (mkI w0.heap.size :: I x0) S w1 := hc.add hE1 _ (by rw [← hw1]; exact World.alloc_heap_new w0 _) (fun k hk => by rw [show k = w0.heap.size from hk]; omega)
 have c2 : Cls (lpI (w0.heap.size + 1) rc :: mkI w0.heap.size :: I x0) S w2 := c1.add hE2 _ (by rw [← hw2, ← hz1]; exact World.alloc_heap_new w1 _) (fun k hk => by rw [show k = w0.heap.size + 1 from hk]; omega)
 have hlD : AllLe S w0.heap.size := AllLe.of fun s hs => (hc.kp s hs).size
 have hlp : AllLe S (w0.heap.size + 1) := AllLe.of fun s hs => Nat.le_trans (hc.kp s hs).size (Nat.le_succ _)
 refine ⟨w0.heap.size + 1, [dMark w0.heap.size], w2, { target := .fn (.func gf) cap.toArray, args := first.toArray ++ #[yv (w0.heap.size + 1)] }, w2, gf, (first ++ [yv (w0.heap.size + 1)] ++ cap).toArray, w2, ?_, ?_, fun _ _ => trivial, ?_, (fun h => by cases h), ?_⟩
 ·rw [← hw2, ← hw1, hrc]
  exact run_enterLoop_outer _ _ _ _ _
 ·simp only [resolve, hev]
  simp [go_sem]
 ·have := run_callFunc_body (P := P) hf (first ++ [yv (w0.heap.size + 1)] ++ cap).toArray w2
  simp only [invoke]
  simpa using this
 ·refine callsIn_wide.2 ?_
  rw [← hrc0] at c2
  refine (hiter w0 hc (w0.heap.size + 1) w0.heap.size rc Z hlp hlD (fun x vs w hA hw => ?_) w2 c2).mono ?_
  ·have hi := hw.item (i := lpI (w0.heap.size + 1) (setL rc .ready none)) (.head _)
   refine ⟨fn, foldT a.tmps (ps.zip vs), assign, body, ?_, ?_⟩
   ·have := run_yield (P := P) (args := vs.toArray) hi (by rw [hrc]; simp [setL, hvs x vs hA])
    rw [this, hrc]
    simp [setL, foldT]
   ·refine roundIn_of_wpIn hfn ?_
    have hsr : Sees ⟨m, [], some (w0.heap.size + 1)⟩ l { a with defers := [] } := ⟨rfl, hs.sz, hs.at_⟩
    have hrun := (hround _ _ rc x vs hlp hlD hA).run _ w (sees_zip ps vs l _ hps hsr) hw (fun _ => hcb.1)
    refine wpIn_mono hrun fun e a1 w1 hq => ?_
    cases e with
    | normal =>
     obtain ⟨w2, h1, h2⟩ := hq
     exact ⟨w2, h1, h2 fun _ => hcb.2⟩
    | _ => exact hq.elim
  ·have hfinal : ∀ (x' : σ) (st : LoopState) (pe : Option Code) (w3 : World), st ≠ .busy → Cls (lpI (w0.heap.size + 1) (setL rc st pe) :: mkI w0.heap.size :: I x') S w3 → ∃ w4, (Instr.endLoop (w0.heap.size + 1)).run P w3 = .ok pe w4 ∧ Cls (mkI w0.heap.size :: I x') S w4 := fun x' st pe w3 hst hw => by
    have hi := hw.item (i := lpI (w0.heap.size + 1) (setL rc st pe)) (.head _)
    refine ⟨_, run_endLoop hi hst, ?_⟩
    have h5 := hw.loopTo (rc' := { setL rc st pe with state := .exhausted }) .z
    exact h5.thin (.any (fun k hk => by rw [show k = w0.heap.size + 1 from hk]; exact hlp) Thin.same)
   have hsa : Sees ⟨m, dMark w0.heap.size :: M, none⟩ l { a with defers := [dMark w0.heap.size] ++ a.defers } := ⟨congrArg (fun z => [dMark w0.heap.size] ++ z) hs.df, hs.sz, hs.at_⟩
   rintro e w3 ⟨⟨v, rfl⟩, ⟨x', hE, hw⟩ | ⟨c, x', hZ, hw⟩⟩
   ·obtain ⟨w4, h1, h2⟩ := hfinal x' _ _ w3 (by simp) hw
    exact ⟨none, w4, h1, (hdone _ x' hlD hE).run _ w4 hsa h2⟩
   ·obtain ⟨w4, h1, h2⟩ := hfinal x' _ _ w3 (by simp) hw
    exact ⟨some c, w4, h1, (hstop _ c x' hlD hZ).run _ w4 hsa h2 (fun h => by cases h)⟩⟩
end
end Go.Eng

/- A callee's own items join the caller's; a finished row goes to the things that are told; ends of functions that hold a range over a function. General. No condition. -/
namespace Go.Eng
open Go.RowKit
theorem Cls.over {H H2 : List Item} {S : List World} {w w' : World} (h : Cls H S w) (h2 : Cls H2 [w] w') (hf : ∀ i ∈ H2, ∀ k, i.own k → w.heap.size ≤ k) : Cls (H2 ++ H) S w' := by
 have hk := h2.kp w (.head _)
 have hno : ∀ k, k < w.heap.size → ¬ owned H2 k := fun k hlt ⟨i, hi, ho⟩ => by have := hf i hi k ho; omega
 refine ⟨fun i hi => ?_, fun i hi k ho => ?_, ?_, fun s hs => ?_⟩
 ·rcases List.mem_append.1 hi with hi | hi
  ·exact h2.holds i hi
  ·exact i.stab w w' (fun k ho => hk.block k (h.lt i hi k ho) (hno k (h.lt i hi k ho))) (h.holds i hi)
 ·rcases List.mem_append.1 hi with hi | hi
  ·exact h2.lt i hi k ho
  ·exact Nat.lt_of_lt_of_le (h.lt i hi k ho) hk.size
 ·rw [List.pairwise_append]
  exact ⟨h2.dj, h.dj, fun i hi j hj k ho1 ho2 => by have := hf i hi k ho1; have := h.lt j hj k ho2; omega⟩
 ·have h3 := h.kp s hs
  refine (h3.mono fun k _ ⟨i, hi, ho⟩ => ⟨i, List.mem_append_right _ hi, ho⟩).trans (hk.mono fun k _ ⟨i, hi, ho⟩ => ⟨i, List.mem_append_left _ hi, ho⟩)
theorem At.cw {n : Nm} {Q : Exit → Act → World → Prop} {e : Exit} {l : Env} {C C' : World → Prop} (h : ∀ w, C w → C' w) (k : At n Q e l C') : At n Q e l C := ⟨fun a w hs hc => k.run a w hs (h w hc)⟩
theorem Cls.row_low {H : List Item} {S : List World} {w : World} {B B' m cap size : Nat} {O : Nat → Prop} {q : Option Addr} {e : TypeId} {xs : List Value} (h : Cls (row B O q m cap e size xs :: H) S w) (hB : B' ≤ B) : Cls (row B' (fun k => B ≤ k ∧ O k) q m cap e size xs :: H) S w := by
 have hd := List.pairwise_cons.1 h.dj
 refine ⟨fun i hi => ?_, fun i hi => ?_, .cons (fun j hj k hk => hd.1 j hj k hk.2) hd.2, fun s hs => (h.kp s hs).mono fun k _ ⟨j, hj, hjk⟩ => ?_⟩
 ·cases hi with
  | head =>
   have h0 : (row B O q m cap e size xs).holds w := h.holds _ (.head _)
   refine ⟨fun a ha => ⟨?_, h0.1 a ha⟩, h0.2.1, ?_⟩
   ·rcases h0.2.2 with ⟨h3, _⟩ | ⟨g, cap', cur, h3, hb, _⟩
    ·rw [ha] at h3; cases h3
    ·rw [ha] at h3
     simp only [Value.slice.injEq, Option.some.injEq] at h3
     rw [h3.1]; exact hb
   ·rcases h0.2.2 with h3 | ⟨g, cap', cur, h3, hb, h4⟩
    ·exact .inl h3
    ·exact .inr ⟨g, cap', cur, h3, by omega, h4⟩
  | tail _ hi => exact h.holds _ (.tail _ hi)
 ·cases hi with
  | head => exact fun k hk => h.lt (row B O q m cap e size xs) (.head _) k hk.2
  | tail _ hi => exact h.lt _ (.tail _ hi)
 ·cases hj with
  | head =>
   have hjk' : B ≤ k ∧ O k := hjk
   exact ⟨_, .head _, by omega, hjk'⟩
  | tail _ hj => exact ⟨_, .tail _ hj, hjk⟩
theorem Cls.callee {H : List Item} {S : List World} {w2 w3 : World} {B m cap size : Nat} {O : Nat → Prop} {q : Option Addr} {e : TypeId} {xs : List Value} (h : Cls H S w2) (h3 : Cls [row w2.heap.size O q m cap e size xs] [w2] w3) (hB : B ≤ w2.heap.size) : Cls (row B (fun k => w2.heap.size ≤ k ∧ O k) q m cap e size xs :: H) S w3 :=
 (h.over h3 (fun i hi k hk => by rw [List.mem_singleton] at hi; subst hi; exact hk.1)).row_low hB
end Go.Eng

/- Maps whose keys are strings, of the call's own: an item for the list of keys and values; make, look up, put a new key, delete. General. No condition. -/
namespace Go.Eng
open Go.RowKit Go.MapKept
abbrev MP := List (ByteArray × Value)
def mget : MP → ByteArray → Option Value
 | [], _ => none
 | p :: r, k => if p.1 = k then some p.2 else mget r k
def mdel : MP → ByteArray → MP
 | [], _ => []
 | p :: r, k => if p.1 = k then r else p :: mdel r k
def mcells (m : MP) : List (Value × Value) := m.map fun p => (.string p.1, p.2)
def mapS (b : Nat) (m : MP) : Item :=
 ⟨fun k => k = b, fun w => ∃ es clock, w.heap[b]? = some (.map es clock) ∧ es.toList.map (fun e => (e.key, e.val)) = mcells m, fun w w' hk ⟨es, c, h, h2⟩ => ⟨es, c, (hk b rfl).trans h, h2⟩⟩
theorem NotOwned.mapS {H : List Item} {b : Nat} {m : MP} {k : Nat} (h : k ≠ b) (r : NotOwned H k) : NotOwned (Eng.mapS b m :: H) k := NotOwned.any (fun hm => h hm) r
theorem mapS_lt {w : World} {b : Nat} {m : MP} (h : (mapS b m).holds w) : b < w.heap.size := by
 obtain ⟨es, c, h1, _⟩ := h
 exact (Array.getElem?_eq_some_iff.1 h1).1
theorem now_str : ∀ (es : List MapEntry) (m : MP) (i : Nat) (k : ByteArray), es.map (fun e => (e.key, e.val)) = mcells m →
  (Instr.findNow .string (.string k) es i = some none ∧ mget m k = none) ∨ ∃ j v, Instr.findNow .string (.string k) es i = some (some (i + j, v)) ∧ mget m k = some v ∧ es.eraseIdx j = es.eraseIdx j ∧ (es.eraseIdx j).map (fun e => (e.key, e.val)) = mcells (mdel m k) ∧ j < es.length
 | [], m, i, k, h => by
  cases m with
  | nil => exact .inl ⟨rfl, rfl⟩
  | cons p r => simp [mcells] at h
 | e :: es, m, i, k, h => by
  cases m with
  | nil => simp [mcells] at h
  | cons p r =>
   simp only [mcells, List.map_cons, List.cons.injEq, Prod.mk.injEq] at h
   obtain ⟨⟨h1, h2⟩, h3⟩ := h
   by_cases hk : p.1 = k
   ·refine .inr ⟨0, e.val, ?_, by simp [mget, hk, h2], rfl, ?_, by simp⟩
    ·simp [Instr.findNow, Instr.sameNow, h1, (Go.MapKept.bytes_beq k p.1).2 hk.symm]
    ·simp only [List.eraseIdx_cons_zero, mdel, hk, if_true]
     exact h3
   ·have hb : (k == p.1) = false := by
     rw [Bool.eq_false_iff]
     exact fun hh => hk ((Go.MapKept.bytes_beq k p.1).1 hh).symm
    rcases now_str es r (i + 1) k h3 with ⟨h4, h5⟩ | ⟨j, v, h4, h5, _, h6, h7⟩
    ·exact .inl ⟨by simp [Instr.findNow, Instr.sameNow, h1, hb, h4], by simp [mget, hk, h5]⟩
    ·refine .inr ⟨j + 1, v, by simp [Instr.findNow, Instr.sameNow, h1, hb, h4]; omega, by simp [mget, hk, h5], rfl, ?_, by simp; omega⟩
     simp only [List.eraseIdx_cons_succ, List.map_cons, mdel, hk, if_false, mcells, h1, h2]
     rw [h6]; rfl
section
variable {P : Program} {n : Nm} {l : Env} {H : List Item} {S : List World} {C : World → Prop} {c : Bool} {d : Option Nat} {ty : TypeId} {pos : String} {af : Array Edge} {g : Option (Nat × Bool)}
variable {ops : Array Oper} {rest : List Oper} {Q : Exit → Act → World → Prop} {t : TypeId} {x y z : Operand} {cx cy cz : Bool}
def mapT (P : Program) (t : TypeId) : Option (TypeId × TypeId) := match P.underlying t with
 | some (.map k e) => match P.underlying k with
  | some .string => some (k, e)
  | _ => none
 | _ => none
theorem mapT_spec {k e : TypeId} (h : mapT P t = some (k, e)) : P.underlying t = some (.map k e) ∧ P.underlying k = some .string := by
 unfold mapT at h
 split at h
 ·split at h
  ·simp only [Option.some.injEq, Prod.mk.injEq] at h
   obtain ⟨rfl, rfl⟩ := h
   rename_i h1 _ h2
   exact ⟨h1, h2⟩
  ·cases h
 ·cases h
theorem isKey_str (s : ByteArray) : IsKey .string (.string s) := by simp [IsKey]
theorem Pev.lookup {k e : TypeId} {b : Nat} {m : MP} {s : ByteArray} {zv : Value} (hx : evl l x = some (cx, .map (some b))) (hcx : c = true → cx = true) (hy : evl l y = some (cy, .string s)) (hcy : c = true → cy = true) (ht : mapT P t = some (k, e)) (hz : zeroV P e = some zv) (hm : mapS b m ∈ H) :
  Pev P n l (Cls H S) ⟨d, .lookup t x y false, ty, pos, af, g⟩ c ((mget m s).getD zv) :=
 .of_run fun h a w hs hw => by
  obtain ⟨h1, h2⟩ := mapT_spec ht
  obtain ⟨es, clock, hb, hes⟩ := hw.item hm
  have hr : (Instr.lookup t (.map (some b)) (.string s) false).run P w = .ok ((mget m s).getD zv) w := by
   simp only [Instr.lookup, Sem.run_bind, run_underlying h1, Result.andThen_ok, Go.MapKept.run_getObj_map (P := P) hb, Sem.run_pure, run_checkKey h2 (isKey_str s)]
   rcases now_str es.toList m 0 s hes with ⟨h3, h4⟩ | ⟨j, v, h3, h4, _⟩
   ·rw [run_findKey h2 h3]
    simp [run_zeroV hz, h4]
   ·rw [run_findKey h2 h3]
    simp [h4]
  simp only [execOp, hs.eval hx (hcx h), hs.eval hy (hcy h), Sem.run_bind, hr, Result.andThen_ok]
  rfl
theorem Pev.lookup_no {k e : TypeId} {b : Nat} {m : MP} {s : ByteArray} (hx : evl l x = some (cx, .map (some b))) (hcx : c = true → cx = true) (hy : evl l y = some (cy, .string s)) (hcy : c = true → cy = true) (ht : mapT P t = some (k, e)) (hz : zeroV P e = some (.pointer none)) (hm : mapS b m ∈ H) (hg : mget m s = none) :
  Pev P n l (Cls H S) ⟨d, .lookup t x y false, ty, pos, af, g⟩ c (.pointer none) := by
 have := Pev.lookup (P := P) (n := n) (S := S) (d := d) (ty := ty) (pos := pos) (af := af) (g := g) hx hcx hy hcy ht hz hm
 rw [hg] at this; exact this
theorem OL.makeMap {dd : Nat} {k e : TypeId} (hn : Nat.ble (dd + 1) n.n = true) (ht : mapT P t = some (k, e)) (kk : ∀ b, AllLe S b → OL P n ops Q rest ((dd, true, .map (some b)) :: l) (Cls (mapS b [] :: H) S)) :
  OL P n ops Q (⟨some dd, .makeMap t none, ty, pos, af, none⟩ :: rest) l (Cls H S) :=
 OL.new (C' := fun b w => AllLe S b ∧ Cls (mapS b [] :: H) S w) rfl rfl hn (fun b => .map (some b))
  (fun a w hs hc => ⟨w.heap.size, w.alloc (.map #[] 0), rfl, AllLe.mk hc, hc.add (ext_alloc w _) _ ⟨#[], 0, heap_alloc_new w _, rfl⟩ (fun k hk => by
   have hk' : k = w.heap.size := hk
   subst hk'; simp)⟩)
  (fun b => ⟨fun a w hs hc => (kk b hc.1).run a w hs hc.2⟩)
theorem set_heap {w : World} {b : Nat} {o o' : Obj} (hb : w.heap[b]? = some o) : ({ w with heap := w.heap.setIfInBounds b o' } : World).heap[b]? = some o' ∧ Keep (fun k => k = b) w { w with heap := w.heap.setIfInBounds b o' } := by
 have hlt := (Array.getElem?_eq_some_iff.1 hb).1
 refine ⟨by simp [Array.getElem?_setIfInBounds, hlt], rfl, rfl, rfl, by simp, fun k hk hne => ?_⟩
 have : ¬ b = k := fun e => hne e.symm
 simp [Array.getElem?_setIfInBounds, this]
theorem OL.mapPut {k e : TypeId} {b p : Nat} {m : MP} {s : ByteArray} {v : Value} {F : Item → List Item} (hx : evl l x = some (true, .map (some b))) (hy : evl l y = some (true, .string s)) (hz : evl l z = some (true, v)) (ht : mapT P t = some (k, e)) (hH : Hole p H (mapS b m) F) (hno : mget m s = none)
  (kk : OL P n ops Q rest l (Cls (F (mapS b (m ++ [(s, v)]))) S)) : OL P n ops Q (⟨none, .mapUpdate t x y z, ty, pos, af, none⟩ :: rest) l (Cls H S) := by
 obtain ⟨hp, hF⟩ := hH.eq
 rw [hF] at kk
 obtain ⟨h1, h2⟩ := mapT_spec ht
 refine OL.store_ (C' := Cls (H.set p (mapS b (m ++ [(s, v)]))) S) rfl rfl (fun a w hs hc => ?_) kk
 obtain ⟨es, clock, hb, hes⟩ := hc.item (List.mem_of_getElem? hp)
 obtain ⟨hh, hk⟩ := set_heap (o' := .map (es.push { key := .string s, val := v, born := clock }) (clock + 1)) hb
 refine ⟨_, ?_, hc.turn p hp (j := mapS b (m ++ [(s, v)])) hk ⟨_, _, hh, ?_⟩ (fun q hq => ?_) (fun q hq => hq)⟩
 ·have h3 : Instr.findNow .string (.string s) es.toList 0 = some none := by
   rcases now_str es.toList m 0 s hes with ⟨h3, h4⟩ | ⟨j, v', h3, h4, _⟩
   ·exact h3
   ·rw [hno] at h4; cases h4
  have hr : (Instr.mapUpdate t (.map (some b)) (.string s) v).run P w = .ok () { w with heap := w.heap.setIfInBounds b (.map (es.push { key := .string s, val := v, born := clock }) (clock + 1)) } := by
   simp only [Instr.mapUpdate, Sem.run_bind, run_underlying h1, Result.andThen_ok, Go.MapKept.run_getObj_map (P := P) hb, run_checkKey h2 (isKey_str s), run_findKey h2 h3, run_setObj_map _ hb]
  simp only [execOp, hs.eval hx rfl, hs.eval hy rfl, hs.eval hz rfl, Sem.run_bind, hr, Result.andThen_ok]
  rfl
 ·simp [hes, mcells]
 ·have hq' : q = b := hq
  subst hq'
  exact ⟨.inl rfl, Nat.lt_of_lt_of_le (hc.lt _ (List.mem_of_getElem? hp) q rfl) hk.size⟩
end
end Go.Eng

/- Addresses of elements of a slice whose base is known by a hypothesis. General. No condition. -/
namespace Go.Eng
open Go.RowKit
section
variable {P : Program} {n : Nm} {l : Env} {C : World → Prop} {c : Bool} {d : Option Nat} {ty : TypeId} {pos : String} {af : Array Edge} {g : Option (Nat × Bool)} {t : TypeId} {x y : Operand} {cx cy : Bool}
theorem Pev.idxQI {e : TypeId} {sz len cp : Nat} {ki : IntKind} {i : Int} {q0 : Option Addr} {q : Addr} (hx : evl l x = some (cx, .slice q0 len cp)) (hcx : c = true → cx = true) (hy : evl l y = some (cy, .int ki i)) (hcy : c = true → cy = true)
  (hq : q0 = some q) (hu : slElem P t = some (e, sz)) (hi : c = true → 0 ≤ i ∧ i < len) : Pev P n l C ⟨d, .indexAddr t x y, ty, pos, af, g⟩ c (.pointer (some (q.add (i.toNat * sz)))) := by
 subst hq
 exact Pev.idxI hx hcx hy hcy hu hi
end
end Go.Eng

/- Patterns in memory: readings of patterns, rows and data types; maps of a kept world. Conditions: none. -/
namespace Go.Pt
open Go.Eng Go.RowKit
abbrev PY := Option Addr × Nat
theorem ArrP.len {α μ : Type} {R : Rel α μ} {w : World} {O : Nat → Prop} {l : List α} {q : Option Addr} (h : ArrP R w O l q) : ∃ ps : List (α × μ), ps.map Prod.fst = l ∧ ps.length = l.length ∧ Arr R w O ps q := by
 obtain ⟨ps, rfl, h⟩ := h
 exact ⟨ps, rfl, by rw [List.length_map], h⟩
def patsR : Rel (List Ty) PY where
 sz := 1
 pos := by decide
 cells := fun l y => [.slice y.1 l.length y.2]
 ok := fun w O l y => ArrP tyR w O l y.1 ∧ l.length ≤ y.2 ∧ l.length ≤ 9223372036854775807
 len := fun _ _ => rfl
 stab := fun hk h => ⟨h.1.stab hk, h.2⟩
 mono := fun hk h => ⟨h.1.mono hk, h.2⟩
def conR : Rel Co PY where
 sz := 2
 pos := by decide
 cells := fun c y => [.string c.name, .slice y.1 c.many y.2]
 ok := fun w O c y => c.many * 56 ≤ 140737488355328
 len := fun _ _ => rfl
 stab := fun hk h => h
 mono := fun hk h => h
structure DY where
 name : ByteArray
 params : Int
 q : Option Addr
 cap : Nat
def datR : Rel Da DY where
 sz := 3
 pos := by decide
 cells := fun d y => [.string y.name, .int .i64 y.params, .slice y.q d.cons.length y.cap]
 ok := fun w O d y => ArrP conR w O d.cons y.q ∧ d.cons.length ≤ 9223372036854775807
 len := fun _ _ => rfl
 stab := fun hk h => ⟨h.1.stab hk, h.2⟩
 mono := fun hk h => ⟨h.1.mono hk, h.2⟩
def TabM (D : List Da) (m : MP) : Prop := ∀ nm, match conAt D nm with
 | none => mget m nm = none
 | some (d, c) => ∃ i : Int, mget m nm = some (.agg #[.int .i64 (d : Int), .int .i64 i, .int .i64 (c.many : Int)])
structure TT where
 ds : List (Da × DY)
 q : Option Addr
 c : Nat
 b : Nat
 m : MP
def TT.D (T : TT) : List Da := T.ds.map Prod.fst
def TT.v (T : TT) : Value := .agg #[.slice T.q T.ds.length T.c, .map (some T.b)]
structure TT.ok (T : TT) (w : World) : Prop where
 arr : Arr datR w (low w) T.ds T.q
 map_ : (mapS T.b T.m).holds w
 tab : TabM T.D T.m
 uniq : Uniq T.D
 len : T.ds.length ≤ 9223372036854775807
theorem TT.ok.ext {T : TT} {w w' : World} (h : T.ok w) (hx : Ext w w') : T.ok w' :=
 ⟨h.arr.ext hx, (mapS T.b T.m).stab w w' (fun k hk => by
  have hk : k = T.b := hk
  subst hk
  exact hx.block _ (mapS_lt h.map_) id) h.map_, h.tab, h.uniq, h.len⟩
theorem TT.ok.at {T : TT} {w w' : World} {H : List Eng.Item} {S : List World} (h : T.ok w) (hw : Cls H S w') (hs : w ∈ S) (hno : ∀ k, k < w.heap.size → NotOwned H k) : T.ok w' :=
 ⟨h.arr.at hw hs hno, (mapS T.b T.m).stab w w' (fun k hk => by
  have hk : k = T.b := hk
  subst hk
  exact hw.same hs hno _ (mapS_lt h.map_)) h.map_, h.tab, h.uniq, h.len⟩
theorem TabM.con {D : List Da} {m : MP} (h : TabM D m) {nm : ByteArray} {d : Nat} {c : Co} (hc : conAt D nm = some (d, c)) : ∃ i : Int, mget m nm = some (.agg #[.int .i64 (d : Int), .int .i64 i, .int .i64 (c.many : Int)]) := by
 have := h nm
 rw [hc] at this
 exact this
theorem TabM.none {D : List Da} {m : MP} (h : TabM D m) {nm : ByteArray} (hc : conAt D nm = Option.none) : mget m nm = Option.none := by
 have := h nm
 rw [hc] at this
 exact this
def patsE (E : Ty × PY → Prop) : Rel (List (Ty × PY)) PY where
 sz := 1
 pos := by decide
 cells := fun l y => [.slice y.1 l.length y.2]
 ok := fun w O l y => (0 < l.length → ∃ a, y.1 = some a ∧ O a.block ∧ CellsAt w a (cat tyR.c l)) ∧ l.length ≤ y.2 ∧ l.length ≤ 9223372036854775807 ∧ ∀ p ∈ l, E p
 len := fun _ _ => rfl
 stab := fun hk h => ⟨fun hl => by
  obtain ⟨a, h1, h2, h3⟩ := h.1 hl
  exact ⟨a, h1, h2, cells_stab (hk _ h2) h3⟩, h.2⟩
 mono := fun hk h => ⟨fun hl => by
  obtain ⟨a, h1, h2, h3⟩ := h.1 hl
  exact ⟨a, h1, hk _ h2, h3⟩, h.2⟩
def FrA (w w' : World) (ps : List (Ty × PY)) (q : Option Addr) : Prop := 0 < ps.length → ∃ a, q = some a ∧ fresh w w' a.block ∧ CellsAt w' a (cat tyR.c ps)
theorem FrA.arr {w w' : World} {ps : List (Ty × PY)} {q : Option Addr} (h : FrA w w' ps q) (hel : ∀ p ∈ ps, TyO w' (low w') p.1 p.2) : Arr tyR w' (low w') ps q := ⟨fun hl => by
 obtain ⟨a, h1, h2, h3⟩ := h hl
 exact ⟨a, h1, h2.2, h3⟩, hel⟩
theorem FrA.of_row {w w' : World} {m cap : Nat} {O : Nat → Prop} {q : Option Addr} {e : TypeId} {l : List (Ty × PY)} {H : List Eng.Item} {S : List World} (hc : Cls H S w') (hi : row w.heap.size O q m cap e 4 (cat tyR.c l) ∈ H) : FrA w w' l q := fun hl => by
 have hr := hc.item hi
 have hcl : 0 < (cat tyR.c l).length := by rw [cat_length (f := tyR.c) tyR.clen]; exact Nat.mul_pos hl tyR.pos
 obtain ⟨a, h1, h2, h3⟩ := SlAt.of_row hr hcl
 refine ⟨a, h1, ⟨?_, h2⟩, h3⟩
 rcases hr.2.2 with ⟨h4, h5⟩ | ⟨g, cap', cur, h4, h5, _⟩
 ·simp only [Value.slice.injEq] at h4
  rw [h4.1] at h1; cases h1
 ·simp only [Value.slice.injEq] at h4
  rw [h4.1] at h1
  obtain rfl := Option.some.inj h1
  exact h5
theorem Cls.start2 {w0 w : World} (hx : Ext w0 w) : Cls [] [w, w0] w := ⟨fun i hi => (by cases hi), fun i hi => (by cases hi), .nil, fun s hs => by
 rcases List.mem_cons.1 hs with rfl | hs
 ·exact Keep.refl _ _
 ·rw [List.mem_singleton] at hs
  subst hs
  exact ⟨hx.os, hx.tape, hx.output, hx.size, fun k hk _ => hx.block k hk id⟩⟩
def FrS (w w' : World) (vs : List Value) (q : Option Addr) : Prop := 0 < vs.length → ∃ a, q = some a ∧ fresh w w' a.block ∧ CellsAt w' a vs
theorem FrS.of_row {w w' : World} {m cap sz : Nat} {O : Nat → Prop} {q : Option Addr} {e : TypeId} {vs : List Value} {H : List Eng.Item} {S : List World} (hc : Cls H S w') (hi : row w.heap.size O q m cap e sz vs ∈ H) : FrS w w' vs q := fun hl => by
 have hr := hc.item hi
 obtain ⟨a, h1, h2, h3⟩ := SlAt.of_row hr hl
 refine ⟨a, h1, ⟨?_, h2⟩, h3⟩
 rcases hr.2.2 with ⟨h4, h5⟩ | ⟨g, cap', cur, h4, h5, _⟩
 ·simp only [Value.slice.injEq] at h4
  rw [h4.1] at h1; cases h1
 ·simp only [Value.slice.injEq] at h4
  rw [h4.1] at h1
  obtain rfl := Option.some.inj h1
  exact h5
def arrI (B : Nat) (O : Nat → Prop) (ps : List (Ty × PY)) (q : Option Addr) : Eng.Item :=
 ⟨fun k => B ≤ k ∧ O k, fun w => Arr tyR w (fun k => B ≤ k ∧ O k) ps q, fun w w' hk h => h.stab hk⟩
theorem NotOwned.arrI {H : List Eng.Item} {B k : Nat} {O : Nat → Prop} {ps : List (Ty × PY)} {q : Option Addr} (h : k < B) (r : NotOwned H k) : NotOwned (Pt.arrI B O ps q :: H) k := NotOwned.any (fun ho => Nat.not_le_of_lt h ho.1) r
theorem arrI_low {H : List Eng.Item} {S : List World} {w : World} {B : Nat} {O : Nat → Prop} {ps : List (Ty × PY)} {q : Option Addr} (h : Cls H S w) (hi : Pt.arrI B O ps q ∈ H) : Arr tyR w (low w) ps q := Arr.mono (fun k hk => h.lt _ hi k hk) (h.item hi)
theorem Cls.arrI {H : List Eng.Item} {S : List World} {w w' : World} {ps : List (Ty × PY)} {q : Option Addr} (h : Cls H S w) (he : Ext w w') (hA : Arr tyR w' (fresh w w') ps q) : Cls (Pt.arrI w.heap.size (fun k => k < w'.heap.size) ps q :: H) S w' := h.add he _ hA (fun k hk => hk)
theorem Cls.frs {H : List Eng.Item} {S : List World} {w w' : World} {q : Option Addr} {c : Nat} {vs : List Value} (h : Cls H S w) (he : Ext w w') (hF : FrS w w' vs q) : Cls (pile w.heap.size (fun k => k < w'.heap.size) [⟨q, c, vs⟩] :: H) S w' :=
 h.add he _ (fun s hs hl => by
  obtain rfl := List.mem_singleton.1 hs
  obtain ⟨a, h1, h2, h3⟩ := hF hl
  exact ⟨a, h1, h2, h3⟩) (fun k hk => hk)
theorem Cls.pat {H : List Eng.Item} {S : List World} {w w' : World} {p : Ty} {y : PY} (h : Cls H S w) (he : Ext w w') (hA : TyO w' (fresh w w') p y) : Cls (pool tyR w.heap.size (fun k => k < w'.heap.size) [(p, y)] :: H) S w' :=
 h.add he _ (fun z hz => by
  obtain rfl := List.mem_singleton.1 hz
  exact hA) (fun k hk => hk)
end Go.Pt
namespace Go.Eng
open Go.RowKit Go.MapKept
section
variable {P : Program} {n : Nm} {l : Env} {C : World → Prop} {ty : TypeId} {pos : String} {af : Array Edge} {t : TypeId} {x y : Operand} {d : Option Nat} {g : Option (Nat × Bool)} {c cx cy : Bool}
theorem Pev.lookup_h {k e : TypeId} {b : Nat} {m : MP} {s : ByteArray} {zv : Value} (hx : evl l x = some (cx, .map (some b))) (hcx : c = true → cx = true) (hy : evl l y = some (cy, .string s)) (hcy : c = true → cy = true) (ht : mapT P t = some (k, e)) (hz : zeroV P e = some zv) (hm : ∀ w, C w → (mapS b m).holds w) :
  Pev P n l C ⟨d, .lookup t x y false, ty, pos, af, g⟩ c ((mget m s).getD zv) :=
 .of_run fun h a w hs hw => by
  obtain ⟨h1, h2⟩ := mapT_spec ht
  obtain ⟨es, clock, hb, hes⟩ := hm w hw
  have hr : (Instr.lookup t (.map (some b)) (.string s) false).run P w = .ok ((mget m s).getD zv) w := by
   simp only [Instr.lookup, Sem.run_bind, run_underlying h1, Result.andThen_ok, Go.MapKept.run_getObj_map (P := P) hb, Sem.run_pure, run_checkKey h2 (isKey_str s)]
   rcases now_str es.toList m 0 s hes with ⟨h3, h4⟩ | ⟨j, v, h3, h4, _⟩
   ·rw [run_findKey h2 h3]
    simp [run_zeroV hz, h4]
   ·rw [run_findKey h2 h3]
    simp [h4]
  simp only [execOp, hs.eval hx (hcx h), hs.eval hy (hcy h), Sem.run_bind, hr, Result.andThen_ok]
  rfl
theorem Pev.lookup_v {k e : TypeId} {b : Nat} {m : MP} {s : ByteArray} {zv v : Value} (hx : evl l x = some (cx, .map (some b))) (hcx : c = true → cx = true) (hy : evl l y = some (cy, .string s)) (hcy : c = true → cy = true) (ht : mapT P t = some (k, e)) (hz : zeroV P e = some zv) (hm : ∀ w, C w → (mapS b m).holds w) (hg : (mget m s).getD zv = v) :
  Pev P n l C ⟨d, .lookup t x y false, ty, pos, af, g⟩ c v := hg ▸ Pev.lookup_h hx hcx hy hcy ht hz hm
theorem Pev.conv {o : Oper} {v v' : Value} (h : Pev P n l C o c v) (e : v = v') : Pev P n l C o c v' := e ▸ h
theorem Pev.lookup2_h {k e : TypeId} {b : Nat} {m : MP} {s : ByteArray} {zv : Value} (hx : evl l x = some (cx, .map (some b))) (hcx : c = true → cx = true) (hy : evl l y = some (cy, .string s)) (hcy : c = true → cy = true) (ht : mapT P t = some (k, e)) (hz : zeroV P e = some zv) (hm : ∀ w, C w → (mapS b m).holds w) :
  Pev P n l C ⟨d, .lookup t x y true, ty, pos, af, g⟩ c (.tuple #[(mget m s).getD zv, .bool (mget m s).isSome]) :=
 .of_run fun h a w hs hw => by
  obtain ⟨h1, h2⟩ := mapT_spec ht
  obtain ⟨es, clock, hb, hes⟩ := hm w hw
  have hr : (Instr.lookup t (.map (some b)) (.string s) true).run P w = .ok (.tuple #[(mget m s).getD zv, .bool (mget m s).isSome]) w := by
   simp only [Instr.lookup, Sem.run_bind, run_underlying h1, Result.andThen_ok, Go.MapKept.run_getObj_map (P := P) hb, Sem.run_pure, run_checkKey h2 (isKey_str s)]
   rcases now_str es.toList m 0 s hes with ⟨h3, h4⟩ | ⟨j, v, h3, h4, _⟩
   ·rw [run_findKey h2 h3]
    simp [run_zeroV hz, h4]
   ·rw [run_findKey h2 h3]
    simp [h4]
  simp only [execOp, hs.eval hx (hcx h), hs.eval hy (hcy h), Sem.run_bind, hr, Result.andThen_ok]
  rfl
end
end Go.Eng

/- The walks of patterns' small functions: free, anys, first, rest; slices.IndexFunc and ContainsFunc at []api.Pat. Conditions: none. -/
namespace Go.Pt
open Go.Eng Go.RowKit
def idxF (f : Ty → Bool) : List (Ty × PY) → Nat → Int
 | [], _ => -1
 | p :: r, i => if f p.1 then (i : Int) else idxF f r (i + 1)
theorem idxF_drop {f : Ty → Bool} {ps : List (Ty × PY)} {i : Nat} {p : Ty × PY} (h : ps[i]? = some p) : idxF f (ps.drop i) i = if f p.1 then (i : Int) else idxF f (ps.drop (i + 1)) (i + 1) := by
 obtain ⟨h1, rfl⟩ := List.getElem?_eq_some_iff.1 h
 rw [List.drop_eq_getElem_cons h1, idxF]
theorem idxF_any (f : Ty → Bool) : ∀ (ps : List (Ty × PY)) (i : Nat), decide (0 ≤ idxF f ps i) = (ps.map Prod.fst).any f
 | [], i => rfl
 | p :: r, i => by
  rw [idxF, List.map_cons, List.any_cons]
  split
  ·rename_i h
   rw [h, Bool.true_or]
   simp
  ·rename_i h
   rw [idxF_any f r (i + 1), Bool.not_eq_true] at *
   simp [h]
theorem idxF_P (f : Ty → Bool) : ∀ (ps : List (Ty × PY)) (k : Nat), idxF f ps k = idxP (fun x => f x.1) ps k
 | [], _ => rfl
 | p :: r, k => by rw [idxF, idxP, idxF_P f r]
theorem Arr.of_sl {α μ : Type} {R : Rel α μ} {w : World} {l : List (α × μ)} {q : Option Addr} (h : SlAt w w.heap.size q (cat R.c l)) (hel : ∀ p ∈ l, R.ok w (low w) p.1 p.2) : Arr R w (low w) l q :=
 ⟨fun hl => h (by rw [cat_length R.clen]; exact Nat.mul_pos hl R.pos), hel⟩
theorem Arr.drop {α μ : Type} {R : Rel α μ} {w : World} {l : List (α × μ)} {q : Option Addr} {cap : Nat} (h : Arr R w (low w) l q) (hcap : l.length ≤ cap) (k : Nat) : Arr R w (low w) (l.drop k) (cutq q cap k R.sz) :=
 Arr.of_sl ((h.slAt).dropC R.clen hcap k) (fun p hp => h.el p (List.mem_of_mem_drop hp))
theorem Arr.of_row {α μ : Type} {R : Rel α μ} {w w' : World} {B m cap : Nat} {O : Nat → Prop} {q : Option Addr} {e : TypeId} {l : List (α × μ)} (h : (row B O q m cap e R.sz (cat R.c l)).holds w') (hel : ∀ p ∈ l, R.ok w (low w) p.1 p.2) (hx : Ext w w') : Arr R w' (low w') l q :=
 Arr.of_sl (SlAt.of_row h) (fun p hp => Rel.ext (hel p hp) hx)
end Go.Pt
namespace Go.Proofs.Ytleggdmhihcafaa.pt
open Go.RowKit Go.Eng Go.Pt
set_option maxRecDepth 100000
theorem free_calls (p : Ty) (y : PY) (w : World) : Calls Try.prog 44 [.agg (tyc p y).toArray].toArray w fun e w' => e = .returned (.bool (free p)) ∧ Ext w w' := by
 refine enter Try.func44 rfl Try.ntmps44 rfl (Cls.start w) ?_
 (simp only [argEnv, Nat.zero_add, Nat.reduceAdd])
 simp only [tyc]
 apply W.sr
 apply OL.box; rfl; rfl; exact CellsL.agg; (intro bk hbk; simp only [AllLe, and_true] at hbk)
 apply oas; rfl; rfl
 apply OL.nsr
 apply ofa; rfl; rfl; rfl
 apply old; rfl; rfl; exact .head _; rfl; rfl
 apply obn; rfl; rfl; rfl; apply Bin.eql
 apply omv; rfl; rfl
 apply ono; rfl; rfl; rfl; apply Pev.fld; rfl; exact yes; rfl
 apply ono; rfl; rfl; rfl; apply Pev.load_blk; rfl; exact fun h => h; exact .head _; rfl; rfl
 apply ono; rfl; rfl; rfl; apply Pev.bin; rfl; exact fun h => h; rfl; exact yes; intro hcond; apply Bin.eql
 apply oop; rfl; apply Pev.pick_or; rfl; exact yes; rfl; exact fun h => h
 apply oas; rfl; rfl
 apply OL.nx
 apply W.ret
 ((with_reducible apply At.fin1); rfl; rfl; intro w' hw')
 refine ⟨congrArg (fun b => Ending.returned (Value.bool b)) ?_, by (exact hw'.fr)⟩
 unfold free
 cases h : decide (p.kind = 0) <;> simp
theorem IndexFunc_calls (q : Option Addr) (cap : Nat) (ps : List (Ty × PY)) (f : FuncId) (first caps : List Value) (p : Ty → Bool) (w : World) (hlen : ps.length ≤ 9223372036854775807) (h : SlAt w w.heap.size q (cat tyR.c ps))
  (hf : callable Try.prog f = true) (hp : ∀ s ∈ ps, ∀ w', Ext w w' → Calls Try.prog f (first ++ [Value.agg (tyc s.1 s.2).toArray] ++ caps).toArray w' fun e w'' => e = .returned (.bool (p s.1)) ∧ Ext w' w'') :
  Calls Try.prog 47 #[.slice q ps.length cap, .func (.func f) first.toArray caps.toArray] w fun e w' => e = .returned (.int .i64 (idxF p ps 0)) ∧ Ext w w' := by
 refine enter Try.func47 rfl Try.ntmps47 rfl (Cls.start w) ?_
 (simp only [argEnv, Nat.zero_add, Nat.reduceAdd])
 apply W.sr
 apply oas; rfl; rfl
 apply OL.nx
 apply W.seq
 apply W.sr
 apply omv; rfl; rfl
 apply oop; rfl; apply Pev.len_slice; rfl; exact yes; rfl
 apply omv; rfl; rfl
 apply OL.nx
 apply W.block
 refine W.loop (G := Nat) (fun i => i ≤ ps.length ∧ idxF p (ps.drop i) i = idxF p ps 0) (fun i => ps.length - i)
  (fun i => [(8, true, .int .i64 (i : Int)), (7, true, .int .i64 (ps.length : Int)), (0, true, .slice q ps.length cap), (1, true, .func (.func f) first.toArray caps.toArray)])
  (fun i => Cls [] [w]) 0 ⟨by omega, rfl⟩ (by exact Sub.au) (fun w' hw' => hw') ?_
 rintro i ⟨hi, hrest⟩
 apply W.sr
 apply obn; rfl; rfl; rfl; apply Bin.lss
 apply OL.nx
 apply W.seq
 (refine W.cnd (fun hlt => ?_) (fun hlt => ?_)) <;> (try (exfalso; first | omega | exact hlt trivial | contradiction))
 ·obtain ⟨a, u, rfl, hab, hu, hcell⟩ := h.elem tyR.clen (by decide) (show i < ps.length by omega)
  have hab : a.block < w.heap.size := hab
  have hcell : CellsAt w (a.add (i * 4)) [.int .i64 u.1.kind, .string u.1.name, .int .i64 u.1.var, .slice u.2.1 u.1.args.length u.2.2] := hcell
  have hpu := fun w3 => hp u (List.mem_of_getElem? hu) w3
  simp only [tyc] at hpu
  rw [idxF_drop hu] at hrest
  apply W.sk
  apply W.sb
  apply W.sr
  apply omv; rfl; rfl
  apply oas; rfl; rfl
  apply OL.nsr
  apply omv; rfl; rfl
  apply omv; rfl; rfl
  apply omv; rfl; rfl
  apply oop; rfl; apply Pev.idx; rfl; exact yes; rfl; exact yes; rfl; rfl; intro hcond; omega
  apply oop; rfl; apply Pev.load_keptA; rfl; exact yes; exact .head _; rfl; intro hcond; assumption; rfl; intro hcond; (rw [add_block]; assumption); intro hcond; exact NotOwned.au
  (((first | (with_reducible apply OL.op) | (with_reducible apply QL.op)); (exact Guard.au); rfl; rfl); (apply Pev.callv (first := first) (cap := caps)); rfl; ((first | exact fun _ => rfl | exact fun h => h | (intro h; simp_all; done))); (exact hf); (exact Args.au); (exact (fun _ w2 hw2 => (hpu w2 (hw2.toExt (by exact mau) (fun k hk => by exact NotOwned.au))).mono (fun e w3 h => ⟨h.1, hw2.ext h.2⟩))))
  apply OL.nx
  refine W.cond rfl (fun heq => ?_) (fun heq => ?_)
  ·rw [if_pos heq] at hrest
   apply W.sr
   apply omv; rfl; rfl
   apply oas; rfl; rfl
   apply OL.nx
   refine W.rt ?_
   ((with_reducible apply At.fin1); rfl; rfl; intro w' hw')
   exact ⟨by rw [hrest], by (exact hw'.fr)⟩
  ·rw [if_neg (by simpa using heq)] at hrest
   apply W.skip
   with_reducible apply At.in_normal
   with_reducible apply At.next
   apply W.reg
   apply obn; rfl; rfl; rfl; apply Bin.add_in; omega
   apply omv; rfl; rfl
   apply OL.nil
   exact At.again (i + 1) ⟨by omega, hrest⟩ (by omega) (by exact Sub.au) (fun w' hw' => hw'.thin (by exact Thin.au))
 ·rw [List.drop_eq_nil_of_le (by omega), idxF] at hrest
  refine W.xt ?_
  with_reducible apply At.next
  apply W.sr
  apply oas; rfl; rfl
  apply OL.nx
  apply W.ret
  ((with_reducible apply At.fin1); rfl; rfl; intro w' hw')
  exact ⟨by rw [← hrest], by (exact hw'.fr)⟩
theorem ContainsFunc_calls (q : Option Addr) (cap : Nat) (ps : List (Ty × PY)) (f : FuncId) (first caps : List Value) (p : Ty → Bool) (w : World) (hlen : ps.length ≤ 9223372036854775807) (h : Arr tyR w (low w) ps q)
  (hf : callable Try.prog f = true) (hp : ∀ s ∈ ps, ∀ w', Ext w w' → Calls Try.prog f (first ++ [Value.agg (tyc s.1 s.2).toArray] ++ caps).toArray w' fun e w'' => e = .returned (.bool (p s.1)) ∧ Ext w' w'') :
  Calls Try.prog 71 #[.slice q ps.length cap, .func (.func f) first.toArray caps.toArray] w fun e w' => e = .returned (.bool ((ps.map Prod.fst).any p)) ∧ Ext w w' := by
 refine enter Try.func71 rfl Try.ntmps71 rfl (Cls.start w) ?_
 (simp only [argEnv, Nat.zero_add, Nat.reduceAdd])
 apply W.sr
 apply oas; rfl; rfl
 apply OL.nsr
 apply omv; rfl; rfl
 apply omv; rfl; rfl
 (((first | (with_reducible apply OL.op) | (with_reducible apply QL.op)); (exact Guard.au); rfl; rfl); (exact Pev.call rfl (by exact Args.au) (fun _ w2 hw2 => (IndexFunc_calls q cap ps f first caps p w2 hlen (h.at hw2 (by exact mau) (fun k hk => by exact NotOwned.au)).slAt hf (fun s hs w3 h3 => hp s hs w3 ((hw2.toExt (s := w) (by exact mau) (fun k hk => by exact NotOwned.au)).trans h3))).mono (fun e w3 h => ⟨h.1, hw2.ext h.2⟩))))
 apply obn; rfl; rfl; rfl; apply Bin.geq
 apply oas; rfl; rfl
 apply OL.nx
 apply W.ret
 ((with_reducible apply At.fin1); rfl; rfl; intro w' hw')
 exact ⟨by rw [← idxF_any p ps 0], by (exact hw'.fr)⟩
theorem anys_calls (n : Nat) (w : World) (hn : n * 56 ≤ 140737488355328) : Calls Try.prog 45 [.int .i64 (n : Int)].toArray w fun e w' => ∃ q, e = .returned (.slice q n n) ∧ FrA w w' (List.replicate n (anyT, (none, 0))) q ∧ Ext w w' := by
 refine enter Try.func45 rfl Try.ntmps45 rfl (Cls.start w) ?_
 (simp only [argEnv, Nat.zero_add, Nat.reduceAdd])
 apply W.sr
 apply oas; rfl; rfl
 apply OL.nsr
 apply omv; rfl; rfl
 refine OL.makeSliceK (f := tyR.c) (x0 := (anyT, (none, 0))) (m := n) rfl rfl rfl rfl rfl rfl rfl rfl (by omega) (fun b hb => ?_)
 simp only [AllLe, and_true] at hb
 apply oas; rfl; rfl
 apply OL.nx
 apply W.ret
 ((with_reducible apply At.fin1); rfl; rfl; intro w' hw')
 refine ⟨some ⟨b, 0, none⟩, rfl, fun _ => ⟨⟨b, 0, none⟩, rfl, ⟨hb, hw'.lt _ (.head _) b rfl⟩, fun j v hj => ?_⟩, by (exact hw'.fr)⟩
 rw [add_mid, blk_cell (hw'.item (.head _)), Nat.zero_add]
 exact hj
theorem any_ok (w : World) (O : Nat → Prop) : TyO w O anyT (none, 0) := TyO.of_parts (nm := ⟨#[]⟩) (ps := []) (by simp [I64]) (by simp [I64]) (by simp) (Nat.le_refl _) Arr.nil
theorem anyl_ok (w : World) (O : Nat → Prop) (n : Nat) : ∀ p ∈ List.replicate n (anyT, ((none, 0) : PY)), TyO w O p.1 p.2 := fun p hp => by
 rw [List.eq_of_mem_replicate hp]
 exact any_ok w O
theorem anyl_map (n : Nat) : (List.replicate n (anyT, ((none, 0) : PY))).map Prod.fst = anys n := by rw [List.map_replicate]; rfl
theorem first_step {rs : List (List Ty × PY)} {i : Nat} {p : Ty} {t : List Ty} {y : PY} (h : rs[i]? = some (p :: t, y)) : first ((rs.take (i + 1)).map Prod.fst) = first ((rs.take i).map Prod.fst) ++ if free p then [] else [p] := by
 rw [List.take_add_one, h]
 unfold first
 simp only [Option.toList_some, List.map_append, List.filterMap_append, List.map_cons, List.map_nil]
 cases hf : free p <;> simp [hf]
theorem rest_step {rs : List (List Ty × PY)} {i : Nat} {p : Ty} {t : List Ty} {y : PY} (h : rs[i]? = some (p :: t, y)) : rest ((rs.take (i + 1)).map Prod.fst) = rest ((rs.take i).map Prod.fst) ++ if free p then [t] else [] := by
 rw [List.take_add_one, h]
 unfold rest
 simp only [Option.toList_some, List.map_append, List.filterMap_append, List.map_cons, List.map_nil]
 cases hf : free p <;> simp [hf]
structure GT where
 O : Nat → Prop
 q : Option Addr
 c : Nat
 ps : List (Ty × PY)
structure GL where
 O : Nat → Prop
 q : Option Addr
 c : Nat
 ps : List (List Ty × PY)
theorem row_head {w : World} {rs : List (List Ty × PY)} {q : Option Addr} (h : Arr patsR w (low w) rs q) {i : Nat} (hi : i < rs.length) (hne : ∀ r ∈ rs, r.1 ≠ []) : ∃ a a2 z pt y, q = some a ∧ a.block < w.heap.size ∧ rs[i]? = some (z.1 :: pt.map Prod.fst, y) ∧ w.cell? (a.add (i * 1)) = some (.slice (some a2) (pt.length + 1) y.2) ∧ a2.block < w.heap.size ∧ CellsAt w (a2.add (0 * 4)) [.int .i64 z.1.kind, .string z.1.name, .int .i64 z.1.var, .slice z.2.1 z.1.args.length z.2.2] ∧ Arr tyR w (low w) (z :: pt) (some a2) ∧ pt.length + 1 ≤ y.2 ∧ pt.length + 1 ≤ 9223372036854775807 := by
 obtain ⟨a, u, rfl, hab, hu, hcell, hrok⟩ := h.get hi
 obtain ⟨l, y⟩ := u
 cases l with
 | nil => exact absurd rfl (hne _ (List.mem_of_getElem? hu))
 | cons p t =>
  obtain ⟨⟨pt, hpt, harr⟩, hyc, hyl⟩ := hrok
  cases pt with
  | nil => cases hpt
  | cons z pt =>
   simp only [List.map_cons, List.cons.injEq] at hpt
   obtain ⟨rfl, rfl⟩ := hpt
   obtain ⟨a2, z2, hy1, hab2, hz2, hcell2, hok2⟩ := harr.get (i := 0) (Nat.succ_pos _)
   simp only [List.getElem?_cons_zero, Option.some.injEq] at hz2
   subst hz2
   have hc : w.cell? (a.add (i * 1)) = some (.slice y.1 (z.1 :: List.map Prod.fst pt).length y.2) := hcell 0 _ rfl
   have hl : (z.1 :: List.map Prod.fst pt).length = pt.length + 1 := by simp
   have hy1 : y.1 = some a2 := hy1
   rw [hl] at hyc hyl hc
   rw [hy1] at hc harr
   exact ⟨a, a2, z, pt, y, rfl, hab, hu, hc, hab2, hcell2, harr, hyc, hyl⟩
theorem first_calls (q : Option Addr) (cap : Nat) (rs : List (List Ty × PY)) (w0 w : World) (hx : Ext w0 w) (hlen : rs.length ≤ 1000000) (h : Arr patsR w0 (low w0) rs q) (hne : ∀ r ∈ rs, r.1 ≠ []) :
  Calls Try.prog 37 [.slice q rs.length cap].toArray w fun e w' => ∃ q' c' ps, e = .returned (.slice q' ps.length c') ∧ ps.map Prod.fst = first (rs.map Prod.fst) ∧ ps.length ≤ rs.length ∧ FrA w w' ps q' ∧ (∀ p ∈ ps, TyO w0 (low w0) p.1 p.2) ∧ Ext w w' := by
 refine enter Try.func37 rfl Try.ntmps37 rfl (Cls.start2 hx) ?_
 have hxs := hx.size
 (simp only [argEnv, Nat.zero_add, Nat.reduceAdd])
 apply W.sr
 apply oas; rfl; rfl
 apply OL.nsr
 apply oas; rfl; rfl
 apply OL.nx
 apply W.seq
 apply W.sr
 apply omv; rfl; rfl
 apply oop; rfl; apply Pev.len_slice; rfl; exact yes; rfl
 apply omv; rfl; rfl
 apply OL.nx
 apply W.block
 refine W.loop (G := Nat × GT) (fun g => g.1 ≤ rs.length ∧ g.2.ps.map Prod.fst = first ((rs.take g.1).map Prod.fst) ∧ g.2.ps.length ≤ g.1 ∧ ∀ p ∈ g.2.ps, TyO w0 (low w0) p.1 p.2) (fun g => rs.length - g.1)
  (fun g => [(3, true, .slice g.2.q g.2.ps.length g.2.c), (6, true, .slice q rs.length cap), (7, true, .int .i64 (rs.length : Int)), (8, true, .int .i64 (g.1 : Int))])
  (fun g => Cls [row w.heap.size g.2.O g.2.q g.2.ps.length g.2.c 50 4 (cat tyR.c g.2.ps)] [w, w0]) (0, ⟨fun _ => False, none, 0, []⟩) ⟨Nat.zero_le _, rfl, Nat.le_refl _, fun p hp => by cases hp⟩ (by exact Sub.au) (fun w' hw' => hw'.row_nil w.heap.size 50 4) ?_
 rintro ⟨i, O, q1, c1, ps⟩ ⟨hi, hps, hpl, hok⟩
 simp only at hi hps hpl hok ⊢
 apply W.sr
 apply obn; rfl; rfl; rfl; apply Bin.lss
 apply OL.nx
 apply W.seq
 (refine W.cnd (fun hlt => ?_) (fun hlt => ?_)) <;> (try (exfalso; first | omega | exact hlt trivial | contradiction))
 ·obtain ⟨a, a2, z, pt, y, rfl, hab, hu, hcell, hab2, hcell2, harr, hyc, hyl⟩ := row_head h (show i < rs.length by omega) hne
  have hstep := first_step hu
  rw [← hps] at hstep
  apply W.sk
  apply W.sb
  apply W.sr
  apply oop; rfl; apply Pev.idx; rfl; exact yes; rfl; exact yes; rfl; rfl; intro hcond; omega
  apply oop; rfl; apply Pev.load_kept; rfl; exact yes; exact .tail _ (.head _); rfl; intro hcond; assumption; intro hcond; (rw [add_block]; assumption); intro hcond; exact NotOwned.au
  apply oas; rfl; rfl
  apply OL.nsr
  apply omv; rfl; rfl
  apply oop; rfl; apply Pev.idx; rfl; exact yes; rfl; exact yes; rfl; rfl; intro hcond; (simp only [Bool.and_eq_true, Bool.or_eq_true, Bool.not_eq_true', decide_eq_true_eq, decide_eq_false_iff_not] at *; omega)
  apply oop; rfl; apply Pev.load_keptA; rfl; exact yes; exact .tail _ (.head _); rfl; intro hcond; assumption; rfl; intro hcond; assumption; intro hcond; exact NotOwned.au
  (((first | (with_reducible apply OL.op) | (with_reducible apply QL.op)); (exact Guard.au); rfl; rfl); (exact Pev.call (v := .bool (free z.1)) rfl (by exact Args.au) (fun _ w2 hw2 => (free_calls z.1 z.2 w2).mono (fun e w3 h => ⟨h.1, hw2.ext h.2⟩))))
  apply oop; rfl; apply Pev.not; rfl; exact yes
  apply OL.nx
  refine W.cond rfl (fun hf => ?_) (fun hf => ?_)
  ·have hf : free z.1 = false := by simpa using hf
   have e1 : ps.length + 1 = (ps ++ [z]).length := by simp
   have e2 : cat tyR.c ps ++ [Value.int .i64 z.1.kind, .string z.1.name, .int .i64 z.1.var, .slice z.2.1 z.1.args.length z.2.2] = cat tyR.c (ps ++ [z]) := by rw [cat_append]; rfl
   apply W.reg
   apply omv; rfl; rfl
   apply omv; rfl; rfl
   apply oop; rfl; apply Pev.idx; rfl; exact yes; rfl; exact yes; rfl; rfl; intro hcond; (simp only [Bool.and_eq_true, Bool.or_eq_true, Bool.not_eq_true', decide_eq_true_eq, decide_eq_false_iff_not] at *; omega)
   apply oop; rfl; apply Pev.load_keptA; rfl; exact yes; exact .tail _ (.head _); rfl; intro hcond; assumption; rfl; intro hcond; assumption; intro hcond; exact NotOwned.au
   apply OL.buildSlice; rfl; rfl; rfl; exact Elems.au; rfl; rfl; (intro bk hbk; simp only [AllLe, and_true] at hbk)
   apply OL.append; rfl; rfl; rfl; rfl; exact Hole.au; exact .head _; exact Take.au; rfl; rfl; exact ⟨_, .head _, Nat.le_refl _⟩; omega; intro O1 g1 cap1
   apply oas; rfl; rfl
   apply OL.nil
   with_reducible apply At.in_normal
   with_reducible apply At.next
   apply W.reg
   apply obn; rfl; rfl; rfl; apply Bin.add_in; omega
   apply omv; rfl; rfl
   apply OL.nil
   rw [e1, e2]
   exact At.again (i + 1, ⟨O1, some ⟨g1, 0, none⟩, cap1, ps ++ [z]⟩) ⟨by simp only; omega, by simp only [hstep, hf]; simp, by simp only [← e1]; omega, fun p hp => (List.mem_append.1 hp).elim (hok p) (fun hp => by rw [List.mem_singleton] at hp; rw [hp]; exact harr.el z (.head _))⟩ (by simp only; omega) (by exact Sub.au) (fun w' hw' => hw'.thin (by exact Thin.au))
  ·have hf : free z.1 = true := by simpa using hf
   apply W.skip
   with_reducible apply At.in_normal
   with_reducible apply At.next
   apply W.reg
   apply obn; rfl; rfl; rfl; apply Bin.add_in; omega
   apply omv; rfl; rfl
   apply OL.nil
   exact At.again (i + 1, ⟨O, q1, c1, ps⟩) ⟨by simp only; omega, by simp only [hstep, hf]; simp, by simp only; omega, hok⟩ (by simp only; omega) (by exact Sub.au) (fun w' hw' => hw'.thin (by exact Thin.au))
 ·obtain rfl : i = rs.length := by omega
  rw [List.take_length] at hps
  refine W.xt ?_
  with_reducible apply At.next
  apply W.sr
  apply omv; rfl; rfl
  apply oas; rfl; rfl
  apply OL.nx
  apply W.ret
  ((with_reducible apply At.fin1); rfl; rfl; intro w' hw')
  exact ⟨q1, c1, ps, rfl, hps, hpl, FrA.of_row hw' (.head _), hok, by (exact hw'.fr)⟩
theorem rest_calls (q : Option Addr) (cap : Nat) (rs : List (List Ty × PY)) (w0 w : World) (hx : Ext w0 w) (hlen : rs.length ≤ 1000000) (h : Arr patsR w0 (low w0) rs q) (hne : ∀ r ∈ rs, r.1 ≠ []) :
  Calls Try.prog 39 [.slice q rs.length cap].toArray w fun e w' => ∃ q' c' ls, e = .returned (.slice q' ls.length c') ∧ ls.map Prod.fst = rest (rs.map Prod.fst) ∧ ls.length ≤ rs.length ∧ ls.length ≤ c' ∧ FrS w w' (cat patsR.c ls) q' ∧ (∀ r ∈ ls, patsR.ok w0 (low w0) r.1 r.2) ∧ Ext w w' := by
 refine enter Try.func39 rfl Try.ntmps39 rfl (Cls.start2 hx) ?_
 have hxs := hx.size
 (simp only [argEnv, Nat.zero_add, Nat.reduceAdd])
 apply W.sr
 apply oas; rfl; rfl
 apply OL.nsr
 apply oas; rfl; rfl
 apply OL.nx
 apply W.seq
 apply W.sr
 apply omv; rfl; rfl
 apply oop; rfl; apply Pev.len_slice; rfl; exact yes; rfl
 apply omv; rfl; rfl
 apply OL.nx
 apply W.block
 refine W.loop (G := Nat × GL) (fun g => g.1 ≤ rs.length ∧ g.2.ps.map Prod.fst = rest ((rs.take g.1).map Prod.fst) ∧ g.2.ps.length ≤ g.1 ∧ ∀ p ∈ g.2.ps, patsR.ok w0 (low w0) p.1 p.2) (fun g => rs.length - g.1)
  (fun g => [(3, true, .slice g.2.q g.2.ps.length g.2.c), (6, true, .slice q rs.length cap), (7, true, .int .i64 (rs.length : Int)), (8, true, .int .i64 (g.1 : Int))])
  (fun g => Cls [row w.heap.size g.2.O g.2.q g.2.ps.length g.2.c 25 1 (cat patsR.c g.2.ps)] [w, w0]) (0, ⟨fun _ => False, none, 0, []⟩) ⟨Nat.zero_le _, rfl, Nat.le_refl _, fun p hp => by cases hp⟩ (by exact Sub.au) (fun w' hw' => hw'.row_nil w.heap.size 25 1) ?_
 rintro ⟨i, O, q1, c1, ps⟩ ⟨hi, hps, hpl, hok⟩
 simp only at hi hps hpl hok ⊢
 apply W.sr
 apply obn; rfl; rfl; rfl; apply Bin.lss
 apply OL.nx
 apply W.seq
 (refine W.cnd (fun hlt => ?_) (fun hlt => ?_)) <;> (try (exfalso; first | omega | exact hlt trivial | contradiction))
 ·obtain ⟨a, a2, z, pt, y, rfl, hab, hu, hcell, hab2, hcell2, harr, hyc, hyl⟩ := row_head h (show i < rs.length by omega) hne
  have hstep := rest_step hu
  rw [← hps] at hstep
  apply W.sk
  apply W.sb
  apply W.sr
  apply oop; rfl; apply Pev.idx; rfl; exact yes; rfl; exact yes; rfl; rfl; intro hcond; omega
  apply oop; rfl; apply Pev.load_kept; rfl; exact yes; exact .tail _ (.head _); rfl; intro hcond; assumption; intro hcond; (rw [add_block]; assumption); intro hcond; exact NotOwned.au
  apply oas; rfl; rfl
  apply OL.nsr
  apply omv; rfl; rfl
  apply oop; rfl; apply Pev.idx; rfl; exact yes; rfl; exact yes; rfl; rfl; intro hcond; (simp only [Bool.and_eq_true, Bool.or_eq_true, Bool.not_eq_true', decide_eq_true_eq, decide_eq_false_iff_not] at *; omega)
  apply oop; rfl; apply Pev.load_keptA; rfl; exact yes; exact .tail _ (.head _); rfl; intro hcond; assumption; rfl; intro hcond; assumption; intro hcond; exact NotOwned.au
  (((first | (with_reducible apply OL.op) | (with_reducible apply QL.op)); (exact Guard.au); rfl; rfl); (exact Pev.call (v := .bool (free z.1)) rfl (by exact Args.au) (fun _ w2 hw2 => (free_calls z.1 z.2 w2).mono (fun e w3 h => ⟨h.1, hw2.ext h.2⟩))))
  apply OL.nx
  refine W.cond rfl (fun hf => ?_) (fun hf => ?_)
  ·have hf : free z.1 = true := by simpa using hf
   obtain ⟨u, hu2⟩ : ∃ u : List Ty × PY, u = (pt.map Prod.fst, (cutq (some a2) y.2 1 4, y.2 - 1)) := ⟨_, rfl⟩
   have huok : patsR.ok w0 (low w0) u.1 u.2 := by
    rw [hu2]
    refine ⟨⟨pt, rfl, ?_⟩, by rw [List.length_map]; show pt.length ≤ y.2 - 1; omega, by rw [List.length_map]; omega⟩
    have := Arr.drop harr (cap := y.2) (by simpa using hyc) 1
    exact this
   have e1 : ps.length + 1 = (ps ++ [u]).length := by simp
   have e2 : cat patsR.c ps ++ [Value.slice (cutq (some a2) y.2 1 4) (pt.length + 1 - 1) (y.2 - 1)] = cat patsR.c (ps ++ [u]) := by
    rw [cat_append, hu2]
    simp only [cat, List.append_nil]
    show _ = _ ++ [Value.slice (cutq (some a2) y.2 1 4) (List.map Prod.fst pt).length (y.2 - 1)]
    rw [List.length_map, Nat.add_sub_cancel]
   apply W.reg
   apply omv; rfl; rfl
   apply omv; rfl; rfl
   apply oop; rfl; apply Pev.slice_lo; rfl; exact yes; rfl; exact yes; rfl; rfl; intro hcond; (simp only [Bool.and_eq_true, Bool.or_eq_true, Bool.not_eq_true', decide_eq_true_eq, decide_eq_false_iff_not] at *; omega)
   apply OL.buildSlice; rfl; rfl; rfl; exact Elems.au; rfl; rfl; (intro bk hbk; simp only [AllLe, and_true] at hbk)
   apply OL.append; rfl; rfl; rfl; rfl; exact Hole.au; exact .head _; exact Take.au; rfl; rfl; exact ⟨_, .head _, Nat.le_refl _⟩; omega; intro O1 g1 cap1
   apply oas; rfl; rfl
   apply OL.nil
   with_reducible apply At.in_normal
   with_reducible apply At.next
   apply W.reg
   apply obn; rfl; rfl; rfl; apply Bin.add_in; omega
   apply omv; rfl; rfl
   apply OL.nil
   rw [e1, e2]
   exact At.again (i + 1, ⟨O1, some ⟨g1, 0, none⟩, cap1, ps ++ [u]⟩) ⟨by simp only; omega, by simp only [hstep, hf, hu2]; simp, by simp only [← e1]; omega, fun p hp => (List.mem_append.1 hp).elim (hok p) (fun hp => by rw [List.mem_singleton] at hp; rw [hp]; exact huok)⟩ (by simp only; omega) (by exact Sub.au) (fun w' hw' => hw'.thin (by exact Thin.au))
  ·have hf : free z.1 = false := by simpa using hf
   apply W.skip
   with_reducible apply At.in_normal
   with_reducible apply At.next
   apply W.reg
   apply obn; rfl; rfl; rfl; apply Bin.add_in; omega
   apply omv; rfl; rfl
   apply OL.nil
   exact At.again (i + 1, ⟨O, q1, c1, ps⟩) ⟨by simp only; omega, by simp only [hstep, hf]; simp, by simp only; omega, hok⟩ (by simp only; omega) (by exact Sub.au) (fun w' hw' => hw'.thin (by exact Thin.au))
 ·obtain rfl : i = rs.length := by omega
  rw [List.take_length] at hps
  refine W.xt ?_
  with_reducible apply At.next
  apply W.sr
  apply omv; rfl; rfl
  apply oas; rfl; rfl
  apply OL.nx
  apply W.ret
  ((with_reducible apply At.fin1); rfl; rfl; intro w' hw')
  exact ⟨q1, c1, ps, rfl, hps, hpl, row_cap (hw'.item (.head _)), FrS.of_row hw' (.head _), hok, by (exact hw'.fr)⟩
end Go.Proofs.Ytleggdmhihcafaa.pt

/- Slices of ints; the walks of the reference's SameInts and HasInt. Conditions: none. -/
namespace Go.Pt
open Go.Eng Go.RowKit
def intV (l : List Int) : List Value := l.map fun x => .int .i64 x
theorem intV_length (l : List Int) : (intV l).length = l.length := by simp [intV]
theorem intV_get {l : List Int} {i : Nat} {x : Int} (h : l[i]? = some x) : (intV l)[i]? = some (.int .i64 x) := by simp [intV, h]
theorem intV_append (l m : List Int) : intV (l ++ m) = intV l ++ intV m := by simp [intV]
def IntsO (w : World) (O : Nat → Prop) (l : List Int) (q : Option Addr) : Prop := 0 < l.length → ∃ a, q = some a ∧ O a.block ∧ CellsAt w a (intV l)
theorem IntsO.stab {w w' : World} {O : Nat → Prop} {l : List Int} {q : Option Addr} (hk : ∀ k, O k → w'.heap[k]? = w.heap[k]?) (h : IntsO w O l q) : IntsO w' O l q := fun hl => by
 obtain ⟨a, h1, h2, h3⟩ := h hl
 exact ⟨a, h1, h2, cells_stab (hk _ h2) h3⟩
theorem IntsO.mono {w : World} {O O' : Nat → Prop} {l : List Int} {q : Option Addr} (hk : ∀ k, O k → O' k) (h : IntsO w O l q) : IntsO w O' l q := fun hl => by
 obtain ⟨a, h1, h2, h3⟩ := h hl
 exact ⟨a, h1, hk _ h2, h3⟩
theorem IntsO.nil {w : World} {O : Nat → Prop} {q : Option Addr} : IntsO w O [] q := fun h => by simp at h
theorem IntsO.get {w : World} {O : Nat → Prop} {l : List Int} {q : Option Addr} (h : IntsO w O l q) {i : Nat} (hi : i < l.length) : ∃ a u, q = some a ∧ O a.block ∧ l[i]? = some u ∧ w.cell? (a.add (i * 1)) = some (.int .i64 u) := by
 obtain ⟨a, h1, h2, h3⟩ := h (by omega)
 have hu : l[i]? = some l[i] := List.getElem?_eq_getElem hi
 exact ⟨a, l[i], h1, h2, hu, by rw [Nat.mul_one]; exact h3 i _ (intV_get hu)⟩
theorem IntsO.slAt {w : World} {l : List Int} {q : Option Addr} (h : IntsO w (low w) l q) : SlAt w w.heap.size q (intV l) := fun hv => by
 rw [intV_length] at hv
 exact h hv
theorem IntsO.at {w w' : World} {l : List Int} {q : Option Addr} {H : List Eng.Item} {S : List World} (h : IntsO w (low w) l q) (hw : Cls H S w') (hs : w ∈ S) (hno : ∀ k, k < w.heap.size → NotOwned H k) : IntsO w' (low w') l q :=
 IntsO.mono (hw.up hs) (IntsO.stab (hw.same hs hno) h)
theorem IntsO.ext {w w' : World} {l : List Int} {q : Option Addr} (h : IntsO w (low w) l q) (hx : Ext w w') : IntsO w' (low w') l q :=
 IntsO.mono (fun k hk => Nat.lt_of_lt_of_le hk hx.size) (IntsO.stab (fun k hk => hx.block k hk id) h)
end Go.Pt
namespace Go.Proofs.Ytleggdmhihcafaa.pt
open Go.RowKit Go.Eng Go.Pt
set_option maxRecDepth 100000
theorem SameInts_calls (q q2 : Option Addr) (cap cap2 : Nat) (l m : List Int) (w : World) (hl : l.length ≤ 9223372036854775807) (hm : m.length ≤ 9223372036854775807) (h : IntsO w (low w) l q) (h2 : IntsO w (low w) m q2) :
  Calls Try.prog 12 #[.slice q l.length cap, .slice q2 m.length cap2] w fun e w' => e = .returned (.bool (decide (l = m))) ∧ Ext w w' := by
 refine enter Try.func12 rfl Try.ntmps12 rfl (Cls.start w) ?_
 (simp only [argEnv, Nat.zero_add, Nat.reduceAdd])
 apply W.sr
 apply oas; rfl; rfl
 apply OL.nx
 apply W.seq
 apply W.sr
 apply omv; rfl; rfl
 apply oop; rfl; apply Pev.len_slice; rfl; exact yes; rfl
 apply omv; rfl; rfl
 apply oop; rfl; apply Pev.len_slice; rfl; exact yes; rfl
 apply obn; rfl; rfl; rfl; apply Bin.neq
 apply OL.nx
 (refine W.cnd (fun hne => ?_) (fun hne => ?_)) <;> (try (exfalso; first | omega | exact hne trivial | contradiction))
 ·have hd : decide (l = m) = false := decide_eq_false (fun e => by subst e; omega)
  rw [hd]
  apply W.sr
  apply oas; rfl; rfl
  apply OL.nx
  refine W.rt ?_
  ((with_reducible apply At.fin1); rfl; rfl; intro w' hw')
  exact ⟨rfl, by (exact hw'.fr)⟩
 have hlm : l.length = m.length := by omega
 apply W.sk
 apply W.seq
 apply W.sr
 apply omv; rfl; rfl
 apply oop; rfl; apply Pev.len_slice; rfl; exact yes; rfl
 apply omv; rfl; rfl
 apply OL.nx
 apply W.block
 refine W.loop (G := Nat) (fun i => i ≤ l.length ∧ l.take i = m.take i) (fun i => l.length - i)
  (fun i => [(1, true, .slice q2 m.length cap2), (12, true, .slice q l.length cap), (13, true, .int .i64 (l.length : Int)), (14, true, .int .i64 (i : Int))])
  (fun i => Cls [] [w]) 0 ⟨by omega, rfl⟩ (by exact Sub.au) (fun w' hw' => hw') ?_
 rintro i ⟨hi, hi0⟩
 apply W.sr
 apply obn; rfl; rfl; rfl; apply Bin.lss
 apply OL.nx
 apply W.seq
 (refine W.cnd (fun hlt => ?_) (fun hlt => ?_)) <;> (try (exfalso; first | omega | exact hlt trivial | contradiction))
 ·have hil : i < l.length := by omega
  obtain ⟨a, x, hqa, hab, hx, hcx⟩ := h.get hil
  have hab : a.block < w.heap.size := hab
  obtain ⟨a2, x2, hqa2, hab2, hx2, hcx2⟩ := h2.get (show i < m.length by omega)
  have hab2 : a2.block < w.heap.size := hab2
  rw [hqa, hqa2]
  apply W.sk
  apply W.sb
  apply W.sr
  apply omv; rfl; rfl
  apply oop; rfl; apply Pev.idx; rfl; exact yes; rfl; exact yes; rfl; rfl; intro hcond; omega
  apply oop; rfl; apply Pev.load_kept; rfl; exact yes; exact .head _; rfl; intro hcond; assumption; intro hcond; (rw [add_block]; assumption); intro hcond; exact NotOwned.au
  apply oas; rfl; rfl
  apply oas; rfl; rfl
  apply OL.nsr
  apply omv; rfl; rfl
  apply omv; rfl; rfl
  apply oop; rfl; apply Pev.idx; rfl; exact yes; rfl; exact yes; rfl; rfl; intro hcond; omega
  apply oop; rfl; apply Pev.load_kept; rfl; exact yes; exact .head _; rfl; intro hcond; assumption; intro hcond; (rw [add_block]; assumption); intro hcond; exact NotOwned.au
  apply omv; rfl; rfl
  apply obn; rfl; rfl; rfl; apply Bin.neq
  apply OL.nx
  (refine W.cnd (fun hxx => ?_) (fun hxx => ?_)) <;> (try (exfalso; first | omega | exact hxx trivial | contradiction))
  ·have hd : decide (l = m) = false := decide_eq_false (fun e => by subst e; rw [hx] at hx2; exact hxx (Option.some.inj hx2).symm)
   rw [hd]
   apply W.sr
   apply oas; rfl; rfl
   apply OL.nx
   refine W.rt ?_
   ((with_reducible apply At.fin1); rfl; rfl; intro w' hw')
   exact ⟨rfl, by (exact hw'.fr)⟩
  ·have hxx' : x2 = x := by simpa using hxx
   apply W.skip
   with_reducible apply At.in_normal
   with_reducible apply At.next
   apply W.reg
   apply obn; rfl; rfl; rfl; apply Bin.add_in; omega
   apply omv; rfl; rfl
   apply OL.nil
   exact At.again (i + 1) ⟨by omega, by rw [List.take_add_one, List.take_add_one, hx, hx2, hi0, hxx']⟩ (by omega) (by exact Sub.au) (fun w' hw' => hw')
 ·obtain rfl : i = l.length := by omega
  have hd : decide (l = m) = true := decide_eq_true (by rw [List.take_length, hlm, List.take_length] at hi0; exact hi0)
  rw [hd]
  refine W.xt ?_
  with_reducible apply At.next
  apply W.sr
  apply oas; rfl; rfl
  apply OL.nx
  apply W.ret
  ((with_reducible apply At.fin1); rfl; rfl; intro w' hw')
  exact ⟨rfl, by (exact hw'.fr)⟩
end Go.Proofs.Ytleggdmhihcafaa.pt

/- The walks of slices.Equal, of match.same and of the builder's add. Conditions: none. -/
namespace Go.Pt
open Go.Eng Go.RowKit
structure NdY where
 p : PY
 n : PY
 w : PY
 k : PY
abbrev NdE := Nd × NdY
def ndC (x : NdE) : List Value := [.int .i64 x.1.kind, .int .i64 x.1.row, .slice x.2.p.1 x.1.path.length x.2.p.2, .slice x.2.n.1 x.1.names.length x.2.n.2, .slice x.2.w.1 x.1.words.length x.2.w.2, .slice x.2.k.1 x.1.kids.length x.2.k.2]
theorem ndC_len (x : NdE) : (ndC x).length = 6 := rfl
structure NdLen (x : Nd) : Prop where
 p : x.path.length ≤ 100000
 n : x.names.length ≤ 1000000
 d : x.words.length ≤ 1000000
 k : x.kids.length ≤ 1000000
structure NdAt (w : World) (x : NdE) : Prop where
 p : SlAt w w.heap.size x.2.p.1 (intV x.1.path)
 n : SlAt w w.heap.size x.2.n.1 (strs x.1.names)
 d : SlAt w w.heap.size x.2.w.1 (intV x.1.words)
 k : SlAt w w.heap.size x.2.k.1 (intV x.1.kids)
 l : NdLen x.1
 cn : x.1.names.length ≤ x.2.n.2
 cw : x.1.words.length ≤ x.2.w.2
structure NdSeen (s : World) (L : List (Addr × List Value)) (x : NdE) : Prop where
 p : Seen s L x.2.p.1 (intV x.1.path)
 n : Seen s L x.2.n.1 (strs x.1.names)
 d : Seen s L x.2.w.1 (intV x.1.words)
 k : Seen s L x.2.k.1 (intV x.1.kids)
 l : NdLen x.1
 z : x.1.path.length = 0 → x.2.p.1 = none
 cn : x.1.names.length ≤ x.2.n.2
 cw : x.1.words.length ≤ x.2.w.2
theorem NdSeen.mono {s : World} {L L' : List (Addr × List Value)} {x : NdE} (h : NdSeen s L x) (hL : ∀ x ∈ L, x ∈ L') : NdSeen s L' x := ⟨h.p.mono hL, h.n.mono hL, h.d.mono hL, h.k.mono hL, h.l, h.z, h.cn, h.cw⟩
theorem NdSeen.at {H : List Eng.Item} {S : List World} {w s : World} {B : Nat} {O : Nat → Prop} {L : List (Addr × List Value)} {x : NdE} (h : NdSeen s L x) (hw : Cls H S w) (hs : s ∈ S) (ha : arena B O L ∈ H) (hno : ∀ k, k < s.heap.size → NotOwned H k) : NdAt w x :=
 ⟨h.p.slAt hw hs ha hno, h.n.slAt hw hs ha hno, h.d.slAt hw hs ha hno, h.k.slAt hw hs ha hno, h.l, h.cn, h.cw⟩
theorem SlAt.extS {w w' : World} {q : Option Addr} {vs : List Value} (h : SlAt w w.heap.size q vs) (hx : Ext w w') : SlAt w' w'.heap.size q vs := SlAt.ext h hx (Nat.le_refl _)
theorem NdAt.ext {w w' : World} {x : NdE} (h : NdAt w x) (hx : Ext w w') : NdAt w' x := ⟨SlAt.extS h.p hx, SlAt.extS h.n hx, SlAt.extS h.d hx, SlAt.extS h.k hx, h.l, h.cn, h.cw⟩
theorem IntsO.of_sl {w : World} {l : List Int} {q : Option Addr} (h : SlAt w w.heap.size q (intV l)) : IntsO w (low w) l q := fun hl => h (by rw [intV_length]; exact hl)
end Go.Pt
namespace Go.Proofs.Ytleggdmhihcafaa.pt
open Go.RowKit Go.Eng Go.Pt
set_option maxRecDepth 100000
theorem EqI_calls (q1 q2 : Option Addr) (cap1 cap2 : Nat) (l1 l2 : List Int) (w : World) (hl1 : l1.length ≤ 9223372036854775807) (hl2 : l2.length ≤ 9223372036854775807) (h1 : IntsO w (low w) l1 q1) (h2 : IntsO w (low w) l2 q2) :
  Calls Try.prog 90 #[.slice q1 l1.length cap1, .slice q2 l2.length cap2] w fun e w' => e = .returned (.bool (decide (l1 = l2))) ∧ Ext w w' := by
 refine enter Try.func90 rfl Try.ntmps90 rfl (Cls.start w) ?_
 (simp only [argEnv, Nat.zero_add, Nat.reduceAdd])
 apply W.sr
 apply oas; rfl; rfl
 apply OL.nx
 apply W.seq
 apply W.sr
 apply omv; rfl; rfl
 apply oop; rfl; apply Pev.len_slice; rfl; exact yes; rfl
 apply omv; rfl; rfl
 apply oop; rfl; apply Pev.len_slice; rfl; exact yes; rfl
 apply obn; rfl; rfl; rfl; apply Bin.neq
 apply OL.nx
 (refine W.cnd (fun hne => ?_) (fun hne => ?_)) <;> (try (exfalso; first | omega | exact hne trivial | contradiction))
 ·apply W.sr
  apply oas; rfl; rfl
  apply OL.nx
  refine W.rt ?_
  ((with_reducible apply At.fin1); rfl; rfl; intro w' hw')
  have : ¬ l1 = l2 := fun e => by subst e; exact hne rfl
  exact ⟨by simp [this], by (exact hw'.fr)⟩
 apply W.sk
 apply W.seq
 apply W.sr
 apply omv; rfl; rfl
 apply oop; rfl; apply Pev.len_slice; rfl; exact yes; rfl
 apply omv; rfl; rfl
 apply OL.nx
 apply W.block
 refine W.loop (G := Nat) (fun i => i ≤ l1.length ∧ ∀ j, j < i → l1[j]? = l2[j]?) (fun i => l1.length - i)
  (fun i => [(13, true, .int .i64 (i : Int)), (12, true, .int .i64 (l1.length : Int)), (0, true, .slice q1 l1.length cap1), (1, true, .slice q2 l2.length cap2)])
  (fun i => Cls [] [w]) 0 ⟨by omega, fun j hj => by omega⟩ (by exact Sub.au) (fun w' hw' => hw') ?_
 rintro i ⟨hi, hsame⟩
 apply W.sr
 apply obn; rfl; rfl; rfl; apply Bin.lss
 apply OL.nx
 apply W.seq
 (refine W.cnd (fun hlt => ?_) (fun hlt => ?_)) <;> (try (exfalso; first | omega | exact hlt trivial | contradiction))
 ·obtain ⟨a, u, rfl, hab, hu, hcell⟩ := h1.get (show i < l1.length by omega)
  obtain ⟨a2, u2, rfl, hab2, hu2, hcell2⟩ := h2.get (show i < l2.length by omega)
  have hab : a.block < w.heap.size := hab
  have hab2 : a2.block < w.heap.size := hab2
  apply W.sk
  apply W.sb
  apply W.sr
  apply omv; rfl; rfl
  apply oas; rfl; rfl
  apply OL.nx
  apply W.seq
  apply W.regd0; decide +kernel; kernel_rfl; decide +kernel; exact fun w hw => hw.drew
  apply qmv; rfl; rfl
  apply qmv; rfl; rfl
  apply qop; rfl; apply Pev.idx; rfl; exact yes; rfl; exact yes; rfl; rfl; intro hcond; omega
  apply qop; rfl; apply Pev.load_kept; rfl; exact yes; exact .head _; rfl; intro hcond; assumption; intro hcond; (rw [add_block]; assumption); intro hcond; exact NotOwned.au
  apply qmv; rfl; rfl
  apply qmv; rfl; rfl
  apply qop; rfl; apply Pev.idx; rfl; exact yes; rfl; exact yes; rfl; rfl; intro hcond; omega
  apply qop; rfl; apply Pev.load_kept; rfl; exact yes; exact .head _; rfl; intro hcond; assumption; intro hcond; (rw [add_block]; assumption); intro hcond; exact NotOwned.au
  apply qbn; rfl; rfl; rfl; apply Bin.neq
  apply QL.nil
  with_reducible apply At.next
  (refine W.cnd (fun hd => ?_) (fun hd => ?_)) <;> (try (exfalso; first | omega | exact hd trivial | contradiction))
  ·apply W.sr
   apply oas; rfl; rfl
   apply OL.nx
   refine W.rt ?_
   ((with_reducible apply At.fin1); rfl; rfl; intro w' hw')
   have : ¬ l1 = l2 := fun e => by
    subst e
    rw [hu] at hu2
    first | exact hd (Option.some.inj hu2) | exact hd (Option.some.inj hu2).symm
   exact ⟨by simp [this], by (exact hw'.fr)⟩
  ·apply W.skip
   with_reducible apply At.in_normal
   with_reducible apply At.next
   apply W.reg
   apply obn; rfl; rfl; rfl; apply Bin.add_in; omega
   apply omv; rfl; rfl
   apply OL.nil
   refine At.again (i + 1) ⟨by omega, fun j hj => ?_⟩ (by omega) (by exact Sub.au) (fun w' hw' => hw')
   by_cases hji : j = i
   ·rw [hji, hu, hu2, hd]
   ·exact hsame j (by omega)
 ·refine W.xt ?_
  with_reducible apply At.next
  apply W.sr
  apply oas; rfl; rfl
  apply OL.nx
  apply W.ret
  ((with_reducible apply At.fin1); rfl; rfl; intro w' hw')
  have : l1 = l2 := List.ext_getElem? fun j => by
   by_cases hj : j < i
   ·exact hsame j hj
   ·rw [List.getElem?_eq_none (by omega), List.getElem?_eq_none (by omega)]
  exact ⟨by simp [this], by (exact hw'.fr)⟩
theorem EqS_calls (q1 q2 : Option Addr) (cap1 cap2 : Nat) (l1 l2 : List ByteArray) (w : World) (hl1 : l1.length ≤ 9223372036854775807) (hl2 : l2.length ≤ 9223372036854775807) (h1 : SlAt w w.heap.size q1 (strs l1)) (h2 : SlAt w w.heap.size q2 (strs l2)) :
  Calls Try.prog 91 #[.slice q1 l1.length cap1, .slice q2 l2.length cap2] w fun e w' => e = .returned (.bool (decide (l1 = l2))) ∧ Ext w w' := by
 refine enter Try.func91 rfl Try.ntmps91 rfl (Cls.start w) ?_
 (simp only [argEnv, Nat.zero_add, Nat.reduceAdd])
 apply W.sr
 apply oas; rfl; rfl
 apply OL.nx
 apply W.seq
 apply W.sr
 apply omv; rfl; rfl
 apply oop; rfl; apply Pev.len_slice; rfl; exact yes; rfl
 apply omv; rfl; rfl
 apply oop; rfl; apply Pev.len_slice; rfl; exact yes; rfl
 apply obn; rfl; rfl; rfl; apply Bin.neq
 apply OL.nx
 (refine W.cnd (fun hne => ?_) (fun hne => ?_)) <;> (try (exfalso; first | omega | exact hne trivial | contradiction))
 ·apply W.sr
  apply oas; rfl; rfl
  apply OL.nx
  refine W.rt ?_
  ((with_reducible apply At.fin1); rfl; rfl; intro w' hw')
  have : ¬ l1 = l2 := fun e => by subst e; exact hne rfl
  exact ⟨by simp [this], by (exact hw'.fr)⟩
 apply W.sk
 apply W.seq
 apply W.sr
 apply omv; rfl; rfl
 apply oop; rfl; apply Pev.len_slice; rfl; exact yes; rfl
 apply omv; rfl; rfl
 apply OL.nx
 apply W.block
 refine W.loop (G := Nat) (fun i => i ≤ l1.length ∧ ∀ j, j < i → l1[j]? = l2[j]?) (fun i => l1.length - i)
  (fun i => [(13, true, .int .i64 (i : Int)), (12, true, .int .i64 (l1.length : Int)), (0, true, .slice q1 l1.length cap1), (1, true, .slice q2 l2.length cap2)])
  (fun i => Cls [] [w]) 0 ⟨by omega, fun j hj => by omega⟩ (by exact Sub.au) (fun w' hw' => hw') ?_
 rintro i ⟨hi, hsame⟩
 apply W.sr
 apply obn; rfl; rfl; rfl; apply Bin.lss
 apply OL.nx
 apply W.seq
 (refine W.cnd (fun hlt => ?_) (fun hlt => ?_)) <;> (try (exfalso; first | omega | exact hlt trivial | contradiction))
 ·obtain ⟨a, u, rfl, hab, hu, hcell⟩ := h1.str (show i < l1.length by omega)
  obtain ⟨a2, u2, rfl, hab2, hu2, hcell2⟩ := h2.str (show i < l2.length by omega)
  apply W.sk
  apply W.sb
  apply W.sr
  apply omv; rfl; rfl
  apply oas; rfl; rfl
  apply OL.nx
  apply W.seq
  apply W.regd0; decide +kernel; kernel_rfl; decide +kernel; exact fun w hw => hw.drew
  apply qmv; rfl; rfl
  apply qmv; rfl; rfl
  apply qop; rfl; apply Pev.idx; rfl; exact yes; rfl; exact yes; rfl; rfl; intro hcond; omega
  apply qop; rfl; apply Pev.load_kept; rfl; exact yes; exact .head _; rfl; intro hcond; assumption; intro hcond; (rw [add_block]; assumption); intro hcond; exact NotOwned.au
  apply qmv; rfl; rfl
  apply qmv; rfl; rfl
  apply qop; rfl; apply Pev.idx; rfl; exact yes; rfl; exact yes; rfl; rfl; intro hcond; omega
  apply qop; rfl; apply Pev.load_kept; rfl; exact yes; exact .head _; rfl; intro hcond; assumption; intro hcond; (rw [add_block]; assumption); intro hcond; exact NotOwned.au
  apply qbn; rfl; rfl; rfl; apply Bin.str_neq
  apply QL.nil
  with_reducible apply At.next
  (refine W.cnd (fun hd => ?_) (fun hd => ?_)) <;> (try (exfalso; first | omega | exact hd trivial | contradiction))
  ·apply W.sr
   apply oas; rfl; rfl
   apply OL.nx
   refine W.rt ?_
   ((with_reducible apply At.fin1); rfl; rfl; intro w' hw')
   have : ¬ l1 = l2 := fun e => by
    subst e
    rw [hu] at hu2
    first | exact hd (Option.some.inj hu2) | exact hd (Option.some.inj hu2).symm
   exact ⟨by simp [this], by (exact hw'.fr)⟩
  ·apply W.skip
   with_reducible apply At.in_normal
   with_reducible apply At.next
   apply W.reg
   apply obn; rfl; rfl; rfl; apply Bin.add_in; omega
   apply omv; rfl; rfl
   apply OL.nil
   refine At.again (i + 1) ⟨by omega, fun j hj => ?_⟩ (by omega) (by exact Sub.au) (fun w' hw' => hw')
   by_cases hji : j = i
   ·rw [hji, hu, hu2, hd]
   ·exact hsame j (by omega)
 ·refine W.xt ?_
  with_reducible apply At.next
  apply W.sr
  apply oas; rfl; rfl
  apply OL.nx
  apply W.ret
  ((with_reducible apply At.fin1); rfl; rfl; intro w' hw')
  have : l1 = l2 := List.ext_getElem? fun j => by
   by_cases hj : j < i
   ·exact hsame j hj
   ·rw [List.getElem?_eq_none (by omega), List.getElem?_eq_none (by omega)]
  exact ⟨by simp [this], by (exact hw'.fr)⟩
theorem same_calls (x y : NdE) (w : World) (hx : NdAt w x) (hy : NdAt w y) :
  Calls Try.prog 80 [.agg (ndC x).toArray, .agg (ndC y).toArray].toArray w fun e w' => e = .returned (.bool (sameN x.1 y.1)) ∧ Ext w w' := by
 obtain ⟨hxp, hxn, hxw, hxk⟩ := hx.l
 obtain ⟨hyp, hyn, hyw, hyk⟩ := hy.l
 refine enter Try.func80 rfl Try.ntmps80 rfl (Cls.start w) ?_
 (simp only [argEnv, Nat.zero_add, Nat.reduceAdd])
 simp only [ndC]
 apply W.sr
 apply OL.box; rfl; rfl; exact CellsL.agg; (intro bk hbk; simp only [AllLe, and_true] at hbk)
 apply OL.box; rfl; rfl; exact CellsL.agg; (intro bk hbk; simp only [AllLe, and_true] at hbk)
 apply oas; rfl; rfl
 apply OL.nsr
 apply ofa; rfl; rfl; rfl
 apply old; rfl; rfl; exact .tail _ (.head _); rfl; rfl
 apply ofa; rfl; rfl; rfl
 apply old; rfl; rfl; exact .head _; rfl; rfl
 apply obn; rfl; rfl; rfl; apply Bin.eql
 apply omv; rfl; rfl
 apply oy; rfl; rfl; rfl; apply Pev.fld; rfl; exact yes; rfl
 apply oy; rfl; rfl; rfl; apply Pev.load_blk; rfl; exact fun h => h; exact .tail _ (.head _); rfl; rfl
 apply oy; rfl; rfl; rfl; apply Pev.fld; rfl; exact yes; rfl
 apply oy; rfl; rfl; rfl; apply Pev.load_blk; rfl; exact fun h => h; exact .head _; rfl; rfl
 apply oy; rfl; rfl; rfl; apply Pev.bin; rfl; exact fun h => h; rfl; exact fun h => h; intro hcond; apply Bin.eql
 apply oop; rfl; apply Pev.pick_and; rfl; exact yes; rfl; exact fun h => h
 apply omv; rfl; rfl
 apply oy; rfl; rfl; rfl; apply Pev.fld; rfl; exact yes; rfl
 apply oy; rfl; rfl; rfl; apply Pev.load_blk; rfl; exact fun h => h; exact .tail _ (.head _); rfl; rfl
 apply oy; rfl; rfl; rfl; apply Pev.fld; rfl; exact yes; rfl
 apply oy; rfl; rfl; rfl; apply Pev.load_blk; rfl; exact fun h => h; exact .head _; rfl; rfl
 rename_i b2 hb2
 revert bk
 intro b3 hb3
 have hHs : ∀ k, k < w.heap.size → NotOwned [blk b3 77 (ndC y), blk b2 77 (ndC x)] k := fun k hk => NotOwned.blk (by omega) (NotOwned.blk (by omega) .nil)
 have hsl : ∀ w2, Cls [blk b3 77 (ndC y), blk b2 77 (ndC x)] [w] w2 → NdAt w2 x ∧ NdAt w2 y := fun w2 hw2 => by
  have hx2 := hw2.toExt (s := w) (.head _) hHs
  exact ⟨hx.ext hx2, hy.ext hx2⟩
 (((first | (with_reducible apply OL.op) | (with_reducible apply QL.op)); (exact Guard.au); rfl; rfl); (exact Pev.call (v := .bool (decide (x.1.path = y.1.path))) rfl (by exact Args.au) (fun _ w2 hw2 => (EqI_calls x.2.p.1 y.2.p.1 x.2.p.2 y.2.p.2 x.1.path y.1.path w2 (by omega) (by omega) (IntsO.of_sl (hsl w2 hw2).1.p) (IntsO.of_sl (hsl w2 hw2).2.p)).mono fun e w3 h => ⟨h.1, hw2.ext h.2⟩)))
 apply oop; rfl; apply Pev.pick_and; rfl; exact yes; rfl; exact fun h => h
 apply omv; rfl; rfl
 apply oy; rfl; rfl; rfl; apply Pev.fld; rfl; exact yes; rfl
 apply oy; rfl; rfl; rfl; apply Pev.load_blk; rfl; exact fun h => h; exact .tail _ (.head _); rfl; rfl
 apply oy; rfl; rfl; rfl; apply Pev.fld; rfl; exact yes; rfl
 apply oy; rfl; rfl; rfl; apply Pev.load_blk; rfl; exact fun h => h; exact .head _; rfl; rfl
 (((first | (with_reducible apply OL.op) | (with_reducible apply QL.op)); (exact Guard.au); rfl; rfl); (exact Pev.call (v := .bool (decide (x.1.names = y.1.names))) rfl (by exact Args.au) (fun _ w2 hw2 => (EqS_calls x.2.n.1 y.2.n.1 x.2.n.2 y.2.n.2 x.1.names y.1.names w2 (by omega) (by omega) (hsl w2 hw2).1.n (hsl w2 hw2).2.n).mono fun e w3 h => ⟨h.1, hw2.ext h.2⟩)))
 apply oop; rfl; apply Pev.pick_and; rfl; exact yes; rfl; exact fun h => h
 apply omv; rfl; rfl
 apply oy; rfl; rfl; rfl; apply Pev.fld; rfl; exact yes; rfl
 apply oy; rfl; rfl; rfl; apply Pev.load_blk; rfl; exact fun h => h; exact .tail _ (.head _); rfl; rfl
 apply oy; rfl; rfl; rfl; apply Pev.fld; rfl; exact yes; rfl
 apply oy; rfl; rfl; rfl; apply Pev.load_blk; rfl; exact fun h => h; exact .head _; rfl; rfl
 (((first | (with_reducible apply OL.op) | (with_reducible apply QL.op)); (exact Guard.au); rfl; rfl); (exact Pev.call (v := .bool (decide (x.1.words = y.1.words))) rfl (by exact Args.au) (fun _ w2 hw2 => (EqI_calls x.2.w.1 y.2.w.1 x.2.w.2 y.2.w.2 x.1.words y.1.words w2 (by omega) (by omega) (IntsO.of_sl (hsl w2 hw2).1.d) (IntsO.of_sl (hsl w2 hw2).2.d)).mono fun e w3 h => ⟨h.1, hw2.ext h.2⟩)))
 apply oop; rfl; apply Pev.pick_and; rfl; exact yes; rfl; exact fun h => h
 apply omv; rfl; rfl
 apply oy; rfl; rfl; rfl; apply Pev.fld; rfl; exact yes; rfl
 apply oy; rfl; rfl; rfl; apply Pev.load_blk; rfl; exact fun h => h; exact .tail _ (.head _); rfl; rfl
 apply oy; rfl; rfl; rfl; apply Pev.fld; rfl; exact yes; rfl
 apply oy; rfl; rfl; rfl; apply Pev.load_blk; rfl; exact fun h => h; exact .head _; rfl; rfl
 (((first | (with_reducible apply OL.op) | (with_reducible apply QL.op)); (exact Guard.au); rfl; rfl); (exact Pev.call (v := .bool (decide (x.1.kids = y.1.kids))) rfl (by exact Args.au) (fun _ w2 hw2 => (EqI_calls x.2.k.1 y.2.k.1 x.2.k.2 y.2.k.2 x.1.kids y.1.kids w2 (by omega) (by omega) (IntsO.of_sl (hsl w2 hw2).1.k) (IntsO.of_sl (hsl w2 hw2).2.k)).mono fun e w3 h => ⟨h.1, hw2.ext h.2⟩)))
 apply oop; rfl; apply Pev.pick_and; rfl; exact yes; rfl; exact fun h => h
 apply oas; rfl; rfl
 apply OL.nx
 apply W.ret
 ((with_reducible apply At.fin1); rfl; rfl; intro w' hw')
 exact ⟨by unfold sameN; simp only [Bool.and_assoc], hw'.toExt (.head _) hHs⟩
end Go.Proofs.Ytleggdmhihcafaa.pt

/- Nodes of four cells (two strings, two pointers), each in a block of its own: an item for a table of them; loads, stores of the pointers, new ones, comparisons of pointers. General. No condition. -/
namespace Go.Eng
open Go.RowKit
structure Nd where
 key : ByteArray
 val : ByteArray
 nx : Option Nat
 pr : Option Nat
abbrev NdT := Nat → Option Nd
def ptrO : Option Nat → Value | none => .pointer none | some k => .pointer (some ⟨k, 0, none⟩)
def ndc (x : Nd) : List Value := [.string x.key, .string x.val, ptrO x.nx, ptrO x.pr]
def nds (t : TypeId) (f : NdT) : Item :=
 ⟨fun k => (f k).isSome = true, fun w => ∀ k x, f k = some x → w.heap[k]? = some (.cells (ndc x).toArray t (0, 0)), fun w w' hk h k x hx => (hk k (by simp [hx])).trans (h k x hx)⟩
theorem NotOwned.nds {H : List Item} {t : TypeId} {f : NdT} {k : Nat} (h : f k = none) (r : NotOwned H k) : NotOwned (Eng.nds t f :: H) k := NotOwned.any (fun hm => by
 have hm' : (f k).isSome = true := hm
 rw [h] at hm'; cases hm') r
section
variable {P : Program} {n : Nm} {l : Env} {H : List Item} {S : List World} {C : World → Prop} {c : Bool} {d : Option Nat} {ty : TypeId} {pos : String} {af : Array Edge} {g : Option (Nat × Bool)}
variable {ops : Array Oper} {rest : List Oper} {Q : Exit → Act → World → Prop} {t : TypeId} {x y z : Operand} {cx cy cz : Bool}
/-! comparisons of pointers -/
theorem guard_ptr {op : BinOp} {x y : Operand} {p p' : Option Addr} {w : World} : (eqGuard op t x y (.pointer p) (.pointer p')).run P w = .ok () w := by cases op <;> rfl
def ptrB (P : Program) (t : TypeId) : Bool := match P.underlying t with | some (.pointer e) => (match P.info? e with | some j => !Nat.beq j.size 0 | none => false) && (Nat.beq (P.pointee t) e) | _ => false
theorem ptrB_spec (h : ptrB P t = true) : ∃ e j, P.underlying t = some (.pointer e) ∧ P.info? e = some j ∧ j.size ≠ 0 ∧ P.pointee t = e := by
 unfold ptrB at h
 split at h
 ·rename_i e he
  split at h
  ·rename_i j hj
   simp only [Bool.and_eq_true, Bool.not_eq_true'] at h
   exact ⟨e, j, he, hj, fun hh => by rw [hh] at h; simp at h, Nat.eq_of_beq_eq_true h.2⟩
  ·simp at h
 ·cases h
theorem Bin.ptr_nil {p : Option Addr} (hu : ptrB P t = true) : Bin P .eql t (.pointer p) (.pointer none) (.bool p.isNone) := ⟨fun x y w => by
 obtain ⟨e, j, h1, h2, h3, h4⟩ := ptrB_spec hu
 rw [Sem.run_bind, guard_ptr, Result.andThen_ok]
 have := run_eql_pointer_nil (P := P) (w := w) t p (by rw [h4]; exact h1)
 rw [this]⟩
theorem Bin.ptr_nnil {p : Option Addr} (hu : ptrB P t = true) : Bin P .neq t (.pointer p) (.pointer none) (.bool (!p.isNone)) := ⟨fun x y w => by
 obtain ⟨e, j, h1, h2, h3, h4⟩ := ptrB_spec hu
 rw [Sem.run_bind, guard_ptr, Result.andThen_ok]
 have := run_neq_pointer_nil (P := P) (w := w) t p (by rw [h4]; exact h1)
 rw [this]⟩
theorem row_le {w : World} {base m cap size : Nat} {O : Nat → Prop} {q : Option Addr} {e : TypeId} {xs : List Value} (h : (row base O q m cap e size xs).holds w) : m ≤ cap := by
 rcases h.2.2 with ⟨h3, h4⟩ | ⟨g, cap', cur, h3, hb, hg, h4, h5⟩
 ·omega
 ·simp only [Value.slice.injEq] at h3
  obtain ⟨_, _, rfl⟩ := h3
  exact h4
theorem Thin.row {base m cap size : Nat} {O : Nat → Prop} {q : Option Addr} {e : TypeId} {xs : List Value} {H' : List Item} (hb : AllLe S base) (h : Thin S H H') : Thin S (Eng.row base O q m cap e size xs :: H) H' :=
 Thin.any (fun k hk => by
  have := hb.mem
  have hk' : base ≤ k := hk.1
  clear hk hb h
  induction S with
  | nil => trivial
  | cons s S ih => exact ⟨Nat.le_trans (this s (.head _)) hk', ih fun s hs => this s (.tail _ hs)⟩) h
end
end Go.Eng

/- Rows: a full block is one; one row appended to another; a part of one; results of which the first stands in a block. General. No condition. -/
namespace Go.Eng
open Go.RowKit
section
variable {P : Program} {n : Nm} {l : Env} {H : List Item} {S : List World} {C : World → Prop} {c : Bool} {d : Option Nat} {ty : TypeId} {pos : String} {af : Array Edge} {g : Option (Nat × Bool)}
variable {ops : Array Oper} {rest : List Oper} {Q : Exit → Act → World → Prop}
variable {t : TypeId} {x y z : Operand} {cx cy cz : Bool}
theorem At.cls {e : Exit} {C' : World → Prop} (hc : ∀ w, C w → C' w) (h : At n Q e l C') : At n Q e l C := ⟨fun a w s c => h.run a w s (hc w c)⟩
end
end Go.Eng

/- Append of a slice that reads, of any length, to a grown row. General. No condition. -/
namespace Go.Eng
open Go.RowKit
section
variable {P : Program} {n : Nm} {l : Env} {H : List Item} {S : List World} {C : World → Prop} {ty : TypeId} {pos : String} {af : Array Edge}
variable {ops : Array Oper} {rest : List Oper} {Q : Exit → Act → World → Prop} {t : TypeId} {x y : Operand}
theorem run_append_src_nil2 {w : World} {ty e : TypeId} {i : TypeInfo} {q : Option Addr} {m cap cap2 : Nat} (ht : P.underlying t = some (.slice e)) (hi : P.info? e = some i) (hc : m ≤ cap) :
  (Builtin.append_ #[t, t] ty #[.slice q m cap, .slice none 0 cap2]).run P w = .ok (.slice q m cap) w := by
 cases q <;> simp [Builtin.append_, run_underlying ht, sizeOf, typeInfo, hi, Builtin.lenOf, hc, Builtin.firstCells, loadCells, loadCellsFrom, storeCells]
theorem OL.appendK {F : Item → List Item} {e : TypeId} {dd sz bb p m cap cap2 m2 base : Nat} {O : Nat → Prop} {q q2 : Option Addr} {xs news : List Value}
  (hx : evl l x = some (true, .slice q m cap)) (hy : evl l y = some (true, .slice q2 m2 cap2)) (hn : Nat.ble (dd + 1) n.n = true)
  (hu : rowElem P t = some (e, sz, bb)) (hp' : Hole p H (row base O q m cap e sz xs) F) (hsl : ∀ w, Cls H S w → SlAt w w.heap.size q2 news) (hl : news.length = m2 * sz) (h1 : oneL news = true)
  (hs : ∃ s ∈ S, base ≤ s.heap.size) (hlim : (m + m2) ≤ 9223372036854775807 ∧ (m + m2) * bb ≤ 140737488355328)
  (k : ∀ (O' : Nat → Prop) (q' : Option Addr) (cap' : Nat), OL P n ops Q rest ((dd, true, .slice q' (m + m2) cap') :: l) (Cls (F (row base O' q' (m + m2) cap' e sz (xs ++ news))) S)) :
  OL P n ops Q (⟨some dd, .call { callee := .builtin .append, args := #[x, y], argTypes := #[t, t] }, ty, pos, af, none⟩ :: rest) l (Cls H S) := by
 have hp := hp'.eq.1
 have hF := hp'.eq.2
 refine OL.newT (α := (Nat → Prop) × Option Addr × Nat) (C' := fun r w => Cls (H.set p (row base r.1 r.2.1 (m + m2) r.2.2 e sz (xs ++ news))) S w) rfl rfl hn (fun r => .slice r.2.1 (m + m2) r.2.2) (fun a w hs' hc => ?_) (fun r => by rw [← hF]; exact k r.1 r.2.1 r.2.2)
 obtain ⟨i, z, g1, g2, g3, g4, g5, g6, g7⟩ := rowElem_spec hu
 obtain ⟨s, hsm, hsb⟩ := hs
 have hbw : base ≤ w.heap.size := Nat.le_trans hsb (hc.kp s hsm).size
 have hi := hc.item (List.mem_of_getElem? hp)
 cases q2 with
 | none =>
  have hm2 : news = [] := by
   cases news with
   | nil => rfl
   | cons v r =>
    obtain ⟨a, ha, _⟩ := hsl w hc (by simp)
    cases ha
  subst hm2
  have hm0 : m2 = 0 := by
   rcases Nat.eq_zero_or_pos m2 with h0 | h0
   ·exact h0
   ·have := Nat.mul_pos h0 g7
    simp at hl
    omega
  subst hm0
  refine ⟨(O, q, cap), w, ?_, ?_⟩
  ·simp only [execOp, resolve, invoke, builtin, Sem.run_bind, Sem.run_pure, Result.andThen_ok, List.map_toArray, List.map_cons, List.map_nil, hs'.eval hx rfl, hs'.eval hy rfl, run_append_src_nil2 (P := P) (cap2 := cap2) (w := w) (ty := ty) (q := q) g1 g2 (row_le hi)]
   rfl
  ·simp only [List.append_nil, Nat.add_zero]
   rwa [set_same hp]
 | some ad =>
  have hnews : ∀ j u, news[j]? = some u → w.cell? (ad.add j) = some u := fun j u hj => by
   obtain ⟨a, ha, _, hca⟩ := hsl w hc (by have := (List.getElem?_eq_some_iff.1 hj).1; omega)
   obtain rfl := Option.some.inj ha
   exact hca j u hj
  obtain ⟨v', w', hr, h2, h3, h4, h5⟩ := run_append_own_at (P := P) (w := w) base t ty e i z sz bb g1 g2 g3 g4 g5 g6 g7 _ m xs hi.2 ad m2 cap2 news hl hnews (fun u hu => oneL_mem h1 u hu) hlim.1 hlim.2 hbw
  have hown : ∀ k, some k = (Value.slice q m cap).ownBlock → base ≤ k ∧ O k := fun k hk => by
   cases q with
   | none => simp [Value.ownBlock] at hk
   | some a =>
    simp only [Value.ownBlock, Option.some.injEq] at hk
    subst hk
    exact ⟨(World.ownsRow.lt hi.2 _ rfl).1, hi.1 _ rfl⟩
  rcases h2.2 with ⟨rfl, h0⟩ | ⟨g', cap', cur, rfl, hb', hg', hrest⟩
  ·refine ⟨(O, none, 0), w', ?_, ?_⟩
   ·simp only [execOp, resolve, invoke, builtin, Sem.run_bind, Sem.run_pure, Result.andThen_ok, List.map_toArray, List.map_cons, List.map_nil, hs'.eval hx rfl, hs'.eval hy rfl, hr, h0]
   ·rw [h0] at h2 ⊢
    refine hc.turn p hp (j := row base O none 0 0 e sz (xs ++ news)) ⟨h3.os, h3.tape, h3.output, h3.size, fun k hk hO => h3.block k hk (fun e => hO (hown k e))⟩ ⟨fun a ha => (by cases ha), h2⟩ (fun k hk => ⟨.inl hk, Nat.lt_of_lt_of_le (hc.lt _ (List.mem_of_getElem? hp) k hk) h3.size⟩) (fun k hk => hk)
  ·refine ⟨(fun k => O k ∨ k = g', some ⟨g', 0, none⟩, cap'), w', ?_, ?_⟩
   ·simp only [execOp, resolve, invoke, builtin, Sem.run_bind, Sem.run_pure, Result.andThen_ok, List.map_toArray, List.map_cons, List.map_nil, hs'.eval hx rfl, hs'.eval hy rfl, hr]
   ·refine hc.turn p hp (j := row base (fun k => O k ∨ k = g') (some ⟨g', 0, none⟩) (m + m2) cap' e sz (xs ++ news)) ⟨h3.os, h3.tape, h3.output, h3.size, fun k hk hO => h3.block k hk (fun e => hO (hown k e))⟩ ?_ ?_ ?_
    ·exact ⟨fun a ha => by cases ha; exact .inr rfl, h2⟩
    ·intro k hk
     have hlt : g' < w'.heap.size := (Array.getElem?_eq_some_iff.1 hg').1
     rcases hk.2 with h | h
     ·exact ⟨.inl ⟨hk.1, h⟩, Nat.lt_of_lt_of_le (hc.lt _ (List.mem_of_getElem? hp) k ⟨hk.1, h⟩) h3.size⟩
     ·subst h
      refine ⟨?_, hlt⟩
      rcases h5 with h5 | h5
      ·exact .inl (hown k (by rw [← h5]; rfl))
      ·simp only [Value.ownBlock, Option.some.injEq] at h5
       exact .inr (by omega)
    ·exact fun k hk => ⟨hk.1, .inl hk.2⟩
end
end Go.Eng

/- Append onto a full slice that reads (a new row), and onto a slice that is a block of the call's own. General. No condition. -/
namespace Go.Eng
open Go.RowKit
section
variable {P : Program} {n : Nm} {l : Env} {H : List Item} {S : List World} {C : World → Prop} {ty : TypeId} {pos : String} {af : Array Edge}
variable {ops : Array Oper} {rest : List Oper} {Q : Exit → Act → World → Prop} {t : TypeId} {x y : Operand}
theorem Hole.at {p : Nat} {i : Item} {F : Item → List Item} (h : Hole p H i F) (j : Item) : Hole p (F j) j F := by
 induction h with
 | z => exact Hole.z
 | s _ ih => exact Hole.s ih
theorem Cls.blk_row_at {p b base m sz : Nat} {e : TypeId} {cs : List Value} {w : World} {F : Item → List Item} (hh : Hole p H (blk b e cs) F) (h : Cls H S w) (hb : base ≤ b) (hl : cs.length = m * sz) (hm : m ≤ maxLen) :
  Cls (F (row base (fun k => k = b) (some ⟨b, 0, none⟩) m m e sz cs)) S w := by
 obtain ⟨h1, h2⟩ := hh.eq
 rw [h2]
 have hmem := List.mem_of_getElem? h1
 have h0 : (blk b e cs).holds w := h.holds _ hmem
 refine h.turn p h1 (Keep.refl _ _) ⟨fun a ha => by cases ha; rfl, hl, .inr ⟨b, m, cs.toArray, rfl, hb, h0, Nat.le_refl _, hm, by simpa using hl, List.take_of_length_le (by simp [hl])⟩⟩ (fun k hk => ?_) (fun k hk => ?_)
 ·exact ⟨.inl hk.2, h.lt _ hmem k hk.2⟩
 ·have hk' : k = b := hk
  exact ⟨by rw [hk']; exact hb, hk'⟩
theorem OL.appendB {F : Item → List Item} {e : TypeId} {dd sz bb p m cap2 m2 base b : Nat} {q2 : Option Addr} {cs news : List Value}
  (hx : evl l x = some (true, .slice (some ⟨b, 0, none⟩) m m)) (hy : evl l y = some (true, .slice q2 m2 cap2)) (hn : Nat.ble (dd + 1) n.n = true)
  (hu : rowElem P t = some (e, sz, bb)) (hp' : Hole p H (blk b e cs) F) (hb : base ≤ b) (hlc : cs.length = m * sz) (hsl : ∀ w, Cls (F (row base (fun k => k = b) (some ⟨b, 0, none⟩) m m e sz cs)) S w → SlAt w w.heap.size q2 news) (hl : news.length = m2 * sz) (h1 : oneL news = true)
  (hs : ∃ s ∈ S, base ≤ s.heap.size) (hlim : (m + m2) ≤ 9223372036854775807 ∧ (m + m2) * bb ≤ 140737488355328)
  (k : ∀ (O' : Nat → Prop) (q' : Option Addr) (cap' : Nat), OL P n ops Q rest ((dd, true, .slice q' (m + m2) cap') :: l) (Cls (F (row base O' q' (m + m2) cap' e sz (cs ++ news))) S)) :
  OL P n ops Q (⟨some dd, .call { callee := .builtin .append, args := #[x, y], argTypes := #[t, t] }, ty, pos, af, none⟩ :: rest) l (Cls H S) := by
 refine OL.cls (C' := Cls (F (row base (fun k => k = b) (some ⟨b, 0, none⟩) m m e sz cs)) S) (fun w hw => hw.blk_row_at hp' hb hlc (by simp only [maxLen]; omega)) ?_
 exact OL.appendK hx hy hn hu (hp'.at _) hsl hl h1 hs hlim k
theorem OL.appendF {F : Item → List Item} {e : TypeId} {dd sz bb p m cap2 m2 base : Nat} {q q2 : Option Addr} {xs news : List Value}
  (hx : evl l x = some (true, .slice q m m)) (hy : evl l y = some (true, .slice q2 m2 cap2)) (hn : Nat.ble (dd + 1) n.n = true)
  (hu : rowElem P t = some (e, sz, bb)) (hp' : Hole p H nothing F) (hsx : ∀ w, Cls H S w → SlAt w w.heap.size q xs) (hlx : xs.length = m * sz) (hsl : ∀ w, Cls H S w → SlAt w w.heap.size q2 news) (hl : news.length = m2 * sz) (h1 : oneL news = true) (hpos : 0 < m2)
  (hs : ∃ s ∈ S, base ≤ s.heap.size) (hlim : (m + m2) ≤ 9223372036854775807 ∧ (m + m2) * bb ≤ 140737488355328) (hq0 : q = none → m = 0)
  (k : ∀ (O' : Nat → Prop) (q' : Option Addr) (cap' : Nat), OL P n ops Q rest ((dd, true, .slice q' (m + m2) cap') :: l) (Cls (F (row base O' q' (m + m2) cap' e sz (xs ++ news))) S)) :
  OL P n ops Q (⟨some dd, .call { callee := .builtin .append, args := #[x, y], argTypes := #[t, t] }, ty, pos, af, none⟩ :: rest) l (Cls H S) := by
 refine OL.newT (α := (Nat → Prop) × Option Addr × Nat) (C' := fun r w => Cls (F (row base r.1 r.2.1 (m + m2) r.2.2 e sz (xs ++ news))) S w) rfl rfl hn (fun r => .slice r.2.1 (m + m2) r.2.2) (fun a w hs' hc => ?_) (fun r => k r.1 r.2.1 r.2.2)
 obtain ⟨i, z, g1, g2, g3, g4, g5, g6, g7⟩ := rowElem_spec hu
 obtain ⟨s, hsm, hsb⟩ := hs
 have hbw : base ≤ w.heap.size := Nat.le_trans hsb (hc.kp s hsm).size
 have hnl : 0 < news.length := by rw [hl]; exact Nat.mul_pos hpos g7
 obtain ⟨ad, rfl, _, hca⟩ := hsl w hc hnl
 have hnews : ∀ j u, news[j]? = some u → w.cell? (ad.add j) = some u := fun j u hj => hca j u hj
 have key : ∃ v' w', (Builtin.append_ #[t, t] ty #[.slice q m m, .slice (some ad) m2 cap2]).run P w = .ok v' w' ∧ w'.ownsRow w.heap.size e sz v' (m + m2) (xs ++ news) ∧ w.grownBy w' none := by
  cases q with
  | none =>
   have hm := hq0 rfl
   subst hm
   have hxs : xs = [] := List.eq_nil_of_length_eq_zero (by omega)
   subst hxs
   obtain ⟨v', w', hr, h2, h3, h4, h5⟩ := run_append_own_at (P := P) (w := w) w.heap.size t ty e i z sz bb g1 g2 g3 g4 g5 g6 g7 (.slice none 0 0) 0 [] ⟨by simp, .inl ⟨rfl, rfl⟩⟩ ad m2 cap2 news hl hnews (fun u hu => oneL_mem h1 u hu) (by simp only [maxLen]; omega) hlim.2 (Nat.le_refl _)
   exact ⟨v', w', hr, h2, h3⟩
  | some ax =>
   have holds : ∀ j u, xs[j]? = some u → w.cell? (ax.add j) = some u := fun j u hj => by
    obtain ⟨a2, e2, _, hc2⟩ := hsx w hc (by have := (List.getElem?_eq_some_iff.1 hj).1; omega)
    obtain rfl := Option.some.inj e2
    exact hc2 j u hj
   exact run_append_arg_grows (P := P) (w := w) t ty e i z sz bb g1 g2 g3 g4 g5 g6 g7 ax m m xs hlx holds ad m2 cap2 news hl hnews (by omega) (by simp only [maxLen]; omega) hlim.2
 obtain ⟨v', w', hr, h2, h3⟩ := key
 have hext : Ext w w' := ⟨h3.os, h3.tape, h3.output, h3.size, fun k hk hn => h3.block k hk (fun h => by cases h)⟩
 rcases h2.2 with ⟨_, h0⟩ | ⟨g', cap', cur, rfl, hb', hg', hrest⟩
 ·omega
 ·refine ⟨(fun k => k = g', some ⟨g', 0, none⟩, cap'), w', ?_, ?_⟩
  ·simp only [execOp, resolve, invoke, builtin, Sem.run_bind, Sem.run_pure, Result.andThen_ok, List.map_toArray, List.map_cons, List.map_nil, hs'.eval hx rfl, hs'.eval hy rfl, hr]
  ·refine Cls.fill hp' (hc.add hext _ ⟨fun a ha => by cases ha; rfl, h2.1, .inr ⟨g', cap', cur, rfl, Nat.le_trans hbw hb', hg', hrest⟩⟩ (fun k hk => ?_))
   have hk' : k = g' := hk.2
   rw [hk']
   exact ⟨hb', (Array.getElem?_eq_some_iff.1 hg').1⟩
end
end Go.Eng

/- The walk of the builder's add. Conditions: none. -/
namespace Go.Pt
open Go.Eng Go.RowKit
structure BG where
 many : Nat
 full : Bool
 outs : List NdE
 O : Nat → Prop
 q : Option Addr
 c : Nat
 OA : Nat → Prop
 L : List (Addr × List Value)
def BG.st (g : BG) : St := ⟨g.outs.map Prod.fst, g.many, g.full⟩
end Go.Pt
namespace Go.Proofs.Ytleggdmhihcafaa.pt
open Go.RowKit Go.Eng Go.Pt
set_option maxRecDepth 100000
theorem idxP_map {α β : Type} (p : β → Bool) (f : α → β) : ∀ (l : List α) (k : Nat), idxP p (l.map f) k = idxP (fun x => p (f x)) l k
 | [], _ => rfl
 | x :: l, k => by rw [List.map_cons, idxP, idxP, idxP_map p f l (k + 1)]
theorem add1_calls (z t : NdE) (bt : Nat) (w : World) (hc : CellsAt w ⟨bt, 0, none⟩ (ndC t)) (hb : bt < w.heap.size) (hz : NdAt w z) (ht : NdAt w t) :
  Calls Try.prog 79 [.agg (ndC z).toArray, .pointer (some ⟨bt, 0, none⟩)].toArray w fun e w' => e = .returned (.bool (sameN z.1 t.1)) ∧ Ext w w' := by
 refine enter Try.func79 rfl Try.ntmps79 rfl (Cls.start w) ?_
 (simp only [argEnv, Nat.zero_add, Nat.reduceAdd])
 have hsm := fun w2 (hw2 : Cls [blk w.heap.size 77 (ndC z)] [w] w2) => same_calls z t w2
 simp only [ndC] at hc ⊢
 apply W.sr
 apply OL.box; rfl; rfl; exact CellsL.agg; (intro bk hbk; simp only [AllLe, and_true] at hbk)
 apply oas; rfl; rfl
 apply OL.nsr
 apply oop; rfl; apply Pev.load_blkA; rfl; exact yes; exact .head _; rfl; exact Take.au
 apply oop; rfl; apply Pev.load_keptA; rfl; exact yes; exact .head _; rfl; intro hcond; assumption; rfl; intro hcond; assumption; intro hcond; exact NotOwned.au
 have hH : ∀ k, k < w.heap.size → NotOwned [blk bk 77 (ndC z)] k := fun k hk => NotOwned.blk (by omega) .nil
 (((first | (with_reducible apply OL.op) | (with_reducible apply QL.op)); (exact Guard.au); rfl; rfl); (exact Pev.call (v := .bool (sameN z.1 t.1)) rfl (by exact Args.au) (fun _ w2 hw2 => (same_calls z t w2 (hz.ext (hw2.toExt (s := w) (.head _) hH)) (ht.ext (hw2.toExt (s := w) (.head _) hH))).mono fun e w3 h => ⟨h.1, hw2.ext h.2⟩)))
 apply oas; rfl; rfl
 apply OL.nx
 apply W.ret
 ((with_reducible apply At.fin1); rfl; rfl; intro w' hw')
 exact ⟨rfl, hw'.toExt (.head _) hH⟩
theorem IndexN_calls (q : Option Addr) (cap : Nat) (ps : List NdE) (f : FuncId) (first caps : List Value) (p : NdE → Bool) (w : World) (hlen : ps.length ≤ 9223372036854775807) (h : SlAt w w.heap.size q (cat ndC ps))
  (hf : callable Try.prog f = true) (hp : ∀ s ∈ ps, ∀ w', Ext w w' → Calls Try.prog f (first ++ [Value.agg (ndC s).toArray] ++ caps).toArray w' fun e w'' => e = .returned (.bool (p s)) ∧ Ext w' w'') :
  Calls Try.prog 78 #[.slice q ps.length cap, .func (.func f) first.toArray caps.toArray] w fun e w' => e = .returned (.int .i64 (idxP p ps 0)) ∧ Ext w w' := by
 refine enter Try.func78 rfl Try.ntmps78 rfl (Cls.start w) ?_
 (simp only [argEnv, Nat.zero_add, Nat.reduceAdd])
 apply W.sr
 apply oas; rfl; rfl
 apply OL.nx
 apply W.seq
 apply W.sr
 apply omv; rfl; rfl
 apply oop; rfl; apply Pev.len_slice; rfl; exact yes; rfl
 apply omv; rfl; rfl
 apply OL.nx
 apply W.block
 refine W.loop (G := Nat) (fun i => i ≤ ps.length ∧ idxP p (ps.drop i) i = idxP p ps 0) (fun i => ps.length - i)
  (fun i => [(8, true, .int .i64 (i : Int)), (7, true, .int .i64 (ps.length : Int)), (0, true, .slice q ps.length cap), (1, true, .func (.func f) first.toArray caps.toArray)])
  (fun i => Cls [] [w]) 0 ⟨by omega, rfl⟩ (by exact Sub.au) (fun w' hw' => hw') ?_
 rintro i ⟨hi, hrest⟩
 apply W.sr
 apply obn; rfl; rfl; rfl; apply Bin.lss
 apply OL.nx
 apply W.seq
 (refine W.cnd (fun hlt => ?_) (fun hlt => ?_)) <;> (try (exfalso; first | omega | exact hlt trivial | contradiction))
 ·obtain ⟨a, u, rfl, hab, hu, hcell⟩ := h.elem ndC_len (by decide) (show i < ps.length by omega)
  have hab : a.block < w.heap.size := hab
  have hpu := fun w3 => hp u (List.mem_of_getElem? hu) w3
  simp only [ndC] at hpu hcell
  rw [idxP_get hu] at hrest
  apply W.sk
  apply W.sb
  apply W.sr
  apply omv; rfl; rfl
  apply oas; rfl; rfl
  apply OL.nsr
  apply omv; rfl; rfl
  apply omv; rfl; rfl
  apply omv; rfl; rfl
  apply oop; rfl; apply Pev.idx; rfl; exact yes; rfl; exact yes; rfl; rfl; intro hcond; omega
  apply oop; rfl; apply Pev.load_keptA; rfl; exact yes; exact .head _; rfl; intro hcond; assumption; rfl; intro hcond; (rw [add_block]; assumption); intro hcond; exact NotOwned.au
  (((first | (with_reducible apply OL.op) | (with_reducible apply QL.op)); (exact Guard.au); rfl; rfl); (apply Pev.callv (first := first) (cap := caps)); rfl; ((first | exact fun _ => rfl | exact fun h => h | (intro h; simp_all; done))); (exact hf); (exact Args.au); (exact (fun _ w2 hw2 => (hpu w2 (hw2.toExt (by exact mau) (fun k hk => by exact NotOwned.au))).mono (fun e w3 h => ⟨h.1, hw2.ext h.2⟩))))
  apply OL.nx
  refine W.cond rfl (fun heq => ?_) (fun heq => ?_)
  ·rw [if_pos heq] at hrest
   apply W.sr
   apply omv; rfl; rfl
   apply oas; rfl; rfl
   apply OL.nx
   refine W.rt ?_
   ((with_reducible apply At.fin1); rfl; rfl; intro w' hw')
   exact ⟨by rw [hrest], by (exact hw'.fr)⟩
  ·rw [if_neg (by simpa using heq)] at hrest
   apply W.skip
   with_reducible apply At.in_normal
   with_reducible apply At.next
   apply W.reg
   apply obn; rfl; rfl; rfl; apply Bin.add_in; omega
   apply omv; rfl; rfl
   apply OL.nil
   exact At.again (i + 1) ⟨by omega, hrest⟩ (by omega) (by exact Sub.au) (fun w' hw' => hw'.thin (by exact Thin.au))
 ·rw [idxP_end (by omega)] at hrest
  refine W.xt ?_
  with_reducible apply At.next
  apply W.sr
  apply oas; rfl; rfl
  apply OL.nx
  apply W.ret
  ((with_reducible apply At.fin1); rfl; rfl; intro w' hw')
  exact ⟨by rw [← hrest], by (exact hw'.fr)⟩
def bI (B bb bm : Nat) (g : BG) (X : Eng.Item) : List Eng.Item := [blk bb 68 [.map (some bm), .slice g.q g.outs.length g.c, .int .i64 (g.many : Int), .bool g.full], row B g.O g.q g.outs.length g.c 77 6 (cat ndC g.outs), arena B g.OA g.L, X]
theorem bI_no {B bb bm : Nat} {g : BG} {X : Eng.Item} (hbb : B ≤ bb) (hX : ∀ k, X.own k → B ≤ k) : ∀ k, k < B → NotOwned (bI B bb bm g X) k := fun k hk => NotOwned.blk (by omega) (NotOwned.row (by omega) (NotOwned.arena (by omega) (NotOwned.any (fun h => by have := hX k h; omega) .nil)))
theorem add_calls (s : World) (S : List World) (X : Eng.Item) (bb bm : Nat) (g : BG) (x : NdE) (w : World) (hs : s ∈ S) (hbb : s.heap.size ≤ bb) (hX : ∀ k, X.own k → s.heap.size ≤ k) (hl : g.outs.length ≤ 1000000) (hg : ∀ z ∈ g.outs, NdSeen s g.L z) (hx : NdSeen s g.L x) (hw : Cls (bI s.heap.size bb bm g X) S w) :
  Calls Try.prog 46 [.pointer (some ⟨bb, 0, none⟩), .agg (ndC x).toArray].toArray w fun e w' => ∃ g' : BG, e = .returned (.int .i64 (addN g.st x.1).2) ∧ g'.st = (addN g.st x.1).1 ∧ g'.L = g.L ∧ (∀ z ∈ g'.outs, NdSeen s g.L z) ∧ Cls (bI s.heap.size bb bm g' X) S w' := by
 obtain ⟨many, full, outs, O, q, c, OA, L⟩ := g
 simp only at hl hg hx
 refine enter Try.func46 rfl Try.ntmps46 rfl hw ?_
 have hbs : ∃ s' ∈ S, s.heap.size ≤ s'.heap.size := ⟨s, hs, Nat.le_refl _⟩
 have hno := bI_no (g := ⟨many, full, outs, O, q, c, OA, L⟩) (bm := bm) hbb hX
 unfold bI at hno ⊢
 simp only [ndC] at hno ⊢
 obtain ⟨ix, hix⟩ : ∃ ix, idxP (fun z : NdE => sameN z.1 x.1) outs 0 = ix := ⟨_, rfl⟩
 have hidN : idN (outs.map Prod.fst) x.1 = ix := by
  rw [← hix]
  exact idxP_map _ _ _ _
 have hixc := idxP_cases (fun z : NdE => sameN z.1 x.1) outs 0
 rw [hix] at hixc
 (simp only [argEnv, Nat.zero_add, Nat.reduceAdd])
 apply W.sr
 apply OL.box; rfl; rfl; exact CellsL.agg; intro bk hbk
 apply oas; rfl; rfl
 apply OL.nx
 apply W.seq
 apply W.sr
 apply omv; rfl; rfl
 apply oop; rfl; apply Pev.nil_ptr; rfl; exact yes
 apply ofa; rfl; rfl; rfl
 apply old; rfl; rfl; exact .tail _ (.head _); rfl; rfl
 apply oop; rfl; apply Pev.makeFunc; exact Args.au; exact Args.au
 have hbks := AllLe.mem hbk s hs
 (((first | (with_reducible apply OL.op) | (with_reducible apply QL.op)); (exact Guard.au); rfl; rfl); (refine Pev.call (v := .int .i64 ix) rfl (by exact Args.au) (fun _ w2 hw2 => ?_)))
 ·have hno2 : ∀ k, k < s.heap.size → NotOwned [blk bk 77 (ndC x), blk bb 68 [.map (some bm), .slice q outs.length c, .int .i64 (many : Int), .bool full], row s.heap.size O q outs.length c 77 6 (cat ndC outs), arena s.heap.size OA L, X] k := fun k hk => NotOwned.blk (by omega) (hno k hk)
  have hat : ∀ z, NdSeen s L z → NdAt w2 z := fun z hz => hz.at hw2 hs (.tail _ (.tail _ (.tail _ (.head _)))) hno2
  have hb := hw2.item (i := blk bk 77 (ndC x)) (.head _)
  have hbl := hw2.lt _ (.head _) bk rfl
  have hcx : CellsAt w2 ⟨bk, 0, none⟩ (ndC x) := fun j v hj => by
   rw [add_mid, blk_cell hb, Nat.zero_add]
   exact hj
  have hc := IndexN_calls q c outs 79 [] [.pointer (some ⟨bk, 0, none⟩)] (fun z => sameN z.1 x.1) w2 (by omega) (SlAt.of_row (hw2.item (i := row s.heap.size O q outs.length c 77 6 (cat ndC outs)) (.tail _ (.tail _ (.head _))))) rfl (fun z hz w3 hx3 => add1_calls z x bk w3 (cells_stab (hx3.block _ hbl id) hcx) (Nat.lt_of_lt_of_le hbl hx3.size) ((hat z (hg z hz)).ext hx3) ((hat x hx).ext hx3))
  rw [hix] at hc
  exact hc.mono (fun e w3 h => ⟨h.1, hw2.ext h.2⟩)
 apply oas; rfl; rfl
 apply OL.nsr
 apply omv; rfl; rfl
 apply obn; rfl; rfl; rfl; apply Bin.geq
 apply OL.nx
 have hst : (BG.st ⟨many, full, outs, O, q, c, OA, L⟩) = ⟨outs.map Prod.fst, many, full⟩ := rfl
 by_cases h0 : 0 ≤ ix
 ·have hadd : addN (BG.st ⟨many, full, outs, O, q, c, OA, L⟩) x.1 = (BG.st ⟨many, full, outs, O, q, c, OA, L⟩, ix) := by
   unfold addN
   rw [hst]
   simp only
   rw [hidN, if_pos h0]
  rw [hadd]
  refine W.cond rfl (fun _ => ?_) (fun hb => absurd (of_decide_eq_false hb) (by omega))
  clear hixc
  apply W.sr
  apply omv; rfl; rfl
  apply oas; rfl; rfl
  apply OL.nx
  refine W.rt ?_
  ((with_reducible apply At.fin1); rfl; rfl; intro w' hw')
  exact ⟨⟨many, full, outs, O, q, c, OA, L⟩, rfl, rfl, rfl, hg, hw'.thin (.blk hbk Thin.same)⟩
 have hadd : addN (BG.st ⟨many, full, outs, O, q, c, OA, L⟩) x.1 = (⟨outs.map Prod.fst ++ [x.1], many, full⟩, (outs.length : Int)) := by
  unfold addN
  rw [hst]
  simp only
  rw [hidN, if_neg h0, List.length_map]
 rw [hadd]
 clear hixc
 refine W.cond rfl (fun hb => absurd (of_decide_eq_true hb) h0) (fun _ => ?_)
 apply W.sk
 apply W.seq
 apply W.regz; apply ZSplit.pure rfl; apply ZSplit.pure rfl; apply ZSplit.pure rfl; apply ZSplit.pure rfl; apply ZSplit.pure rfl; apply ZSplit.pure rfl; apply ZSplit.tail; apply ZSplit.tail; apply ZSplit.tail; apply ZSplit.tail; apply ZSplit.tail; exact ZSplit.nil; kernel_rfl; decide +kernel; exact fun w hw => hw.drew
 apply ZL.op rfl; exact Guard.none; rfl; rfl; apply Pev.move; rfl; exact yes
 apply ZL.op rfl; exact Guard.none; rfl; rfl; apply Pev.move; rfl; exact yes
 apply ZL.op rfl; exact Guard.none; rfl; rfl; apply Pev.nil_ptr; rfl; exact yes
 apply ZL.op rfl; exact Guard.none; rfl; rfl; apply Pev.fld; rfl; exact yes; rfl
 apply ZL.ld rfl; exact Guard.none; rfl; rfl; apply Pev.load_blk; rfl; exact yes; exact .tail _ (.head _); rfl; rfl
 apply ZL.ld rfl; exact Guard.none; rfl; rfl; apply Pev.load_blkA; rfl; exact yes; exact .head _; rfl; exact Take.au
 apply ZL.nil
 apply TL.one rfl
 apply OL.buildSlice; rfl; rfl; rfl; exact Elems.au; rfl; rfl; intro bk hbk
 apply OL.nil
 refine At.tk (fun w hw => hw.thin ?_) ?_; exact Thin.au
 apply TL.one rfl
 apply OL.append; rfl; rfl; rfl; rfl; exact Hole.au; exact .head _; exact Take.au; rfl; rfl; assumption; omega; intro O1 g1 cap1
 apply OL.nil
 with_reducible apply At.tn; decide +kernel
 apply TL.one rfl
 apply oop; rfl; apply Pev.nil_ptr; rfl; exact yes
 apply OL.nil
 with_reducible apply At.tn; decide +kernel
 apply TL.one rfl
 apply ofa; rfl; rfl; rfl
 apply OL.nil
 with_reducible apply At.tn; decide +kernel
 apply TL.one rfl
 apply OL.storeB; rfl; rfl; exact CellsL.one rfl; rfl; rfl; rfl; exact Swap.au; exact Put.au
 apply OL.nil
 with_reducible apply At.tn; decide +kernel
 apply TL.nil
 with_reducible apply At.np
 with_reducible apply At.next
 apply W.sr
 apply omv; rfl; rfl
 apply oop; rfl; apply Pev.nil_ptr; rfl; exact yes
 apply ofa; rfl; rfl; rfl
 apply old; rfl; rfl; exact .tail _ (.tail _ (.head _)); rfl; rfl
 apply oop; rfl; apply Pev.len_slice; rfl; exact yes; rfl
 apply obn; rfl; rfl; rfl; apply Bin.sub_in; omega
 apply oas; rfl; rfl
 apply OL.nx
 apply W.ret
 have e1 : outs.length + 1 = (outs ++ [x]).length := by simp
 have e2 : cat ndC outs ++ [Value.int .i64 x.1.kind, .int .i64 x.1.row, .slice x.2.p.1 x.1.path.length x.2.p.2, .slice x.2.n.1 x.1.names.length x.2.n.2, .slice x.2.w.1 x.1.words.length x.2.w.2, .slice x.2.k.1 x.1.kids.length x.2.k.2] = cat ndC (outs ++ [x]) := by
  rw [cat_append, cat_one]
  rfl
 have e3 : ((outs.length + 1 : Nat) : Int) - 1 = (outs.length : Int) := by omega
 rw [e3, e1, e2]
 ((with_reducible apply At.fin1); rfl; rfl; intro w' hw')
 refine ⟨⟨many, full, outs ++ [x], O1, some ⟨g1, 0, none⟩, cap1, OA, L⟩, rfl, by simp [BG.st], rfl, fun z hz => ?_, hw'.thin (by exact Thin.au)⟩
 rcases List.mem_append.1 hz with hz | hz
 ·exact hg z hz
 ·rw [List.mem_singleton] at hz
  rw [hz]
  exact hx
end Go.Proofs.Ytleggdmhihcafaa.pt

/-
 DERIVED: THE SHELF's CONTRACTS AT THIS DUMP, IN PLAIN WORDS (tools/lay-plain.mjs out of 'YtleggdmhihcafaaShelfD.lean', which tools/lay-shelf.mjs wrote): THE SAME DECLARATIONS UNDER THE SAME NAMES: 'import', 'namespace', 'open', 'def', 'theorem' AND NOTHING ELSE: no command of the shelf's: FOR A HAND-IN. Each laying: the table of numbers ('.._ren') and one theorem, a field a fact of the dump's own or the kernel's comparison; each contract: ONE APPLICATION.
-/
namespace Go.Proofs
open Go.Shelf
def Try.growR_ren : Go.Shelf.Ren := ⟨fun | 4 => 77 | n => n, fun | 22 => 25 | 25 => 50 | 3 => 3 | 4 => 4 | 9 => 9 | 20 => 20 | 0 => 0 | n => n, fun | n => n⟩
theorem Try.growR : Go.Proofs.Lays8.n4 Try.prog Try.growR_ren := {
 mixed := by kernel_rfl
 f4 := ⟨Try.f77.name, by decide, Try.func77.trans (congrArg some (by kernel_rfl))⟩
 t0 := Try.underlying0
 a0 := Try.isAgg0
 z0 := Try.sizeOf0
 v0 := Try.zeroValue0
 t3 := Try.underlying3
 a3 := Try.isAgg3
 z3 := Try.sizeOf3
 v3 := Try.zeroValue3
 t4 := Try.underlying4
 a4 := Try.isAgg4
 z4 := Try.sizeOf4
 v4 := Try.zeroValue4
 t9 := Try.underlying9
 a9 := Try.isAgg9
 z9 := Try.sizeOf9
 v9 := Try.zeroValue9
 t20 := Try.underlying20
 a20 := Try.isAgg20
 z20 := Try.sizeOf20
 v20 := Try.zeroValue20
 t22 := Try.underlying25
 a22 := Try.isAgg25
 z22 := Try.sizeOf25
 v22 := Try.zeroValue25 }
end Go.Proofs

/- The walks of slices.Clone, DeleteFunc and Concat at []api.Pat. Conditions: none. -/
namespace Go.Proofs.Ytleggdmhihcafaa.pt
open Go.RowKit Go.Eng Go.Pt
set_option maxRecDepth 100000
theorem pat_len (p : Ty × PY) : (tyR.c p).length = 4 := rfl
theorem pat_one (p : Ty × PY) : oneL (tyR.c p) = true := rfl
theorem Clone_calls (q : Option Addr) (cap : Nat) (l : List (Ty × PY)) (w : World) (hlen : l.length ≤ 100000) (h : SlAt w w.heap.size q (cat tyR.c l)) :
  Calls Try.prog 41 #[.slice q l.length cap] w fun e w' => ∃ (q' : Option Addr) (cap' : Nat), e = .returned (.slice q' l.length cap') ∧ Ext w w' ∧
   (0 < l.length → ∃ (g : Nat) (rest : List Value), q' = some ⟨g, 0, none⟩ ∧ w.heap.size ≤ g ∧ (blk g 50 (cat tyR.c l ++ rest)).holds w' ∧ (cat tyR.c l ++ rest).length = cap' * 4) := by
 refine enter Try.func41 rfl Try.ntmps41 rfl (Cls.start w) ?_
 (simp only [argEnv, Nat.zero_add, Nat.reduceAdd])
 apply W.sr
 apply oas; rfl; rfl
 apply OL.nx
 apply W.seq
 apply W.sr
 apply omv; rfl; rfl
 apply obn; rfl; rfl; rfl; apply Bin.slice_nil; rfl
 apply OL.nx
 cases q with
 | none =>
  refine W.cond rfl (fun _ => ?_) (fun hc => by cases hc)
  have hl0 : l.length = 0 := by
   rcases Nat.eq_zero_or_pos l.length with h0 | h0
   ·exact h0
   ·obtain ⟨a, x, he, _⟩ := h.elem pat_len (by decide) h0
    cases he
  rw [hl0]
  apply W.sr
  apply oas; rfl; rfl
  apply OL.nx
  refine W.rt ?_
  ((with_reducible apply At.fin1); rfl; rfl; intro w' hw')
  exact ⟨none, 0, rfl, by (exact hw'.fr), fun h0 => by omega⟩
 | some a =>
  refine W.cond rfl (fun hc => by cases hc) (fun _ => ?_)
  apply W.sk
  apply W.sr
  apply OL.buildSlice; rfl; rfl; rfl; exact Elems.au; rfl; rfl; (intro bk hbk; simp only [AllLe, and_true] at hbk)
  apply omv; rfl; rfl
  refine OL.appendNew (news := cat tyR.c l) rfl rfl rfl rfl (by exact mau) (fun w2 hw2 j v hj => ?_) (cat_length pat_len l) (cat_oneL pat_one l) ⟨by unfold maxLen; omega, by omega⟩ (fun q' cap' => ?_)
  ·obtain ⟨a', he, hab, hc⟩ := (h.keep (hw2.below (s := w) (by exact mau) (Nat.le_refl _) (fun k hk => by exact NotOwned.au)) (hw2.kp w (by exact mau)).size) (Nat.lt_of_le_of_lt (Nat.zero_le _) (List.getElem?_eq_some_iff.1 hj).1)
   cases he
   exact hc j v hj
  apply oas; rfl; rfl
  apply OL.nx
  apply W.ret
  ((with_reducible apply At.fin1); rfl; rfl; intro w' hw')
  obtain ⟨w0, hw0, hk, hown⟩ := hw'
  have hx : Ext w w' := Ext_keep (hw0.toExt (s := w) (by exact mau) (fun k hk => by exact NotOwned.au)) hk hbk
  refine ⟨q', cap', rfl, hx, fun h0 => ?_⟩
  rcases hown.2 with ⟨_, h1⟩ | ⟨g, cap1, cur, he, hg, hh, h1, h2, h3, h4⟩
  ·omega
  ·simp only [Value.slice.injEq] at he
   obtain ⟨rfl, _, rfl⟩ := he
   have hl4 : cat tyR.c l = cur.toList.take (l.length * 4) := by rw [← h4]
   refine ⟨g, cur.toList.drop (l.length * 4), rfl, Nat.le_trans hbk hg, ?_, ?_⟩
   ·rw [hl4, List.take_append_drop]
    exact hh
   ·rw [hl4, List.take_append_drop]
    simpa using h3
theorem DeleteFunc_calls (g cap : Nat) (l : List (Ty × PY)) (rest : List Value) (f : FuncId) (first caps : List Value) (p : Ty → Bool) (w : World) (hlen : l.length ≤ 100000) (hb : (blk g 50 (cat tyR.c l ++ rest)).holds w) (hcap : (cat tyR.c l ++ rest).length = cap * 4)
  (hf : callable Try.prog f = true) (hp : ∀ s ∈ l, ∀ w', Calls Try.prog f (first ++ [Value.agg (tyc s.1 s.2).toArray] ++ caps).toArray w' fun e w'' => e = .returned (.bool (p s.1)) ∧ Ext w' w'') :
  Calls Try.prog 69 #[.slice (some ⟨g, 0, none⟩) l.length cap, .func (.func f) first.toArray caps.toArray] w fun e w' => e = .returned (.slice (some ⟨g, 0, none⟩) (l.filter (fun x => !p x.1)).length cap) ∧
   ∃ rest', (blk g 50 (cat tyR.c (l.filter (fun x => !p x.1)) ++ rest')).holds w' ∧ (cat tyR.c (l.filter (fun x => !p x.1)) ++ rest').length = cap * 4 ∧ Keep (fun k => k = g) w w' := by
 have hlc : l.length ≤ cap := by
  rw [List.length_append, cat_length pat_len] at hcap; omega
 refine enter Try.func69 rfl Try.ntmps69 rfl (Cls.start_blk hb) ?_
 (simp only [argEnv, Nat.zero_add, Nat.reduceAdd])
 apply W.sr
 apply oas; rfl; rfl
 apply OL.nsr
 apply omv; rfl; rfl
 apply omv; rfl; rfl
 (((first | (with_reducible apply OL.op) | (with_reducible apply QL.op)); (exact Guard.au); rfl; rfl); (exact Pev.call rfl (by exact Args.au) (fun _ w2 hw2 => (IndexFunc_calls (some ⟨g, 0, none⟩) cap l f first caps p w2 (by omega) (SlAt.of_blk (o := 0) (hw2.item (i := blk g 50 (cat tyR.c l ++ rest)) (by exact mau)) (fun j v hj => by rw [Nat.zero_add, List.getElem?_append_left (List.getElem?_eq_some_iff.1 hj).1]; exact hj)) hf (fun s hs w3 _ => hp s hs w3)).mono (fun e w3 h => ⟨h.1, hw2.ext h.2⟩))))
 apply oas; rfl; rfl
 apply OL.nx
 apply W.seq
 apply W.sr
 apply omv; rfl; rfl
 apply obn; rfl; rfl; rfl; apply Bin.eql
 apply OL.nx
 rw [idxF_P]
 rcases idxP_cases (fun x : Ty × PY => p x.1) l 0 with ⟨hm1, hall⟩ | ⟨k0, x0, hx0, hpx, hk0, hbef⟩
 ·rw [hm1]
  refine W.cond rfl (fun _ => ?_) (fun hc => by simp at hc)
  apply W.sr
  apply omv; rfl; rfl
  apply oas; rfl; rfl
  apply OL.nx
  refine W.rt ?_
  ((with_reducible apply At.fin1); rfl; rfl; intro w' hw')
  have hfl : l.filter (fun x => !p x.1) = l := List.filter_eq_self.2 (fun x hx => by rw [hall x hx]; rfl)
  rw [hfl]
  exact ⟨rfl, rest, hw'.item (by exact mau), hcap, by (exact hw'.toKeep (by exact mau) (fun k hk (hO : ¬ k = g) => by exact NotOwned.au))⟩
 ·have hk0l := (List.getElem?_eq_some_iff.1 hx0).1
  rw [hk0, Nat.zero_add]
  refine W.cond rfl (fun hc => by simp at hc) (fun _ => ?_)
  apply W.sk
  apply W.seq
  apply W.sr
  apply omv; rfl; rfl
  apply obn; rfl; rfl; rfl; apply Bin.add_in; omega
  apply oas; rfl; rfl
  apply OL.nx
  apply W.block
  have hstart : (l.take (k0 + 1)).filter (fun x => !p x.1) = l.take k0 := by
   rw [List.take_add_one, hx0, List.filter_append, List.filter_eq_self.2 (fun x hx => by rw [hbef x hx]; rfl)]
   simp [hpx]
  refine W.loop (G := Nat × List Value) (fun j => j.1 ≤ l.length ∧ ((l.take j.1).filter (fun x => !p x.1)).length < j.1 ∧ j.2.length = cap * 4 ∧ j.2.take (((l.take j.1).filter (fun x => !p x.1)).length * 4) = cat tyR.c ((l.take j.1).filter (fun x => !p x.1)) ∧ j.2.drop (j.1 * 4) = (cat tyR.c l ++ rest).drop (j.1 * 4)) (fun j => l.length - j.1)
   (fun j => [(6, true, .int .i64 (j.1 : Int)), (5, true, .int .i64 (((l.take j.1).filter (fun x => !p x.1)).length : Int)), (0, true, .slice (some ⟨g, 0, none⟩) l.length cap), (1, true, .func (.func f) first.toArray caps.toArray)])
   (fun j => Cls [blk g 50 j.2] [w]) (k0 + 1, cat tyR.c l ++ rest) ⟨by simp only; omega, by rw [hstart, List.length_take]; omega, hcap, by
    simp only [hstart]
    rw [List.length_take, Nat.min_eq_left (by omega), List.take_append_of_le_length (by rw [cat_length pat_len]; omega), cat_take pat_len], rfl⟩ (by simp only [hstart, List.length_take, Nat.min_eq_left (Nat.le_of_lt hk0l)]; exact Sub.au) (fun w' hw' => hw') ?_
  rintro ⟨j, c⟩ ⟨hjl, hkj, hcl, hct, hcd⟩
  simp only at hjl hkj hcl hct hcd ⊢
  generalize hkd : (l.take j).filter (fun x => !p x.1) = kept at hkj hct ⊢
  apply W.seq
  apply W.sr
  apply omv; rfl; rfl
  apply omv; rfl; rfl
  apply oop; rfl; apply Pev.len_slice; rfl; exact yes; rfl
  apply obn; rfl; rfl; rfl; apply Bin.lss
  apply OL.nx
  (refine W.cnd (fun hlt => ?_) (fun hlt => ?_)) <;> (try (exfalso; first | omega | exact hlt trivial | contradiction))
  ·have hjl2 : j < l.length := by omega
   have hu : l[j]? = some l[j] := List.getElem?_eq_getElem hjl2
   generalize hue : l[j] = u at hu
   have hcu : ∀ (k : Nat) (v : Value), (tyR.c u)[k]? = some v → c[j * 4 + k]? = some v := fun k v hk => by
    have h1 := cat_get pat_len hu k v hk
    have h2 : ((cat tyR.c l ++ rest).drop (j * 4))[k]? = some v := by
     rw [List.getElem?_drop, List.getElem?_append_left (List.getElem?_eq_some_iff.1 h1).1]; exact h1
    rw [← hcd, List.getElem?_drop] at h2
    exact h2
   have hnext : (l.take (j + 1)).filter (fun x => !p x.1) = if p u.1 then kept else kept ++ [u] := by
    rw [List.take_add_one, hu, List.filter_append, hkd]
    cases hpu : p u.1 <;> simp [hpu]
   apply W.sk
   apply W.sb
   apply W.sr
   apply omv; rfl; rfl
   apply omv; rfl; rfl
   apply oop; rfl; apply Pev.idxB; rfl; exact yes; rfl; exact yes; rfl; intro hcond; omega; rfl
   (((first | (with_reducible apply OL.op) | (with_reducible apply QL.op)); (exact Guard.au); rfl; rfl); (refine Pev.load_clsA (vs := tyR.c u) rfl (by (first | exact fun _ => rfl | exact fun h => h | (intro h; simp_all; done))) rfl rfl (fun _ w2 hw2 k v hk => ?_)))
   ·rw [add_mid, blk_cell (hw2.item (i := blk g 50 c) (by exact mau))]
    have := hcu k v hk
    rwa [show 0 + (j : Int).toNat * 4 + k = j * 4 + k by omega]
   apply OL.alloc; rfl; rfl; exact CellsL.agg; (intro bk hbk; simp only [AllLe, and_true] at hbk)
   apply OL.storeB; rfl; rfl; exact CellsL.agg; rfl; rfl; rfl; exact Swap.au; exact Put.au
   apply OL.nsr
   apply omv; rfl; rfl
   apply oop; rfl; apply Pev.load_blkA; rfl; exact yes; exact .head _; rfl; exact Take.au
   (((first | (with_reducible apply OL.op) | (with_reducible apply QL.op)); (exact Guard.au); rfl; rfl); (apply Pev.callv (first := first) (cap := caps) (vs := [Value.agg (tyc u.1 u.2).toArray])); rfl; ((first | exact fun _ => rfl | exact fun h => h | (intro h; simp_all; done))); (exact hf); (exact Args.au); (exact (fun _ w2 hw2 => (hp u (List.mem_of_getElem? hu) w2).mono (fun e w3 h => ⟨h.1, hw2.ext h.2⟩))))
   apply oop; rfl; apply Pev.not; rfl; exact yes
   apply OL.nx
   refine W.cond rfl (fun hc => ?_) (fun hc => ?_)
   ·have hpu : p u.1 = false := by simpa using hc
    rw [hpu] at hnext
    simp only [Bool.false_eq_true, if_false] at hnext
    apply W.sr
    apply omv; rfl; rfl
    apply omv; rfl; rfl
    apply oop; rfl; apply Pev.load_blkA; rfl; exact yes; exact .head _; rfl; exact Take.au
    apply oop; rfl; apply Pev.idxB; rfl; exact yes; rfl; exact yes; rfl; intro hcond; omega; rfl
    rw [show 0 + (kept.length : Int).toNat * 4 = kept.length * 4 by omega]
    (refine OL.storeL (vs := tyR.c u) (p := 1) rfl rfl rfl rfl rfl rfl ⟨by rw [hcl]; simp only [pat_len]; omega, rfl⟩ (by exact Swap.au) ?_)
    have hf2 : kept.length * 4 + (tyR.c u).length ≤ c.length := by rw [hcl, pat_len]; omega
    apply OL.nx
    apply W.reg
    apply omv; rfl; rfl
    apply obn; rfl; rfl; rfl; apply Bin.add_in; omega
    apply oas; rfl; rfl
    apply OL.nil
    with_reducible apply At.in_normal
    with_reducible apply At.next
    apply W.reg
    apply omv; rfl; rfl
    apply obn; rfl; rfl; rfl; apply Bin.add_in; omega
    apply oas; rfl; rfl
    apply OL.nil
    refine At.again (j + 1, putL c (kept.length * 4) (tyR.c u)) ⟨by simp only; omega, by simp only [hnext, List.length_append, List.length_cons, List.length_nil]; omega, by simp only [putL_length']; exact hcl, ?_, ?_⟩ (by simp only; omega) ?_ (fun w' hw' => hw'.thin (by exact Thin.au))
    ·simp only [hnext, List.length_append, List.length_cons, List.length_nil, Nat.zero_add, Nat.add_mul, Nat.one_mul]
     rw [show kept.length * 4 + 4 = kept.length * 4 + (tyR.c u).length from rfl, putL_take2 hf2, hct, cat_append, cat_one]
    ·simp only
     rw [putL_drop hf2 (by rw [pat_len]; omega), show (j + 1) * 4 = j * 4 + 4 by omega, ← List.drop_drop, hcd, List.drop_drop]
    ·simp only [hnext, List.length_append, List.length_cons, List.length_nil, Nat.zero_add]; exact Sub.au
   ·have hpu : p u.1 = true := by simpa using hc
    rw [hpu, if_pos rfl] at hnext
    apply W.skip
    with_reducible apply At.in_normal
    with_reducible apply At.next
    apply W.reg
    apply omv; rfl; rfl
    apply obn; rfl; rfl; rfl; apply Bin.add_in; omega
    apply oas; rfl; rfl
    apply OL.nil
    refine At.again (j + 1, c) ⟨by simp only; omega, by simp only [hnext]; omega, hcl, by simp only [hnext]; exact hct, ?_⟩ (by simp only; omega) (by simp only [hnext]; exact Sub.au) (fun w' hw' => hw'.thin (by exact Thin.au))
    simp only
    rw [show (j + 1) * 4 = j * 4 + 4 by omega, ← List.drop_drop, hcd, List.drop_drop]
  ·obtain rfl : j = l.length := by omega
   rw [List.take_length] at hkd
   rw [hkd]
   refine W.xt ?_
   with_reducible apply At.next
   apply W.sr
   apply omv; rfl; rfl
   apply omv; rfl; rfl
   apply oop; rfl; apply Pev.slice_lo; rfl; exact yes; rfl; exact yes; rfl; rfl; intro hcond; omega
   (refine OL.clear (b := g) (o := kept.length * 4) rfl rfl rfl CellsL.agg rfl rfl .z (fun hm => ⟨by simp [cutq, show ¬ cap = kept.length by omega, add_mid], by rw [hcl]; omega⟩) (fun c' hc1 hc2 => ?_))
   apply OL.nsr
   apply omv; rfl; rfl
   apply omv; rfl; rfl
   apply oop; rfl; apply Pev.slice_hi; rfl; exact yes; rfl; exact yes; rfl; rfl; intro hcond; omega
   apply oas; rfl; rfl
   apply OL.nx
   apply W.ret
   ((with_reducible apply At.fin1); rfl; rfl; intro w' hw')
   refine ⟨rfl, c'.drop (kept.length * 4), ?_, ?_, by (exact hw'.toKeep (by exact mau) (fun k hk (hO : ¬ k = g) => by exact NotOwned.au))⟩
   ·rw [← hct, ← hc2, List.take_append_drop]
    exact hw'.item (by exact mau)
   ·rw [← hct, ← hc2, List.take_append_drop, hc1]
    exact hcl
abbrev Par := List (Ty × PY) × PY
def slP (r : Par) : Value := .slice r.2.1 r.1.length r.2.2
def parC (r : Par) : List Value := cat tyR.c r.1
def cntR (L : List Par) : Nat := (L.map fun r => r.1.length).sum
theorem cntR_take (L : List Par) (k : Nat) {r : Par} (h : L[k]? = some r) : cntR (L.take (k + 1)) = cntR (L.take k) + r.1.length := by
 unfold cntR
 rw [List.take_add_one, h, Option.toList_some, List.map_append, List.sum_append]
 simp
theorem cntR_le : ∀ (L : List Par) (k : Nat), cntR (L.take k) ≤ cntR L
 | [], k => by simp [cntR]
 | r :: L, 0 => by simp [cntR]
 | r :: L, k + 1 => by
  have := cntR_le L k
  simp only [cntR, List.take_succ_cons, List.map_cons, List.sum_cons] at this ⊢
  omega
theorem madeZ (z : Array Value) (n : Nat) : (Builtin.zeroCells z n).size = n * z.size := by simp [Builtin.zeroCells]
structure GR where
 O : Nat → Prop
 q : Option Addr
 c : Nat
theorem Grow_calls (n : Nat) (w w2 : World) (hw2 : Cls [] [w] w2) (hn : n ≤ 1000000000) :
  Calls Try.prog 77 [.slice none 0 0, .int .i64 (n : Int)].toArray w2 fun e w' => ∃ O q c, e = .returned (.slice q 0 c) ∧ Cls [row w.heap.size O q 0 c 50 4 []] [w] w' := by
 by_cases h0 : n = 0
 ·rw [h0]
  refine (Any8.slices_Grow_room Try.growR none 0 0 0 w2 (by omega) (by omega) (by omega) (by omega)).mono fun e w' ⟨h1, h2⟩ => ⟨fun _ => False, none, 0, h1, ?_⟩
  rw [h2]
  exact hw2.row_nil w.heap.size 50 4
 ·obtain ⟨i0, hi, hz0, hz1, hz2⟩ := info_parts (P := Try.prog) (e := 50) (z := .agg #[.int .i64 0, .string ⟨#[]⟩, .int .i64 0, .slice none 0 0]) (size := 4) (bytes := 56) rfl
  refine (Any8.slices_Grow_grow Try.growR i0 _ hi hz0 (by omega) none 0 0 n [] w2 (by omega) (by omega) (by rw [hz2]; omega) (by omega) (by simp) (fun _ => rfl) (fun a ha => by cases ha)).mono fun e w' ⟨h1, h2⟩ => ?_
  have hG1 := grownCap_ge w2 (0 + n) 0 (Try.growR_ren.t 25)
  have hG2 : grownCap w2 (0 + n) 0 (Try.growR_ren.t 25) ≤ maxLen := grownCap_le_maxLen w2 _ _ _ (by simp only [maxLen]; omega)
  generalize grownCap w2 (0 + n) 0 (Try.growR_ren.t 25) = G at *
  have hcs : (([] : List Value).toArray ++ Builtin.zeroCells (Value.agg #[.int .i64 0, .string ⟨#[]⟩, .int .i64 0, .slice none 0 0]).cells (0 + n - 0) ++ Builtin.zeroCells (Value.agg #[.int .i64 0, .string ⟨#[]⟩, .int .i64 0, .slice none 0 0]).cells (G - (0 + n))).size = G * 4 := by
   have hz4 : (Value.agg #[.int .i64 0, .string ⟨#[]⟩, .int .i64 0, .slice none 0 0]).cells.size = 4 := rfl
   rw [Array.size_append, Array.size_append, madeZ, madeZ, hz4, List.size_toArray, List.length_nil]
   omega
  generalize (([] : List Value).toArray ++ Builtin.zeroCells (Value.agg #[.int .i64 0, .string ⟨#[]⟩, .int .i64 0, .slice none 0 0]).cells (0 + n - 0) ++ Builtin.zeroCells (Value.agg #[.int .i64 0, .string ⟨#[]⟩, .int .i64 0, .slice none 0 0]).cells (G - (0 + n))) = cs at *
  have hh : w'.heap[w2.heap.size]? = some (.cells cs 50 (0, 0)) := by rw [h2]; exact heap_alloc_new w2.drew _
  have hx : Ext w2 w' := by
   rw [h2]
   exact Keep.trans (b := w2.drew) ⟨rfl, rfl, rfl, Nat.le_refl _, fun _ _ _ => rfl⟩ (ext_alloc _ _)
  refine ⟨fun k => k = w2.heap.size, some ⟨w2.heap.size, 0, none⟩, G, h1, ?_⟩
  refine hw2.add hx _ ⟨fun a ha => by cases ha; rfl, by simp, .inr ⟨w2.heap.size, G, cs, rfl, (hw2.kp w (.head _)).size, hh, Nat.zero_le _, hG2, hcs, by simp⟩⟩ (fun k hk => ?_)
  have hk2 : k = w2.heap.size := hk.2
  rw [hk2]
  exact ⟨Nat.le_refl _, (Array.getElem?_eq_some_iff.1 hh).1⟩
theorem Concat_calls (bP : Nat) (L : List Par) (w : World) (hb : (blk bP 25 (L.map slP)).holds w) (hL : ∀ r ∈ L, Arr tyR w (low w) r.1 r.2.1) (hl : L.length ≤ 1000000) (ht : cntR L ≤ 1000000000) :
  Calls Try.prog 43 [.slice (some ⟨bP, 0, none⟩) L.length L.length].toArray w fun e w' => ∃ O q c, e = .returned (.slice q (cntR L) c) ∧ Cls [row w.heap.size O q (cntR L) c 50 4 (L.flatMap parC)] [w] w' := by
 have hbP := blk_lt hb
 refine enter Try.func43 rfl Try.ntmps43 rfl (Cls.start w) ?_
 (simp only [argEnv, Nat.zero_add, Nat.reduceAdd])
 apply W.sr
 apply oas; rfl; rfl
 apply OL.nsr
 apply oas; rfl; rfl
 apply OL.nx
 apply W.seq
 apply W.sr
 apply omv; rfl; rfl
 apply oop; rfl; apply Pev.len_slice; rfl; exact yes; rfl
 apply omv; rfl; rfl
 apply OL.nx
 apply W.block
 refine W.loop (G := Nat) (fun k => k ≤ L.length) (fun k => L.length - k)
  (fun k => [(0, true, .slice (some ⟨bP, 0, none⟩) L.length L.length), (3, true, .int .i64 (cntR (L.take k) : Int)), (9, true, .slice (some ⟨bP, 0, none⟩) L.length L.length), (10, true, .int .i64 (L.length : Int)), (11, true, .int .i64 (k : Int))])
  (fun _ => Cls [] [w]) 0 (by omega) (by exact Sub.au) (fun w' hw' => hw') ?_
 rintro k hk
 apply W.sr
 apply obn; rfl; rfl; rfl; apply Bin.lss
 apply OL.nx
 apply W.seq
 (refine W.cnd (fun hlt => ?_) (fun hlt => ?_)) <;> (try (exfalso; first | omega | exact hlt trivial | contradiction))
 ·have hkl : k < L.length := by omega
  obtain ⟨r, hr⟩ : ∃ r, L[k]? = some r := ⟨_, List.getElem?_eq_getElem hkl⟩
  have hc : w.cell? ⟨bP, 0 + (k : Int).toNat * 1, none⟩ = some (.slice r.2.1 r.1.length r.2.2) := by
   rw [blk_cell hb, show 0 + (k : Int).toNat * 1 = k by omega, List.getElem?_map, hr]; rfl
  have h1 := cntR_take L k hr
  have h2 := cntR_le L (k + 1)
  apply W.sk
  apply W.sb
  apply W.sr
  apply oop; rfl; apply Pev.idxB; rfl; exact yes; rfl; exact yes; rfl; intro hcond; omega; rfl
  apply oop; rfl; apply Pev.load_kept; rfl; exact yes; exact .head _; rfl; intro hcond; assumption; intro hcond; assumption; intro hcond; exact NotOwned.au
  apply oas; rfl; rfl
  apply OL.nsr
  apply omv; rfl; rfl
  apply omv; rfl; rfl
  apply oop; rfl; apply Pev.len_slice; rfl; exact yes; rfl
  apply obn; rfl; rfl; rfl; apply Bin.add_in; omega
  apply oas; rfl; rfl
  apply OL.nsr
  apply omv; rfl; rfl
  apply obn; rfl; rfl; rfl; apply Bin.lss
  apply OL.nx
  refine W.cond rfl (fun h => by simp at h; omega) (fun _ => ?_)
  apply W.skip
  with_reducible apply At.in_normal
  with_reducible apply At.next
  apply W.reg
  apply obn; rfl; rfl; rfl; apply Bin.add_in; omega
  apply omv; rfl; rfl
  apply OL.nil
  exact At.again (k + 1) (by omega) (by omega) (by rw [h1]; exact Sub.au) (fun w' hw' => hw')
 obtain rfl : k = L.length := by omega
 rw [List.take_length]
 have hGrow := fun w2 (hw2 : Cls [] [w] w2) => Grow_calls (cntR L) w w2 hw2 ht
 refine W.xt ?_
 with_reducible apply At.next
 apply W.sr
 apply omv; rfl; rfl
 refine OL.callE (α := GR) (fun z => .slice z.q 0 z.c) (fun _ => True) (fun z => Cls [row w.heap.size z.O z.q 0 z.c 50 4 []] [w]) rfl rfl (by exact Args.au) (fun w2 hw2 => (hGrow w2 hw2).mono fun e w3 ⟨O, q, c, h1, h2⟩ => ⟨⟨O, q, c⟩, h1, trivial, h2⟩) ?_
 rintro ⟨O1, q1, c1⟩ _
 simp only
 apply oas; rfl; rfl
 apply OL.nx
 apply W.seq
 apply W.sr
 apply omv; rfl; rfl
 apply oop; rfl; apply Pev.len_slice; rfl; exact yes; rfl
 apply omv; rfl; rfl
 apply OL.nx
 apply W.block
 refine W.loop (G := Nat × GR) (fun g => g.1 ≤ L.length) (fun g => L.length - g.1)
  (fun g => [(6, true, .slice g.2.q (cntR (L.take g.1)) g.2.c), (25, true, .slice (some ⟨bP, 0, none⟩) L.length L.length), (26, true, .int .i64 (L.length : Int)), (27, true, .int .i64 (g.1 : Int))])
  (fun g => Cls [row w.heap.size g.2.O g.2.q (cntR (L.take g.1)) g.2.c 50 4 ((L.take g.1).flatMap parC)] [w]) (0, ⟨O1, q1, c1⟩) (by simp) (by exact Sub.au) (fun w' hw' => by simpa [cntR] using hw') ?_
 rintro ⟨k, ⟨O2, q2, c2⟩⟩ hk
 simp only at hk ⊢
 apply W.sr
 apply obn; rfl; rfl; rfl; apply Bin.lss
 apply OL.nx
 apply W.seq
 (refine W.cnd (fun hlt2 => ?_) (fun hlt2 => ?_)) <;> (try (exfalso; first | omega | exact hlt2 trivial | contradiction))
 ·have hkl : k < L.length := by omega
  obtain ⟨r, hr⟩ : ∃ r, L[k]? = some r := ⟨_, List.getElem?_eq_getElem hkl⟩
  have hc : w.cell? ⟨bP, 0 + (k : Int).toNat * 1, none⟩ = some (.slice r.2.1 r.1.length r.2.2) := by
   rw [blk_cell hb, show 0 + (k : Int).toNat * 1 = k by omega, List.getElem?_map, hr]; rfl
  have h1 := cntR_take L k hr
  have h2 := cntR_le L (k + 1)
  have h3 : (L.take (k + 1)).flatMap parC = (L.take k).flatMap parC ++ cat tyR.c r.1 := by
   rw [List.take_add_one, hr, Option.toList_some, List.flatMap_append]
   simp [parC]
  have h4 := (hL r (List.mem_of_getElem? hr)).slAt
  apply W.sk
  apply W.sb
  apply W.sr
  apply oop; rfl; apply Pev.idxB; rfl; exact yes; rfl; exact yes; rfl; intro hcond; omega; rfl
  apply oop; rfl; apply Pev.load_kept; rfl; exact yes; exact .head _; rfl; intro hcond; assumption; intro hcond; assumption; intro hcond; exact NotOwned.au
  apply oas; rfl; rfl
  apply OL.nx
  apply W.reg
  apply omv; rfl; rfl
  apply omv; rfl; rfl
  (apply OL.appendK (news := cat tyR.c r.1)); rfl; rfl; rfl; rfl; (exact Hole.au); (exact fun w2 hw2 => h4.keep (hw2.below (s := w) (by exact mau) (Nat.le_refl _) (fun k hk => NotOwned.row (by omega) NotOwned.nil)) (hw2.kp w (by exact mau)).size); (exact cat_length pat_len _); (exact cat_oneL pat_one _); (exact ⟨w, .head _, Nat.le_refl _⟩); (omega); (intro O3 q3 c3)
  apply oas; rfl; rfl
  apply OL.nil
  with_reducible apply At.in_normal
  with_reducible apply At.next
  apply W.reg
  apply obn; rfl; rfl; rfl; apply Bin.add_in; omega
  apply omv; rfl; rfl
  apply OL.nil
  exact At.again (k + 1, ⟨O3, q3, c3⟩) (by simp only; omega) (by simp only; omega) (by simp only [h1]; exact Sub.au) (fun w' hw' => by simp only [h1, h3]; exact hw')
 obtain rfl : k = L.length := by omega
 rw [List.take_length]
 refine W.xt ?_
 with_reducible apply At.next
 apply W.sr
 apply omv; rfl; rfl
 apply oas; rfl; rfl
 apply OL.nx
 apply W.ret
 ((with_reducible apply At.fin1); rfl; rfl; intro w' hw')
 exact ⟨O2, q2, c2, rfl, hw'⟩
theorem flat_cat (L : List Par) : L.flatMap parC = cat tyR.c (L.flatMap fun r => r.1) := by
 induction L with
 | nil => rfl
 | cons r L ih => rw [List.flatMap_cons, List.flatMap_cons, cat_append, ih]; rfl
theorem Concat2_calls (bP na nb : Nat) (a b : List (Ty × PY)) (qa qb : Option Addr) (ca cb : Nat) (w : World) (hb : (blk bP 25 [.slice qa na ca, .slice qb nb cb]).holds w) (hna : a.length = na) (hnb : b.length = nb) (h1 : Arr tyR w (low w) a qa) (h2 : Arr tyR w (low w) b qb) (hl : na + nb ≤ 1000000000) :
  Calls Try.prog 43 [.slice (some ⟨bP, 0, none⟩) 2 2].toArray w fun e w' => ∃ q c, e = .returned (.slice q (na + nb) c) ∧ na + nb ≤ c ∧ FrA w w' (a ++ b) q ∧ Ext w w' := by
 subst hna
 subst hnb
 have hc : cntR [(a, (qa, ca)), (b, (qb, cb))] = a.length + b.length := by simp [cntR]
 refine (Concat_calls bP [(a, (qa, ca)), (b, (qb, cb))] w hb (fun r hr => ?_) (by simp) (by rw [hc]; exact hl)).mono ?_
 ·rcases List.mem_cons.1 hr with rfl | hr
  ·exact h1
  ·rw [List.mem_singleton] at hr
   subst hr
   exact h2
 ·rintro e w' ⟨O, q, c, h3, h4⟩
  rw [hc] at h3 h4
  rw [flat_cat, show ([(a, (qa, ca)), (b, (qb, cb))].flatMap fun r : Par => r.1) = a ++ b by simp] at h4
  have hx : Ext w w' := h4.toExt (.head _) (fun k hk => NotOwned.row hk .nil)
  exact ⟨q, c, h3, row_cap (h4.item (.head _)), FrA.of_row h4 (.head _), hx⟩
end Go.Proofs.Ytleggdmhihcafaa.pt

/- The walk of patterns.narrow. Conditions: none. -/
namespace Go.Pt
open Go.Eng Go.RowKit
theorem pat_kids {w : World} {O : Nat → Prop} : ∀ {p : Ty} {y : PY}, TyO w O p y → ∃ pz : List (Ty × PY), pz.map Prod.fst = p.args ∧ Arr tyR w O pz y.1 ∧ p.args.length ≤ 9223372036854775807 ∧ I64 p.kind ∧ I64 p.var
 | .mk k nm n l, y, h => by
  obtain ⟨h1, h2, h3, pz, h4, h5⟩ := h.parts
  exact ⟨pz, h4, h5, h3, h1, h2⟩
theorem Cls.fra {H : List Eng.Item} {S : List World} {w w' : World} {q : Option Addr} {c : Nat} {ps : List (Ty × PY)} (h : Cls H S w) (he : Ext w w') (hF : FrA w w' ps q) : Cls (pile w.heap.size (fun k => k < w'.heap.size) [⟨q, c, cat tyR.c ps⟩] :: H) S w' :=
 h.add he _ (fun s hs hl => by
  obtain rfl := List.mem_singleton.1 hs
  have hp : 0 < ps.length := by
   have hl : 0 < (cat tyR.c ps).length := hl
   rw [cat_length (f := tyR.c) tyR.clen] at hl
   exact Nat.pos_of_mul_pos_right hl
  obtain ⟨a, h1, h2, h3⟩ := hF hp
  exact ⟨a, h1, h2, h3⟩) (fun k hk => hk)
theorem pile_arr {w : World} {B : Nat} {O : Nat → Prop} {q : Option Addr} {c : Nat} {ps : List (Ty × PY)} (h : (pile B O [⟨q, c, cat tyR.c ps⟩]).holds w) (hel : ∀ p ∈ ps, TyO w (low w) p.1 p.2) : Arr tyR w (low w) ps q := Arr.of_sl (pile_at h (.head _)) hel
theorem pool_arr {H : List Eng.Item} {S : List World} {w0 w : World} {B m cap : Nat} {O O2 : Nat → Prop} {q : Option Addr} {e : TypeId} {l : List (List (Ty × PY) × PY)} (hc : Cls H S w) (h1 : row B O q m cap e 1 (cat (patsE (fun p => TyO w0 (low w0) p.1 p.2)).c l) ∈ H) (h2 : pool (patsE (fun p => TyO w0 (low w0) p.1 p.2)) B O2 l ∈ H) (hx : Ext w0 w) : Arr patsR w (low w) (l.map fun r => (r.1.map Prod.fst, r.2)) q := by
 have hcat : ∀ l : List (List (Ty × PY) × PY), cat patsR.c (l.map fun r => (r.1.map Prod.fst, r.2)) = cat (patsE (fun p => TyO w0 (low w0) p.1 p.2)).c l := fun l => by
  induction l with
  | nil => rfl
  | cons r l ih =>
   simp only [List.map_cons, cat]
   rw [ih]
   show [Value.slice r.2.1 (r.1.map Prod.fst).length r.2.2] ++ _ = [Value.slice r.2.1 r.1.length r.2.2] ++ _
   rw [List.length_map]
 refine Arr.of_sl (by rw [hcat]; exact SlAt.of_row (hc.item h1)) (fun p hp => ?_)
 obtain ⟨r, hr, rfl⟩ := List.mem_map.1 hp
 have hpool := hc.item h2 r hr
 obtain ⟨g1, g2, g3, g4⟩ := hpool
 refine ⟨⟨r.1, rfl, Arr.of_sl (fun hl => ?_) (fun p hp => Rel.ext (R := tyR) (g4 p hp) hx)⟩, by rw [List.length_map]; exact g2, by rw [List.length_map]; exact g3⟩
 obtain ⟨a, k1, k2, k3⟩ := g1 (by
  rw [cat_length (f := tyR.c) tyR.clen] at hl
  exact Nat.pos_of_mul_pos_right hl)
 exact ⟨a, k1, hc.lt _ h2 _ k2, k3⟩
end Go.Pt
namespace Go.Proofs.Ytleggdmhihcafaa.pt
open Go.RowKit Go.Eng Go.Pt
set_option maxRecDepth 100000
theorem narrow_step {rs : List (List Ty × PY)} {i : Nat} {p : Ty} {t : List Ty} {y : PY} (nm : ByteArray) (many : Nat) (h : rs[i]? = some (p :: t, y)) : narrow ((rs.take (i + 1)).map Prod.fst) nm many = narrow ((rs.take i).map Prod.fst) nm many ++ if free p then [anys many ++ t] else if p.name = nm then [p.args ++ t] else [] := by
 rw [List.take_add_one, h]
 unfold narrow
 simp only [Option.toList_some, List.map_append, List.filterMap_append, List.map_cons, List.map_nil]
 cases hf : free p
 ·by_cases hn : p.name = nm <;> simp [hf, hn]
 ·simp [hf]
structure GE where
 O : Nat → Prop
 q : Option Addr
 c : Nat
 ps : List (List (Ty × PY) × PY)
theorem narrow_calls (q : Option Addr) (cap : Nat) (rs : List (List Ty × PY)) (nm : ByteArray) (many : Nat) (w0 w : World) (hx : Ext w0 w) (hlen : rs.length ≤ 1000000) (h : Arr patsR w0 (low w0) rs q) (hne : ∀ r ∈ rs, r.1 ≠ []) (hmany : many ≤ 10000000)
  (hsz : ∀ r ∈ rs, ∀ p t, r.1 = p :: t → t.length ≤ 10000000 ∧ (free p = false → p.name = nm → p.args.length ≤ 10000000)) :
  Calls Try.prog 40 [.slice q rs.length cap, .string nm, .int .i64 (many : Int)].toArray w fun e w' => ∃ (g : GE) (O2 : Nat → Prop), e = .returned (.slice g.q g.ps.length g.c) ∧ g.ps.map (fun r => r.1.map Prod.fst) = narrow (rs.map Prod.fst) nm many ∧ g.ps.length ≤ rs.length ∧ Cls [row w.heap.size g.O g.q g.ps.length g.c 25 1 (cat (patsE (fun p => TyO w0 (low w0) p.1 p.2)).c g.ps), pool (patsE (fun p => TyO w0 (low w0) p.1 p.2)) w.heap.size O2 g.ps] [w, w0] w' := by
 refine enter Try.func40 rfl Try.ntmps40 rfl (Cls.start2 hx) ?_
 have hxs := hx.size
 (simp only [argEnv, Nat.zero_add, Nat.reduceAdd])
 apply W.sr
 apply oas; rfl; rfl
 apply OL.nsr
 apply oas; rfl; rfl
 apply OL.nx
 apply W.seq
 apply W.sr
 apply omv; rfl; rfl
 apply oop; rfl; apply Pev.len_slice; rfl; exact yes; rfl
 apply omv; rfl; rfl
 apply OL.nx
 apply W.block
 refine W.loop (G := Nat × GE × (Nat → Prop)) (fun g => g.1 ≤ rs.length ∧ g.2.1.ps.map (fun r => r.1.map Prod.fst) = narrow ((rs.take g.1).map Prod.fst) nm many ∧ g.2.1.ps.length ≤ g.1) (fun g => rs.length - g.1)
  (fun g => [(1, true, .string nm), (2, true, .int .i64 (many : Int)), (7, true, .slice g.2.1.q g.2.1.ps.length g.2.1.c), (10, true, .slice q rs.length cap), (11, true, .int .i64 (rs.length : Int)), (12, true, .int .i64 (g.1 : Int))])
  (fun g => Cls [row w.heap.size g.2.1.O g.2.1.q g.2.1.ps.length g.2.1.c 25 1 (cat (patsE (fun p => TyO w0 (low w0) p.1 p.2)).c g.2.1.ps), pool (patsE (fun p => TyO w0 (low w0) p.1 p.2)) w.heap.size g.2.2 g.2.1.ps] [w, w0]) (0, ⟨fun _ => False, none, 0, []⟩, fun _ => False) ⟨Nat.zero_le _, rfl, Nat.le_refl _⟩ (by exact Sub.au) (fun w' hw' => (hw'.pool_nil _ w.heap.size).row_nil w.heap.size 25 1) ?_
 rintro ⟨i, ⟨O, q1, c1, ps⟩, O2⟩ ⟨hi, hps, hpl⟩
 simp only at hi hps hpl ⊢
 apply W.sr
 apply obn; rfl; rfl; rfl; apply Bin.lss
 apply OL.nx
 apply W.seq
 (refine W.cnd (fun hlt => ?_) (fun hlt => ?_)) <;> (try (exfalso; first | omega | exact hlt trivial | contradiction))
 ·obtain ⟨a, a2, z, pt, y, rfl, hab, hu, hcell, hab2, hcell2, harr, hyc, hyl⟩ := row_head h (show i < rs.length by omega) hne
  have hstep := narrow_step nm many hu
  rw [← hps] at hstep
  obtain ⟨hs1, hs2⟩ := hsz _ (List.mem_of_getElem? hu) z.1 _ rfl
  rw [List.length_map] at hs1
  have hdrop := Arr.drop harr (cap := y.2) (by simpa using hyc) 1
  apply W.sk
  apply W.sb
  apply W.sr
  apply oop; rfl; apply Pev.idx; rfl; exact yes; rfl; exact yes; rfl; rfl; intro hcond; omega
  apply oop; rfl; apply Pev.load_kept; rfl; exact yes; exact .tail _ (.head _); rfl; intro hcond; assumption; intro hcond; (rw [add_block]; assumption); intro hcond; exact NotOwned.au
  apply oas; rfl; rfl
  apply OL.nx
  apply W.block
  apply W.sr
  apply omv; rfl; rfl
  apply oop; rfl; apply Pev.idx; rfl; exact yes; rfl; exact yes; rfl; rfl; intro hcond; (simp only [Bool.and_eq_true, Bool.or_eq_true, Bool.not_eq_true', decide_eq_true_eq, decide_eq_false_iff_not] at *; omega)
  apply oop; rfl; apply Pev.load_keptA; rfl; exact yes; exact .tail _ (.head _); rfl; intro hcond; assumption; rfl; intro hcond; assumption; intro hcond; exact NotOwned.au
  (((first | (with_reducible apply OL.op) | (with_reducible apply QL.op)); (exact Guard.au); rfl; rfl); (exact Pev.call (v := .bool (free z.1)) rfl (by exact Args.au) (fun _ w2 hw2 => (free_calls z.1 z.2 w2).mono (fun e w3 h => ⟨h.1, hw2.ext h.2⟩))))
  apply oas; rfl; rfl
  apply OL.nx
  refine W.cond rfl (fun hf => ?_) (fun hf => ?_)
  ·apply W.regz; apply ZSplit.pure rfl; apply ZSplit.pure rfl; apply ZSplit.tail; apply ZSplit.pure rfl; apply ZSplit.pure rfl; apply ZSplit.tail; apply ZSplit.tail; apply ZSplit.tail; apply ZSplit.tail; apply ZSplit.tail; exact ZSplit.nil; kernel_rfl; decide +kernel; exact fun w hw => hw.drew
   apply ZL.op rfl; exact Guard.none; rfl; rfl; apply Pev.move; rfl; exact yes
   apply ZL.op rfl; exact Guard.none; rfl; rfl; apply Pev.move; rfl; exact yes
   apply ZL.op rfl; exact Guard.none; rfl; rfl; apply Pev.move; rfl; exact yes
   apply ZL.op rfl; exact Guard.none; rfl; rfl; apply Pev.slice_lo; rfl; exact yes; rfl; exact yes; rfl; rfl; intro hcond; (simp only [Bool.and_eq_true, Bool.or_eq_true, Bool.not_eq_true', decide_eq_true_eq, decide_eq_false_iff_not] at *; omega)
   apply ZL.nil
   apply TL.one rfl
   refine OL.callE (α := Option Addr × Nat × Nat) (fun z => .slice z.1 many many) (fun z => w.heap.size ≤ z.2.1) (fun z => Cls (pile z.2.1 (fun k => k < z.2.2) [⟨z.1, many, cat tyR.c (List.replicate many (anyT, ((none, 0) : PY)))⟩] :: [row w.heap.size O q1 ps.length c1 25 1 (cat (patsE (fun p => TyO w0 (low w0) p.1 p.2)).c ps), pool (patsE (fun p => TyO w0 (low w0) p.1 p.2)) w.heap.size O2 ps]) [w, w0]) rfl rfl (by exact Args.au) (fun w2 hw2 => (anys_calls many w2 (by omega)).mono fun e w3 ⟨q, h1, h2, h3⟩ => ⟨(q, w2.heap.size, w3.heap.size), h1, (hw2.kp w (.head _)).size, Cls.fra hw2 h3 h2⟩) ?_
   rintro ⟨qa, Ba, ha⟩ hBa
   simp only at hBa ⊢
   apply OL.nil
   with_reducible apply At.tn; decide +kernel
   apply TL.one rfl
   apply OL.buildSlice; rfl; rfl; rfl; exact Elems.au; rfl; rfl; (intro bk hbk; simp only [AllLe, and_true] at hbk)
   apply OL.nil
   with_reducible apply At.tn; decide +kernel
   apply TL.one rfl
   refine OL.callE (α := PY × (Nat → Prop)) (fun z => .slice z.1.1 (many + (pt.length + 1 - 1)) z.1.2) (fun _ => True) (fun z => Cls ([blk bk 25 [.slice qa many many, .slice (cutq (some a2) y.2 1 4) (pt.length + 1 - 1) (y.2 - 1)], pile Ba (fun k => k < ha) [⟨qa, many, cat tyR.c (List.replicate many (anyT, ((none, 0) : PY)))⟩], row w.heap.size O q1 ps.length c1 25 1 (cat (patsE (fun p => TyO w0 (low w0) p.1 p.2)).c ps), pool (patsE (fun p => TyO w0 (low w0) p.1 p.2)) w.heap.size z.2 (ps ++ [(List.replicate many (anyT, ((none, 0) : PY)) ++ pt, z.1)])]) [w, w0]) rfl rfl (by exact Args.au) (fun w2 hw2 => ?_) ?_
   ·refine (Concat2_calls bk (many) (pt.length + 1 - 1) (List.replicate many (anyT, ((none, 0) : PY))) pt qa (cutq (some a2) y.2 1 4) many (y.2 - 1) w2 (hw2.item (.head _)) (by simp) (by omega) (pile_arr (hw2.item (.tail _ (.head _))) (anyl_ok w2 _ many)) (hdrop.at hw2 (by exact mau) (fun k hk => by exact NotOwned.au)) (by omega)).mono ?_
    rintro e w3 ⟨q5, c5, h1, h2, h3, h4⟩
    refine ⟨((q5, c5), fun k => O2 k ∨ fresh w2 w3 k), h1, trivial, Cls.pool_push (R := patsE (fun p => TyO w0 (low w0) p.1 p.2)) (x := List.replicate many (anyT, ((none, 0) : PY)) ++ pt) (y := (q5, c5)) (by exact Hole.au) hw2 (hw2.kp w (.head _)).size h4 ⟨h3, by rw [List.length_append]; simp only [List.length_replicate]; omega, by rw [List.length_append]; simp only [List.length_replicate]; omega, fun p hp => ?_⟩⟩
    rcases List.mem_append.1 hp with hp | hp
    ·exact anyl_ok w0 _ many p hp
    ·exact harr.el p (.tail _ hp)
   rintro ⟨y5, O5⟩ _
   simp only
   have e1 : ps.length + 1 = (ps ++ [(List.replicate many (anyT, ((none, 0) : PY)) ++ pt, y5)]).length := by simp
   have e2 : cat (patsE (fun p => TyO w0 (low w0) p.1 p.2)).c ps ++ [Value.slice y5.1 (many + (pt.length + 1 - 1)) y5.2] = cat (patsE (fun p => TyO w0 (low w0) p.1 p.2)).c (ps ++ [(List.replicate many (anyT, ((none, 0) : PY)) ++ pt, y5)]) := by
    rw [cat_append]
    congr 1
    show _ = [Value.slice y5.1 (List.replicate many (anyT, ((none, 0) : PY)) ++ pt).length y5.2]
    rw [List.length_append, Nat.add_sub_cancel, List.length_replicate]
   apply OL.nil
   with_reducible apply At.tn; decide +kernel
   apply TL.one rfl
   apply OL.buildSlice; rfl; rfl; rfl; exact Elems.au; rfl; rfl; (intro bk hbk; simp only [AllLe, and_true] at hbk)
   apply OL.nil
   with_reducible apply At.tn; decide +kernel
   apply TL.one rfl
   apply OL.append; rfl; rfl; rfl; rfl; exact Hole.au; exact .head _; exact Take.au; rfl; rfl; exact ⟨_, .head _, Nat.le_refl _⟩; omega; intro O1 g1 cap1
   apply OL.nil
   with_reducible apply At.tn; decide +kernel
   apply TL.one rfl
   apply oas; rfl; rfl
   apply OL.nil
   with_reducible apply At.tn; decide +kernel
   apply TL.nil
   with_reducible apply At.np
   with_reducible apply At.in_normal
   with_reducible apply At.in_normal
   with_reducible apply At.next
   apply W.reg
   apply obn; rfl; rfl; rfl; apply Bin.add_in; omega
   apply omv; rfl; rfl
   apply OL.nil
   rw [e1, e2]
   refine At.again (i + 1, ⟨O1, some ⟨g1, 0, none⟩, cap1, ps ++ [(List.replicate many (anyT, ((none, 0) : PY)) ++ pt, y5)]⟩, O5) ⟨by simp only; omega, ?_, by simp only [← e1]; omega⟩ (by simp only; omega) (by exact Sub.au) (fun w' hw' => hw'.thin (Thin.blk (by simp only [AllLe, and_true]; omega) (Thin.blk (by simp only [AllLe, and_true]; omega) (.any (fun k hk => ⟨Nat.le_trans hBa hk.1, Nat.le_trans hxs (Nat.le_trans hBa hk.1), trivial⟩) Thin.same))))
   simp only [hstep, hf, List.map_append, List.map_cons, List.map_nil]
   rw [anyl_map]; rfl
  ·have hf : free z.1 = false := by simpa using hf
   apply W.sr
   apply omv; rfl; rfl
   apply oop; rfl; apply Pev.idx; rfl; exact yes; rfl; exact yes; rfl; rfl; intro hcond; (simp only [Bool.and_eq_true, Bool.or_eq_true, Bool.not_eq_true', decide_eq_true_eq, decide_eq_false_iff_not] at *; omega)
   apply oop; rfl; apply Pev.fldA; rfl; exact yes; rfl
   apply oop; rfl; apply Pev.load_kept; rfl; exact yes; exact .tail _ (.head _); rfl; intro hcond; apply CellsAt.at_ (by assumption) rfl; intro hcond; assumption; intro hcond; exact NotOwned.au
   apply omv; rfl; rfl
   apply obn; rfl; rfl; rfl; apply Bin.str_eql
   apply oas; rfl; rfl
   apply OL.nx
   refine W.cond rfl (fun hb => ?_) (fun hb => ?_)
   ·have hnm : z.1.name = nm := of_decide_eq_true hb
    obtain ⟨pz, hpzm, hpza⟩ : ∃ pz : List (Ty × PY), pz.map Prod.fst = z.1.args ∧ Arr tyR w0 (low w0) pz z.2.1 := by
     obtain ⟨pz, g1, g2, _⟩ := pat_kids (harr.el z (.head _))
     exact ⟨pz, g1, g2⟩
    have hpzl : pz.length = z.1.args.length := by rw [← hpzm, List.length_map]
    have hzl := hs2 hf hnm
    apply W.regz; apply ZSplit.pure rfl; apply ZSplit.pure rfl; apply ZSplit.pure rfl; apply ZSplit.pure rfl; apply ZSplit.pure rfl; apply ZSplit.pure rfl; apply ZSplit.pure rfl; apply ZSplit.tail; apply ZSplit.tail; apply ZSplit.tail; apply ZSplit.tail; apply ZSplit.tail; exact ZSplit.nil; kernel_rfl; decide +kernel; exact fun w hw => hw.drew
    apply ZL.op rfl; exact Guard.none; rfl; rfl; apply Pev.move; rfl; exact yes
    apply ZL.op rfl; exact Guard.none; rfl; rfl; apply Pev.move; rfl; exact yes
    apply ZL.op rfl; exact Guard.none; rfl; rfl; apply Pev.idx; rfl; exact yes; rfl; exact yes; rfl; rfl; intro hcond; (simp only [Bool.and_eq_true, Bool.or_eq_true, Bool.not_eq_true', decide_eq_true_eq, decide_eq_false_iff_not] at *; omega)
    apply ZL.op rfl; exact Guard.none; rfl; rfl; apply Pev.fldA; rfl; exact yes; rfl
    apply ZL.ld rfl; exact Guard.none; rfl; rfl; apply Pev.load_kept; rfl; exact yes; exact .tail _ (.head _); rfl; intro hcond; apply CellsAt.at_ (by assumption) rfl; intro hcond; assumption; intro hcond; exact NotOwned.au
    apply ZL.op rfl; exact Guard.none; rfl; rfl; apply Pev.move; rfl; exact yes
    apply ZL.op rfl; exact Guard.none; rfl; rfl; apply Pev.slice_lo; rfl; exact yes; rfl; exact yes; rfl; rfl; intro hcond; (simp only [Bool.and_eq_true, Bool.or_eq_true, Bool.not_eq_true', decide_eq_true_eq, decide_eq_false_iff_not] at *; omega)
    apply ZL.nil
    apply TL.one rfl
    apply OL.buildSlice; rfl; rfl; rfl; exact Elems.au; rfl; rfl; (intro bk hbk; simp only [AllLe, and_true] at hbk)
    apply OL.nil
    with_reducible apply At.tn; decide +kernel
    apply TL.one rfl
    refine OL.callE (α := PY × (Nat → Prop)) (fun g => .slice g.1.1 (z.1.args.length + (pt.length + 1 - 1)) g.1.2) (fun _ => True) (fun g => Cls ([blk bk 25 [.slice z.2.1 z.1.args.length z.2.2, .slice (cutq (some a2) y.2 1 4) (pt.length + 1 - 1) (y.2 - 1)], row w.heap.size O q1 ps.length c1 25 1 (cat (patsE (fun p => TyO w0 (low w0) p.1 p.2)).c ps), pool (patsE (fun p => TyO w0 (low w0) p.1 p.2)) w.heap.size g.2 (ps ++ [(pz ++ pt, g.1)])]) [w, w0]) rfl rfl (by exact Args.au) (fun w2 hw2 => ?_) ?_
    ·refine (Concat2_calls bk (z.1.args.length) (pt.length + 1 - 1) (pz) pt z.2.1 (cutq (some a2) y.2 1 4) z.2.2 (y.2 - 1) w2 (hw2.item (.head _)) hpzl (by omega) (hpza.at hw2 (by exact mau) (fun k hk => by exact NotOwned.au)) (hdrop.at hw2 (by exact mau) (fun k hk => by exact NotOwned.au)) (by omega)).mono ?_
     rintro e w3 ⟨q5, c5, h1, h2, h3, h4⟩
     refine ⟨((q5, c5), fun k => O2 k ∨ fresh w2 w3 k), h1, trivial, Cls.pool_push (R := patsE (fun p => TyO w0 (low w0) p.1 p.2)) (x := pz ++ pt) (y := (q5, c5)) (by exact Hole.au) hw2 (hw2.kp w (.head _)).size h4 ⟨h3, by rw [List.length_append]; simp only [hpzl]; omega, by rw [List.length_append]; simp only [hpzl]; omega, fun p hp => ?_⟩⟩
     rcases List.mem_append.1 hp with hp | hp
     ·exact hpza.el p hp
     ·exact harr.el p (.tail _ hp)
    rintro ⟨y5, O5⟩ _
    simp only
    have e1 : ps.length + 1 = (ps ++ [(pz ++ pt, y5)]).length := by simp
    have e2 : cat (patsE (fun p => TyO w0 (low w0) p.1 p.2)).c ps ++ [Value.slice y5.1 (z.1.args.length + (pt.length + 1 - 1)) y5.2] = cat (patsE (fun p => TyO w0 (low w0) p.1 p.2)).c (ps ++ [(pz ++ pt, y5)]) := by
     rw [cat_append]
     congr 1
     show _ = [Value.slice y5.1 (pz ++ pt).length y5.2]
     rw [List.length_append, Nat.add_sub_cancel, hpzl]
    apply OL.nil
    with_reducible apply At.tn; decide +kernel
    apply TL.one rfl
    apply OL.buildSlice; rfl; rfl; rfl; exact Elems.au; rfl; rfl; (intro bk hbk; simp only [AllLe, and_true] at hbk)
    apply OL.nil
    with_reducible apply At.tn; decide +kernel
    apply TL.one rfl
    apply OL.append; rfl; rfl; rfl; rfl; exact Hole.au; exact .head _; exact Take.au; rfl; rfl; exact ⟨_, .head _, Nat.le_refl _⟩; omega; intro O1 g1 cap1
    apply OL.nil
    with_reducible apply At.tn; decide +kernel
    apply TL.one rfl
    apply oas; rfl; rfl
    apply OL.nil
    with_reducible apply At.tn; decide +kernel
    apply TL.nil
    with_reducible apply At.np
    with_reducible apply At.in_normal
    with_reducible apply At.in_normal
    with_reducible apply At.next
    apply W.reg
    apply obn; rfl; rfl; rfl; apply Bin.add_in; omega
    apply omv; rfl; rfl
    apply OL.nil
    rw [e1, e2]
    refine At.again (i + 1, ⟨O1, some ⟨g1, 0, none⟩, cap1, ps ++ [(pz ++ pt, y5)]⟩, O5) ⟨by simp only; omega, ?_, by simp only [← e1]; omega⟩ (by simp only; omega) (by exact Sub.au) (fun w' hw' => hw'.thin (Thin.blk (by simp only [AllLe, and_true]; omega) (Thin.blk (by simp only [AllLe, and_true]; omega) Thin.same)))
    simp only [hstep, hf, List.map_append, List.map_cons, List.map_nil]
    rw [if_neg (by decide), if_pos hnm, hpzm]
   ·have hnm : ¬ z.1.name = nm := of_decide_eq_false hb
    apply W.skip
    with_reducible apply At.in_normal
    with_reducible apply At.in_normal
    with_reducible apply At.next
    apply W.reg
    apply obn; rfl; rfl; rfl; apply Bin.add_in; omega
    apply omv; rfl; rfl
    apply OL.nil
    refine At.again (i + 1, ⟨O, q1, c1, ps⟩, O2) ⟨by simp only; omega, ?_, by simp only; omega⟩ (by simp only; omega) (by exact Sub.au) (fun w' hw' => hw'.thin (by exact Thin.au))
    simp only [hstep, hf, hnm]
    simp
 ·obtain rfl : i = rs.length := by omega
  rw [List.take_length] at hps
  refine W.xt ?_
  with_reducible apply At.next
  apply W.sr
  apply omv; rfl; rfl
  apply oas; rfl; rfl
  apply OL.nx
  apply W.ret
  ((with_reducible apply At.fin1); rfl; rfl; intro w' hw')
  exact ⟨⟨O, q1, c1, ps⟩, O2, rfl, hps, hpl, hw'⟩
end Go.Proofs.Ytleggdmhihcafaa.pt

/- The walk of patterns' absent. Conditions: none. -/
namespace Go.Eng
open Go.RowKit
section
variable {P : Program} {n : Nm} {l : Env} {H : List Item} {S : List World} {ty : TypeId}
theorem At.finC1 {mm : Nat} {rr : Option Nat} {fn : Func} {R : Ending → World → Prop} {t1 tt b k : Nat} {v : Value} {t' : TypeId} {cs : List Value} (hr : fn.results = #[.cell tt ty, .tmp t1]) (h1 : look l t1 = some (true, v)) (ht : look l tt = some (true, .pointer (some ⟨b, 0, none⟩))) (hp : blk b t' cs ∈ H) (hs : aggN P ty = some k) (hk : cs.length = k)
  (h : ∀ w, Cls H S w → R (.returned (.tuple #[.agg cs.toArray, v])) w) : At ⟨mm, [], rr⟩ (bodyPost P fn R) .ret l (Cls H S) :=
 ⟨fun a w hs' hc => ⟨hs'.df, .tuple #[.agg cs.toArray, v], by
  have h0 := hs'.at_ t1 true _ h1
  have h1 := hs'.at_ tt true _ ht
  have h2 := run_loadVar_agg (P := P) (t := ty) (vs := cs) (a := ⟨b, 0, none⟩) (w := w) (by rw [hk]; exact hs) (fun j v hj => by rw [add_mid, Nat.zero_add, blk_cell (hc.item hp)]; exact hj)
  simp [results, hr, Array.getD_eq_getD_getElem?, h0, h1, asAddr, h2], h w hc⟩⟩
end
end Go.Eng
namespace Go.Proofs.Ytleggdmhihcafaa.pt
open Go.RowKit Go.Eng Go.Pt
set_option maxRecDepth 100000
theorem absent1_calls (p : Ty) (y : PY) (b : Nat) (n : Int) (w : World) (hc : w.cell? ⟨b, 0, none⟩ = some (.int .i64 n)) (hb : b < w.heap.size) :
  Calls Try.prog 73 [.agg (tyc p y).toArray, .pointer (some ⟨b, 0, none⟩)].toArray w fun e w' => e = .returned (.bool (decide (p.var = n))) ∧ Ext w w' := by
 refine enter Try.func73 rfl Try.ntmps73 rfl (Cls.start w) ?_
 (simp only [argEnv, Nat.zero_add, Nat.reduceAdd])
 simp only [tyc]
 apply W.sr
 apply OL.box; rfl; rfl; exact CellsL.agg; (intro bk hbk; simp only [AllLe, and_true] at hbk)
 apply oas; rfl; rfl
 apply OL.nsr
 apply ofa; rfl; rfl; rfl
 apply old; rfl; rfl; exact .head _; rfl; rfl
 apply oop; rfl; apply Pev.load_kept; rfl; exact yes; exact .head _; rfl; intro hcond; assumption; intro hcond; assumption; intro hcond; exact NotOwned.au
 apply obn; rfl; rfl; rfl; apply Bin.eql
 apply oas; rfl; rfl
 apply OL.nx
 apply W.ret
 ((with_reducible apply At.fin1); rfl; rfl; intro w' hw')
 exact ⟨rfl, by (exact hw'.fr)⟩
theorem absent2_calls (p : Ty) (y : PY) (b : Nat) (nm : ByteArray) (w : World) (hc : w.cell? ⟨b, 0, none⟩ = some (.string nm)) (hb : b < w.heap.size) :
  Calls Try.prog 74 [.agg (tyc p y).toArray, .pointer (some ⟨b, 0, none⟩)].toArray w fun e w' => e = .returned (.bool (decide (p.name = nm))) ∧ Ext w w' := by
 refine enter Try.func74 rfl Try.ntmps74 rfl (Cls.start w) ?_
 (simp only [argEnv, Nat.zero_add, Nat.reduceAdd])
 simp only [tyc]
 apply W.sr
 apply OL.box; rfl; rfl; exact CellsL.agg; (intro bk hbk; simp only [AllLe, and_true] at hbk)
 apply oas; rfl; rfl
 apply OL.nsr
 apply ofa; rfl; rfl; rfl
 apply old; rfl; rfl; exact .head _; rfl; rfl
 apply ofa; rfl; rfl; rfl
 apply oop; rfl; apply Pev.load_kept; rfl; exact yes; exact .head _; rfl; intro hcond; assumption; intro hcond; assumption; intro hcond; exact NotOwned.au
 apply obn; rfl; rfl; rfl; apply Bin.str_eql
 apply oas; rfl; rfl
 apply OL.nx
 apply W.ret
 ((with_reducible apply At.fin1); rfl; rfl; intro w' hw')
 exact ⟨rfl, by (exact hw'.fr)⟩
theorem any_mem (ps : List (Ty × PY)) (n : Int) : ((ps.map Prod.fst).any fun p => decide (p.var = n)) = decide (n ∈ ints (ps.map Prod.fst)) := by
 rw [Bool.eq_iff_iff, List.any_eq_true, decide_eq_true_eq]
 unfold ints
 rw [List.mem_map]
 constructor
 ·rintro ⟨p, h1, h2⟩
  exact ⟨p, h1, of_decide_eq_true h2⟩
 ·rintro ⟨p, h1, h2⟩
  exact ⟨p, h1, decide_eq_true h2⟩
theorem dat_at {T : TT} {w : World} (hT : T.ok w) {nm : ByteArray} {d : Nat} {c : Co} (hc : conAt T.D nm = some (d, c)) : ∃ (a : Addr) (u : Da × DY) (cs : List (Co × PY)), T.q = some a ∧ a.block < w.heap.size ∧ d < T.ds.length ∧ CellsAt w (a.add (d * 3)) [.string u.2.name, .int .i64 u.2.params, .slice u.2.q cs.length u.2.cap] ∧ consOf T.D d = cs.map Prod.fst ∧ Arr conR w (low w) cs u.2.q ∧ cs.length ≤ 9223372036854775807 := by
 have hm := (conAt_mem hc).1
 have hd : d < T.ds.length := by
  unfold consOf at hm
  cases hx : T.D[d]? with
  | none => rw [hx] at hm; cases hm
  | some x =>
   have := (List.getElem?_eq_some_iff.1 hx).1
   unfold TT.D at this
   rwa [List.length_map] at this
 obtain ⟨a, u, h1, h2, h3, h4, h5, h6⟩ := hT.arr.get hd
 obtain ⟨cs, h7, h8⟩ := h5
 have hl : u.1.cons.length = cs.length := by rw [← h7, List.length_map]
 refine ⟨a, u, cs, h1, h2, hd, ?_, ?_, h8, by omega⟩
 ·have h4 : CellsAt w (a.add (d * 3)) [.string u.2.name, .int .i64 u.2.params, .slice u.2.q u.1.cons.length u.2.cap] := h4
  rwa [hl] at h4
 ·unfold consOf TT.D
  rw [List.getElem?_map, h3]
  exact h7.symm
theorem top_le : ∀ (L : List Int), (∀ x ∈ L, x ≤ 1073741823) → top L ≤ 1073741825
 | [], _ => by simp [top]
 | x :: L, h => by
  have h1 := h x (.head _)
  have h2 := top_le L (fun y hy => h y (.tail _ hy))
  unfold top at h2 ⊢
  rw [List.foldr_cons]
  omega
theorem absent_calls (T : TT) (q : Option Addr) (cap : Nat) (ps : List (Ty × PY)) (w : World) (hT : T.ok w) (hlen : ps.length ≤ 1000000) (h : Arr tyR w (low w) ps q) (hw : ∀ p ∈ ps, Wf T.D p.1 ∧ free p.1 = false) (hkk : ∀ p ∈ ps, ∀ q ∈ ps, p.1.kind = q.1.kind) :
  Calls Try.prog 38 [T.v, .slice q ps.length cap].toArray w fun e w' => ∃ y, e = .returned (.tuple #[.agg (tyc ((absent T.D (ps.map Prod.fst)).getD anyT) y).toArray, .bool (absent T.D (ps.map Prod.fst)).isSome]) ∧ TyO w' (fresh w w') ((absent T.D (ps.map Prod.fst)).getD anyT) y ∧ Ext w w' := by
 refine enter Try.func38 rfl Try.ntmps38 rfl (Cls.start w) ?_
 unfold TT.v
 (simp only [argEnv, Nat.zero_add, Nat.reduceAdd])
 apply W.sr
 apply OL.box; rfl; rfl; exact CellsL.agg; (intro bk hbk; simp only [AllLe, and_true] at hbk)
 apply OL.alloc; rfl; rfl; exact CellsL.agg; (intro bk hbk; simp only [AllLe, and_true] at hbk)
 apply oas; rfl; rfl
 apply OL.nx
 apply W.seq
 apply W.sr
 apply omv; rfl; rfl
 apply oop; rfl; apply Pev.len_slice; rfl; exact yes; rfl
 apply obn; rfl; rfl; rfl; apply Bin.eql
 apply OL.nx
 rename_i b0 hb0
 revert bk
 intro b1 hb1
 (refine W.cnd (fun h0 => ?_) (fun h0 => ?_)) <;> (try (exfalso; first | omega | exact h0 trivial | contradiction))
 ·have hn : ps = [] := List.length_eq_zero_iff.1 (by omega)
  subst hn
  apply W.sr
  apply oop; rfl; apply Pev.build; rfl; exact CellsL.agg; rfl; exact Fill.au; rfl
  apply OL.storeB; rfl; rfl; exact CellsL.agg; rfl; rfl; rfl; exact Swap.au; exact Put.au
  apply oas; rfl; rfl
  apply OL.nx
  refine W.rt ?_
  refine At.finC1 rfl rfl rfl (by exact mau) rfl rfl (fun w' hw' => ⟨(none, 0), rfl, any_ok w' _, by (exact hw'.fr)⟩)
 obtain ⟨a, u, rfl, hab, hu, hcell, hok⟩ := h.get (i := 0) (by omega)
 obtain ⟨p0, rest, hps⟩ : ∃ p0 r, ps = p0 :: r := by
  cases ps with
  | nil => simp at h0
  | cons p r => exact ⟨p, r, rfl⟩
 have hu0 : u = p0 := by
  rw [hps] at hu
  simpa using hu.symm
 subst hu0
 have hab : a.block < w.heap.size := hab
 have hcell : CellsAt w (a.add (0 * 4)) [.int .i64 u.1.kind, .string u.1.name, .int .i64 u.1.var, .slice u.2.1 u.1.args.length u.2.2] := hcell
 obtain ⟨hwf, hnf⟩ := hw u (by rw [hps]; exact .head _)
 apply W.sk
 apply W.seq
 apply W.sr
 apply omv; rfl; rfl
 apply oop; rfl; apply Pev.idx; rfl; exact yes; rfl; exact yes; rfl; rfl; intro hcond; (simp only [Bool.and_eq_true, Bool.or_eq_true, Bool.not_eq_true', decide_eq_true_eq, decide_eq_false_iff_not] at *; omega)
 apply oop; rfl; apply Pev.fldA; rfl; exact yes; rfl
 apply oop; rfl; apply Pev.load_kept; rfl; exact yes; exact .head _; rfl; intro hcond; apply CellsAt.at_ (by assumption) rfl; intro hcond; assumption; intro hcond; exact NotOwned.au
 apply obn; rfl; rfl; rfl; apply Bin.eql
 apply OL.nx
 (refine W.cnd (fun h2 => ?_) (fun h2 => ?_)) <;> (try (exfalso; first | omega | exact h2 trivial | contradiction))
 ·have hab2 : absent T.D (ps.map Prod.fst) = some (.mk 2 ⟨#[]⟩ (least (ints (ps.map Prod.fst)) : Int) []) := by
   rw [hps, List.map_cons]
   simp only [absent]
   rw [if_pos h2]
  obtain ⟨L, hL⟩ : ∃ L, ints (ps.map Prod.fst) = L := ⟨_, rfl⟩
  have hmem := fun n => any_mem ps n
  have htop : top (ints (ps.map Prod.fst)) ≤ 1073741825 := top_le _ fun x hx => by
   obtain ⟨p, hp, rfl⟩ := List.mem_map.1 hx
   obtain ⟨z, hz, rfl⟩ := List.mem_map.1 hp
   have hzk : z.1.kind = 2 := by rw [hkk z hz u (by rw [hps]; exact .head _), h2]
   cases (hw z hz).1 with
   | fr h => rw [(hw z hz).2] at h; cases h
   | int _ h => exact h
   | con h _ _ _ => omega
  rw [hL] at hab2 htop
  rw [hab2]
  apply W.sr
  apply OL.alloc; rfl; rfl; exact CellsL.one rfl; (intro bk hbk; simp only [AllLe, and_true] at hbk)
  apply OL.storeB; rfl; rfl; exact CellsL.one rfl; rfl; rfl; rfl; exact Swap.au; exact Put.au
  apply OL.nx
  apply W.sb
  refine W.loop (G := Nat) (fun n => n ≤ top L ∧ goN L (top L - n) n = least L) (fun n => top L - n)
   (fun n => [(1, true, .slice (some a) ps.length cap), (4, true, .pointer (some ⟨b1, 0, none⟩)), (6, true, .pointer (some ⟨bk, 0, none⟩))])
   (fun n => Cls [blk bk 3 [.int .i64 (n : Int)], blk b1 50 [.int .i64 0, .string ⟨#[]⟩, .int .i64 0, .slice none 0 0], blk b0 55 [.slice T.q T.ds.length T.c, .map (some T.b)]] [w]) 0 ⟨Nat.zero_le _, rfl⟩ (by exact Sub.au) (fun w' hw' => hw') ?_
  rintro n ⟨hn1, hn2⟩
  apply W.seq
  apply W.sr
  apply omv; rfl; rfl
  apply oop; rfl; apply Pev.makeFunc; exact Args.au; exact Args.au
  (((first | (with_reducible apply OL.op) | (with_reducible apply QL.op)); (exact Guard.au); rfl; rfl); (refine Pev.call (v := .bool (decide ((n : Int) ∈ L))) (vs := [.slice (some a) ps.length cap, .func (.func 73) ([] : List Value).toArray [Value.pointer (some ⟨bk, 0, none⟩)].toArray]) rfl (by exact Args.au) (fun _ w2 hw2 => ?_)))
  ·have hb : (blk bk 3 [.int .i64 (n : Int)]).holds w2 := hw2.item (.head _)
   have hlt := hw2.lt _ (.head _) bk rfl
   have hc := ContainsFunc_calls (some a) cap ps 73 [] [.pointer (some ⟨bk, 0, none⟩)] (fun p => decide (p.var = (n : Int))) w2 (by omega) (h.at hw2 (by exact mau) (fun k hk => by exact NotOwned.au)) rfl (fun s hs w3 h3 => absent1_calls s.1 s.2 bk (n : Int) w3 (by rw [cell_heap (w := w2) (h3.block bk hlt id), blk_cell hb]; rfl) (Nat.lt_of_lt_of_le hlt h3.size))
   rw [hmem, hL] at hc
   exact hc.mono (fun e w3 h => ⟨h.1, hw2.ext h.2⟩)
  apply OL.nx
  refine W.cond rfl (fun hb => ?_) (fun hb => ?_)
  ·have hin : (n : Int) ∈ L := of_decide_eq_true hb
   have hlt : n < top L := Nat.lt_of_not_le (fun hle => top_no L n hle hin)
   have hstep : goN L (top L - (n + 1)) (n + 1) = least L := by
    rw [← hn2, show top L - n = (top L - (n + 1)) + 1 by omega, goN, if_pos hin]
   apply W.sk
   apply W.block
   apply W.reg
   apply old; rfl; rfl; exact .head _; rfl; rfl
   apply obn; rfl; rfl; rfl; apply Bin.add_in; omega
   apply OL.storeB; rfl; rfl; exact CellsL.one rfl; rfl; rfl; rfl; exact Swap.au; exact Put.au
   apply OL.nil
   with_reducible apply At.in_normal
   exact At.again (n + 1) ⟨by omega, hstep⟩ (by omega) (by exact Sub.au) (fun w' hw' => hw')
  ·have hin : (n : Int) ∉ L := of_decide_eq_false hb
   have hfin : least L = n := by
    rw [← hn2]
    cases top L - n with
    | zero => rfl
    | succ f => rw [goN, if_neg hin]
   rw [hfin]
   refine W.xt ?_
   with_reducible apply At.next
   apply W.sr
   apply old; rfl; rfl; exact .head _; rfl; rfl
   apply oop; rfl; apply Pev.build; rfl; exact CellsL.agg; rfl; exact Fill.au; rfl
   apply OL.storeB; rfl; rfl; exact CellsL.agg; rfl; rfl; rfl; exact Swap.au; exact Put.au
   apply oas; rfl; rfl
   apply OL.nx
   refine W.rt ?_
   refine At.finC1 rfl rfl rfl (by exact mau) rfl rfl (fun w' hw' => ⟨(none, 0), rfl, ?_, by (exact hw'.fr)⟩)
   exact TyO.of_parts (nm := ⟨#[]⟩) (ps := []) (by simp [I64]) (by simp only [I64]; omega) (by simp) (Nat.le_refl _) Arr.nil
 ·have hk3 : u.1.kind = 3 := (hwf.kinds hnf).resolve_left h2
  obtain ⟨d, c0, e1, e2, e3⟩ := hwf.cons hk3
  obtain ⟨ad, ud, cs, k1, k2, k3, k4, k5, k6, k7⟩ := dat_at hT e1
  obtain ⟨ix, hmg⟩ := hT.tab.con e1
  have habs : absent T.D (ps.map Prod.fst) = ((cs.map Prod.fst).find? fun c => !(ps.map Prod.fst).any fun q => decide (q.name = c.name)).map fun c => .mk 3 c.name 0 (anys c.many) := by
   rw [← k5, hps, List.map_cons]
   simp only [absent]
   rw [if_neg h2, e1]
  rw [k1]
  apply W.sk
  apply W.seq
  apply W.seq
  apply W.regd0; decide +kernel; kernel_rfl; decide +kernel; exact fun w hw => hw.drew
  apply qfa; rfl; rfl; rfl
  apply qld; rfl; rfl; exact .tail _ (.head _); rfl; rfl
  apply qfa; rfl; rfl; rfl
  apply qld; rfl; rfl; exact .tail _ (.head _); rfl; rfl
  apply qmv; rfl; rfl
  apply qop; rfl; apply Pev.idx; rfl; exact yes; rfl; exact yes; rfl; rfl; intro hcond; (simp only [Bool.and_eq_true, Bool.or_eq_true, Bool.not_eq_true', decide_eq_true_eq, decide_eq_false_iff_not] at *; omega)
  apply qop; rfl; apply Pev.fldA; rfl; exact yes; rfl
  apply qop; rfl; apply Pev.load_kept; rfl; exact yes; exact .head _; rfl; intro hcond; apply CellsAt.at_ (by assumption) rfl; intro hcond; assumption; intro hcond; exact NotOwned.au
  (((first | (with_reducible apply OL.op) | (with_reducible apply QL.op)); (exact Guard.au); rfl; rfl); (refine Pev.lookup_v (m := T.m) (v := .agg #[.int .i64 (d : Int), .int .i64 ix, .int .i64 (c0.many : Int)]) (zv := .agg #[.int .i64 0, .int .i64 0, .int .i64 0]) rfl (by (first | exact fun _ => rfl | exact fun h => h | (intro h; simp_all; done))) rfl (by (first | exact fun _ => rfl | exact fun h => h | (intro h; simp_all; done))) rfl rfl (fun w2 hw2 => (hT.at hw2 (by exact mau) (fun k hk => by exact NotOwned.au)).map_) (by rw [hmg]; rfl)))
  apply qop; rfl; apply Pev.field; rfl; exact yes; rfl; rfl
  apply qop; rfl; apply Pev.idx; rfl; exact yes; rfl; exact yes; rfl; rfl; intro hcond; omega
  apply qop; rfl; apply Pev.fldA; rfl; exact yes; rfl
  apply qop; rfl; apply Pev.load_kept; rfl; exact yes; exact .head _; rfl; intro hcond; apply CellsAt.at_ (by assumption) rfl; intro hcond; (simp only [add_block]; assumption); intro hcond; exact NotOwned.au
  apply qop; rfl; apply Pev.len_slice; rfl; exact yes; rfl
  apply qmv; rfl; rfl
  apply QL.nil
  with_reducible apply At.next
  apply W.block
  obtain ⟨occ, hocc⟩ : ∃ occ : Co → Bool, (fun c : Co => !(ps.map Prod.fst).any fun q => decide (q.name = c.name)) = occ := ⟨_, rfl⟩
  rw [hocc] at habs
  refine W.loop (G := Nat) (fun j => j ≤ cs.length ∧ ((cs.map Prod.fst).drop j).find? occ = (cs.map Prod.fst).find? occ) (fun j => cs.length - j)
   (fun j => [(1, true, .slice (some a) ps.length cap), (4, true, .pointer (some ⟨b1, 0, none⟩)), (37, true, .slice ud.2.q cs.length ud.2.cap), (38, true, .int .i64 (cs.length : Int)), (39, true, .int .i64 (j : Int))])
   (fun j => Cls [blk b1 50 [.int .i64 0, .string ⟨#[]⟩, .int .i64 0, .slice none 0 0]] [w]) 0 ⟨Nat.zero_le _, rfl⟩ (by exact Sub.au) (fun w' hw' => hw'.thin (by exact Thin.au)) ?_
  rintro j ⟨hj1, hj2⟩
  apply W.sr
  apply obn; rfl; rfl; rfl; apply Bin.lss
  apply OL.nx
  apply W.seq
  (refine W.cnd (fun hlt => ?_) (fun hlt => ?_)) <;> (try (exfalso; first | omega | exact hlt trivial | contradiction))
  ·obtain ⟨ac, uc, hq3, hab3, hu3, hcell3, hok3⟩ := k6.get (show j < cs.length by omega)
   have hab3 : ac.block < w.heap.size := hab3
   have hcell3 : CellsAt w (ac.add (j * 2)) [.string uc.1.name, .slice uc.2.1 uc.1.many uc.2.2] := hcell3
   have hok3 : uc.1.many * 56 ≤ 140737488355328 := hok3
   have hdr : (cs.map Prod.fst).drop j = uc.1 :: (cs.map Prod.fst).drop (j + 1) := by
    have hl : j < (cs.map Prod.fst).length := by rw [List.length_map]; omega
    rw [List.drop_eq_getElem_cons hl]
    congr 1
    rw [List.getElem_map]
    rw [List.getElem?_eq_getElem (by omega)] at hu3
    rw [Option.some.inj hu3]
   rw [hdr, List.find?_cons] at hj2
   have hov : occ uc.1 = !(ps.map Prod.fst).any fun q => decide (q.name = uc.1.name) := by rw [← hocc]
   rw [hq3]
   apply W.sk
   apply W.sb
   apply W.sr
   apply oop; rfl; apply Pev.idx; rfl; exact yes; rfl; exact yes; rfl; rfl; intro hcond; omega
   apply oop; rfl; apply Pev.load_keptA; rfl; exact yes; exact .head _; rfl; intro hcond; assumption; rfl; intro hcond; (rw [add_block]; assumption); intro hcond; exact NotOwned.au
   apply OL.alloc; rfl; rfl; exact CellsL.agg; (intro bk hbk; simp only [AllLe, and_true] at hbk)
   apply OL.storeB; rfl; rfl; exact CellsL.agg; rfl; rfl; rfl; exact Swap.au; exact Put.au
   apply OL.nsr
   apply omv; rfl; rfl
   apply oop; rfl; apply Pev.makeFunc; exact Args.au; exact Args.au
   (((first | (with_reducible apply OL.op) | (with_reducible apply QL.op)); (exact Guard.au); rfl; rfl); (refine Pev.call (v := .bool (!occ uc.1)) (vs := [.slice (some a) ps.length cap, .func (.func 74) ([] : List Value).toArray [Value.pointer (some ⟨bk, 0, none⟩)].toArray]) rfl (by exact Args.au) (fun _ w2 hw2 => ?_)))
   ·have hb : (blk bk 86 [.string uc.1.name, .slice uc.2.1 uc.1.many uc.2.2]).holds w2 := hw2.item (.head _)
    have hlt2 := hw2.lt _ (.head _) bk rfl
    have hc := ContainsFunc_calls (some a) cap ps 74 [] [.pointer (some ⟨bk, 0, none⟩)] (fun p => decide (p.name = uc.1.name)) w2 (by omega) (h.at hw2 (by exact mau) (fun k hk => by exact NotOwned.au)) rfl (fun s hs w3 h3 => absent2_calls s.1 s.2 bk uc.1.name w3 (by rw [cell_heap (w := w2) (h3.block bk hlt2 id), blk_cell hb]; rfl) (Nat.lt_of_lt_of_le hlt2 h3.size))
    rw [show ((ps.map Prod.fst).any fun p => decide (p.name = uc.1.name)) = !occ uc.1 by rw [hov, Bool.not_not]] at hc
    exact hc.mono (fun e w3 h => ⟨h.1, hw2.ext h.2⟩)
   apply oop; rfl; apply Pev.not; rfl; exact yes
   apply OL.nx
   refine W.cond rfl (fun hb => ?_) (fun hb => ?_)
   ·have ho : occ uc.1 = true := by simpa using hb
    rw [ho] at hj2
    have hres : absent T.D (ps.map Prod.fst) = some (.mk 3 uc.1.name 0 (anys uc.1.many)) := by rw [habs, ← hj2]; rfl
    rw [hres]
    apply W.seq
    (refine W.regz (by (repeat (first | exact ZSplit.nil | apply ZSplit.pure rfl | apply ZSplit.tail))) (by kernel_rfl) (by decide +kernel) (fun w hw => hw.drew) ?_)
    apply ZL.op rfl; exact Guard.none; rfl; rfl; apply Pev.fld; rfl; exact yes; rfl
    apply ZL.ld rfl; exact Guard.none; rfl; rfl; apply Pev.load_blk; rfl; exact yes; exact .head _; rfl; rfl
    apply ZL.op rfl; exact Guard.none; rfl; rfl; apply Pev.fld; rfl; exact yes; rfl
    apply ZL.ld rfl; exact Guard.none; rfl; rfl; apply Pev.load_blk; rfl; exact yes; exact .head _; rfl; rfl
    apply ZL.op rfl; exact Guard.none; rfl; rfl; apply Pev.len_slice; rfl; exact yes; rfl
    apply ZL.nil
    apply TL.one rfl
    refine OL.callE (α := Option Addr × Nat × Nat) (fun z => .slice z.1 uc.1.many uc.1.many) (fun z => w.heap.size ≤ z.2.1) (fun z => Cls (pile z.2.1 (fun k => k < z.2.2) [⟨z.1, uc.1.many, cat tyR.c (List.replicate uc.1.many (anyT, ((none, 0) : PY)))⟩] :: [blk bk 86 [.string uc.1.name, .slice uc.2.1 uc.1.many uc.2.2], blk b1 50 [.int .i64 0, .string ⟨#[]⟩, .int .i64 0, .slice none 0 0]]) [w]) rfl rfl (by exact Args.au) (fun w2 hw2 => (anys_calls uc.1.many w2 hok3).mono fun e w3 ⟨q, h1, h2, h3⟩ => ⟨(q, w2.heap.size, w3.heap.size), h1, (hw2.kp w (.head _)).size, Cls.fra hw2 h3 h2⟩) ?_
    rintro ⟨qa, Ba, ha⟩ hBa
    simp only at hBa ⊢
    apply OL.nil
    refine At.tk (fun w9 hw9 => hw9.thin (.any (fun k hk => ⟨Nat.le_trans hBa hk.1, trivial⟩) Thin.same)) ?_
    apply TL.one rfl
    apply oop; rfl; apply Pev.build; rfl; exact CellsL.agg; rfl; exact Fill.au; rfl
    apply OL.nil
    with_reducible apply At.tn; decide +kernel
    apply TL.one rfl
    apply OL.storeB; rfl; rfl; exact CellsL.agg; rfl; rfl; rfl; exact Swap.au; exact Put.au
    apply OL.nil
    with_reducible apply At.tn; decide +kernel
    apply TL.one rfl
    apply oas; rfl; rfl
    apply OL.nil
    with_reducible apply At.tn; decide +kernel
    apply TL.nil
    with_reducible apply At.np
    with_reducible apply At.next
    refine W.rt ?_
    refine At.finC1 rfl rfl rfl (.tail _ (.tail _ (.head _))) rfl rfl (fun w' hw' => ⟨(qa, uc.1.many), ?_, ?_, ?_⟩)
    ·show Ending.returned (.tuple #[.agg #[.int .i64 3, .string uc.1.name, .int .i64 0, .slice qa uc.1.many uc.1.many], .bool true]) = .returned (.tuple #[.agg #[.int .i64 3, .string uc.1.name, .int .i64 0, .slice qa (anys uc.1.many).length uc.1.many], .bool true])
     rw [anys_len]
    ·have harr : Arr tyR w' (fresh w w') (List.replicate uc.1.many (anyT, ((none, 0) : PY))) qa := ⟨fun hl => by
      obtain ⟨a4, g1, g2, g3⟩ := hw'.item (i := pile Ba (fun k => k < ha) [⟨qa, uc.1.many, cat tyR.c (List.replicate uc.1.many (anyT, ((none, 0) : PY)))⟩]) (.head _) _ (.head _) (by show 0 < (cat tyR.c _).length; rw [cat_length (f := tyR.c) tyR.clen]; exact Nat.mul_pos hl tyR.pos)
      exact ⟨a4, g1, ⟨Nat.le_trans hBa g2.1, hw'.lt _ (.head _) _ g2⟩, g3⟩, anyl_ok w' _ uc.1.many⟩
     have := TyO.of_parts (k := 3) (v := 0) (nm := uc.1.name) (cap := uc.1.many) (by simp [I64]) (by simp [I64]) (by rw [List.length_replicate]; omega) (by rw [List.length_replicate]; exact Nat.le_refl _) harr
     rw [anyl_map] at this
     exact this
    ·exact hw'.toExt (s := w) (.head _) (fun k hk => NotOwned.pile (by omega) (NotOwned.blk (by omega) (NotOwned.blk (by omega) .nil)))
   ·have ho : occ uc.1 = false := by simpa using hb
    rw [ho] at hj2
    apply W.skip
    with_reducible apply At.in_normal
    with_reducible apply At.next
    apply W.reg
    apply obn; rfl; rfl; rfl; apply Bin.add_in; omega
    apply omv; rfl; rfl
    apply OL.nil
    exact At.again (j + 1) ⟨by omega, hj2⟩ (by omega) (by exact Sub.au) (fun w' hw' => hw'.thin (by exact Thin.au))
  ·rw [List.drop_eq_nil_of_le (by rw [List.length_map]; omega), List.find?_nil] at hj2
   have hres : absent T.D (ps.map Prod.fst) = none := by rw [habs, ← hj2]; rfl
   rw [hres]
   refine W.xt ?_
   with_reducible apply At.next
   apply W.sr
   apply oop; rfl; apply Pev.build; rfl; exact CellsL.agg; rfl; exact Fill.au; rfl
   apply OL.storeB; rfl; rfl; exact CellsL.agg; rfl; rfl; rfl; exact Swap.au; exact Put.au
   apply oas; rfl; rfl
   apply OL.nx
   apply W.ret
   refine At.finC1 rfl rfl rfl (by exact mau) rfl rfl (fun w' hw' => ⟨(none, 0), rfl, any_ok w' _, by (exact hw'.fr)⟩)
end Go.Proofs.Ytleggdmhihcafaa.pt

/- A drawn region with calls one behind another and operations without memory between and behind them. General. No condition. -/
namespace Go.Eng
open Go.RowKit
def wpM (P : Program) (ops : Array Oper) (C0 : World → Prop) (need : Nat → Bool) (Q : Exit → Act → World → Prop) : List (Bool × Nat × Oper) → Act → World → Prop
 | [], a, w => Q .normal a w
 | (true, _, o) :: r, a, w => ∃ v, YieldsZ P ops C0 o v a ∧ wpM P ops C0 need Q r (a.put o.dst v) w
 | (false, k, _) :: r, a, w => wpOp P ops Q k (fun a' w' => (need k = true → C0 w') ∧ wpM P ops C0 need Q r a' w') a w
def seqM (ops : Array Oper) : List (Bool × Nat) → Array Bool → Bool
 | [], li => (Region.ready .any ops li).isEmpty
 | (true, k) :: t, li => (Region.ready .any ops li).contains k && (freeZ ops li k && seqM ops t (li.setIfInBounds k true))
 | (false, k) :: t, li => (Region.ready .any ops li == [k]) && seqM ops t (li.setIfInBounds k true)
def mB (ops : Array Oper) (xi : List Nat) (yi : List (Bool × Nat)) : Bool := Region.noSelect ops && (preZ ops xi (Array.replicate ops.size false) && seqM ops yi (runZ xi (Array.replicate ops.size false)))
inductive Tag : List (Nat × Oper) → List (Bool × Nat × Oper) → Prop where
 | nil : Tag [] []
 | pu {k : Nat} {o : Oper} {r : List (Nat × Oper)} {r' : List (Bool × Nat × Oper)} (hp : (pureB o && !depB o) = true) (h : Tag r r') : Tag ((k, o) :: r) ((true, k, o) :: r')
 | ef {k : Nat} {o : Oper} {r : List (Nat × Oper)} {r' : List (Bool × Nat × Oper)} (h : Tag r r') : Tag ((k, o) :: r) ((false, k, o) :: r')
theorem Tag.spec {y : List (Nat × Oper)} {y' : List (Bool × Nat × Oper)} (h : Tag y y') : y'.map (·.2) = y ∧ y'.length = y.length ∧ ∀ p ∈ y', p.1 = true → depB p.2.2 = false := by
 induction h with
 | nil => exact ⟨rfl, rfl, fun p hp => by cases hp⟩
 | pu hp h ih =>
  simp only [Bool.and_eq_true, Bool.not_eq_true'] at hp
  refine ⟨by rw [List.map_cons, ih.1], by rw [List.length_cons, List.length_cons, ih.2.1], fun p hpm => ?_⟩
  rcases List.mem_cons.1 hpm with rfl | hpm
  ·exact fun _ => hp.2
  ·exact ih.2.2 p hpm
 | ef h ih =>
  refine ⟨by rw [List.map_cons, ih.1], by rw [List.length_cons, List.length_cons, ih.2.1], fun p hpm => ?_⟩
  rcases List.mem_cons.1 hpm with rfl | hpm
  ·exact fun h => by cases h
  ·exact ih.2.2 p hpm
section
variable {P : Program} {ops : Array Oper} {C0 : World → Prop} {Q : Exit → Act → World → Prop}
theorem wpZ_mix {need : Nat → Bool} (hs : Region.noSelect ops = true) (hQ : ∀ c a w, ¬ Q (.panic c) a w) : ∀ (y : List (Bool × Nat × Oper)) (li : Array Bool) (a : Act) (w : World), (∀ p ∈ y, ops[p.2.1]? = some p.2.2 ∧ (p.1 = true → depB p.2.2 = false)) → Dn ops li → seqM ops (y.map fun p => (p.1, p.2.1)) li = true → wpM P ops C0 need Q y a w → wpZ P ops C0 need Q y.length li a w
 | [], li, a, w, _, _, hB, h => ⟨by simpa [seqM] using hB, h⟩
 | (true, k, o) :: r, li, a, w, hy, hD, hB, h => by
  simp only [List.map_cons, seqM, Bool.and_eq_true] at hB
  obtain ⟨hr, hf, hB'⟩ := hB
  have hr' : k ∈ Region.ready .any ops li := by simpa using hr
  obtain ⟨v, hv, h2⟩ := h
  obtain ⟨hi, hd⟩ := hy _ (.head _)
  have hd : depB o = false := hd rfl
  exact wpZ_first hi (Region.noSelect_spec hs) hQ _ li a w hD (fun j oj hj hne hun hno => ⟨(freeZ_spec hi (List.mem_singleton.2 rfl) hf j oj hj hne hun hno).1, fun e => by rw [hd] at e; cases e⟩) hr' hv (fun e => by rw [hd] at e; cases e)
   (wpZ_mix hs hQ r _ _ w (fun p hp => hy p (.tail _ hp)) (hD.set hr') hB' h2)
 | (false, k, o) :: r, li, a, w, hy, hD, hB, h => by
  simp only [List.map_cons, seqM, Bool.and_eq_true, beq_iff_eq] at hB
  refine ⟨fun h' => (by rw [hB.1] at h'; cases h'), fun i hi => ?_⟩
  have hi' := hi
  rw [hB.1, List.mem_singleton] at hi
  subst hi
  exact wpOp_mono (fun a' w' h3 => ⟨fun hn _ => h3.1 hn, wpZ_mix hs hQ r _ a' w' (fun p hp => hy p (.tail _ hp)) (hD.set hi') hB.2 h3.2⟩) h
end
structure TM (P : Program) (n : Nm) (ops : Array Oper) (C0 : World → Prop) (need : Nat → Bool) (Q : Exit → Act → World → Prop) (y : List (Bool × Nat × Oper)) (l : Env) (C : World → Prop) : Prop where
 run : ∀ a w, Sees n l a → C w → wpM P ops C0 need Q y a w
def TQm (P : Program) (ops : Array Oper) (C0 : World → Prop) (need : Nat → Bool) (k : Nat) (r : List (Bool × Nat × Oper)) (Q : Exit → Act → World → Prop) : Exit → Act → World → Prop := fun e a w => match e with
 | .normal => (need k = true → C0 w) ∧ wpM P ops C0 need Q r a w
 | e => Q e a w
section
variable {P : Program} {n : Nm} {l : Env} {C C0 : World → Prop} {ops : Array Oper} {Q : Exit → Act → World → Prop} {K : Act → Prop} {o : Oper} {k : Nat} {x y : List (Nat × Oper)} {y' r : List (Bool × Nat × Oper)} {need : Nat → Bool}
theorem W.regm {id : Nat} {l0 : List Oper} (hs : ZSplit 0 [] l0 x y) (ht : Tag y y') (hm : P.follows .mixedOrders = true) (hB : mB l0.toArray (x.map (·.1)) (y'.map fun p => (p.1, p.2.1)) = true) (hC : ∀ w, C w → C { w with drawn := w.drawn + 1 })
  (h : ZL P n l0.toArray C (fun a' => ∀ w', C w' → wpM P l0.toArray C (needZ l0.toArray (x.map (·.1))) (NoPanic Q) y' a' w') x l) : W P n (.region id l0.toArray true) Q l C := ⟨fun a w hs' hc => by
 simp only [mB, Bool.and_eq_true] at hB
 obtain ⟨h1, h2, h3⟩ := hB
 obtain ⟨hx, hy, hlen⟩ := hs.spec
 obtain ⟨t1, t2, t3⟩ := ht.spec
 have hy' : ∀ p ∈ y', l0.toArray[p.2.1]? = some p.2.2 ∧ (p.1 = true → depB p.2.2 = false) := fun p hp => ⟨by
  have := (hy p.2 (by rw [← t1]; exact List.mem_map_of_mem hp)).2
  simpa using this, t3 p hp⟩
 have hQ : ∀ c a w, ¬ NoPanic Q (.panic c) a w := fun _ _ _ h => h
 refine wpp_region_any hm (wpAny_np _ _ _ _ (wpAny_of_Z (C0 := C) (need := needZ l0.toArray (x.map (·.1))) _ _ _ _ ?_))
 have hD0 : Dn l0.toArray (Array.replicate l0.toArray.size false) := fun j o _ hj => by rw [getD_rep] at hj; cases hj
 have hD1 : ∀ (x : List (Nat × Oper)) (li : Array Bool), Dn l0.toArray li → preZ l0.toArray (x.map (·.1)) li = true → Dn l0.toArray (runZ (x.map (·.1)) li) := fun x => by
  induction x with
  | nil => exact fun li h _ => h
  | cons p x ih =>
   intro li h hp
   simp only [List.map_cons, preZ, Bool.and_eq_true] at hp
   exact ih _ (h.set (by simpa using hp.1)) hp.2.2
 have key := wpZ_pre (P := P) (ops := l0.toArray) (C0 := C) (Q := NoPanic Q) (xi0 := x.map (·.1)) (f := y'.length) (w := { w with drawn := w.drawn + 1 }) h1 hQ (hC w hc) x (Array.replicate l0.toArray.size false) a
  (fun p hp => ⟨List.mem_map.2 ⟨p, hp, rfl⟩, by have := (hx p hp).2.1; simpa using this⟩) hD0 h2 (h.run a hs')
  (fun a' hK => wpZ_mix h1 hQ y' _ a' _ hy' (hD1 x _ hD0 h2) h3 (hK _ (hC w hc)))
 have e : x.length + y'.length = l0.toArray.size := by rw [t2]; simpa using hlen
 exact (congrArg (fun s => wpZ P l0.toArray C (needZ l0.toArray (x.map (·.1))) (NoPanic Q) s (Array.replicate l0.toArray.size false) a { w with drawn := w.drawn + 1 }) e).mp key⟩
theorem ZL.nilM (h : TM P n ops C0 need Q y' l C0) : ZL P n ops C0 (fun a' => ∀ w', C0 w' → wpM P ops C0 need Q y' a' w') [] l := ⟨fun a hs w hc => h.run a w hs hc⟩
theorem TM.nil (h : At n Q .normal l C) : TM P n ops C0 need Q [] l C := ⟨fun a w hs hc => h.run a w hs hc⟩
theorem TM.pure {d : Nat} {c : Bool} {v : Value} (hp : pureB o = true) (hg : Guard l ops o.guard c) (hd : o.dst = some d) (hn : Nat.ble (d + 1) n.n = true) (hv : Pev P n l (fun _ => True) o c v)
  (kk : TM P n ops C0 need Q r ((d, c, v) :: l) C) : TM P n ops C0 need Q ((true, k, o) :: r) l C := by
 have hn' := Nat.le_of_ble_eq_true hn
 refine ⟨fun a w hs hc => ?_⟩
 have hw := hg.wanted hs
 cases c with
 | true => exact ⟨v, .inl ⟨hw, fun w _ => still_of hp (hv.run rfl a w hs trivial)⟩, by rw [hd]; exact kk.run _ w (hs.put hn' true v) hc⟩
 | false => exact ⟨undef, .inr ⟨hw, rfl⟩, by rw [hd]; exact kk.run _ w (hs.put hn' false v) hc⟩
theorem TM.one (hi : ops[k]? = some o) (h : OL P n ops (TQm P ops C0 need k r Q) [o] l C) : TM P n ops C0 need Q ((false, k, o) :: r) l C := ⟨fun a w hs hc => by
 have hp : ∀ ex a w, ex ≠ .normal → TQm P ops C0 need k r Q ex a w → Q ex a w := fun ex a w hne h => by
  cases ex <;> first | exact h | exact absurd rfl hne
 have h := h.run a w hs hc
 show wpOp P ops Q k _ a w
 unfold wpOp
 simp only [hi]
 unfold wpList at h
 split
 ·rename_i hw
  rw [if_pos hw] at h
  rcases h with h | ⟨h, a', w', hq⟩
  ·refine .inl ?_
   unfold Oper.wp at h ⊢
   exact upon_Q hp h
  ·exact .inr ⟨h, a', w', hp _ _ _ (by simp) hq⟩
 ·rename_i hw
  rw [if_neg hw] at h
  exact h⟩
theorem At.tnm (hk : need k = false) (h : TM P n ops C0 need Q r l C) : At n (TQm P ops C0 need k r Q) .normal l C := ⟨fun a w hs hc => ⟨fun h' => (by rw [hk] at h'; cases h'), h.run a w hs hc⟩⟩
theorem At.tkm (hk : ∀ w, C w → C0 w) (h : TM P n ops C0 need Q r l C) : At n (TQm P ops C0 need k r Q) .normal l C := ⟨fun a w hs hc => ⟨fun _ => hk w hc, h.run a w hs hc⟩⟩
end
/-! by a plan: pure operations, operations with effects, two of which either may be first -/
inductive PT where
 | nil
 | pu (k : Nat) (r : PT)
 | ef (k : Nat) (r : PT)
 | fk (k1 : Nat) (r1 : PT) (k2 : Nat) (r2 : PT)
def PT.len : PT → Nat
 | .nil => 0
 | .pu _ r => r.len + 1
 | .ef _ r => r.len + 1
 | .fk _ r1 _ _ => r1.len + 1
def wpN (P : Program) (ops : Array Oper) (C0 : World → Prop) (need : Nat → Bool) (Q : Exit → Act → World → Prop) : PT → Act → World → Prop
 | .nil, a, w => Q .normal a w
 | .pu k r, a, w => ∃ o v, ops[k]? = some o ∧ depB o = false ∧ YieldsZ P ops C0 o v a ∧ wpN P ops C0 need Q r (a.put o.dst v) w
 | .ef k r, a, w => wpOp P ops Q k (fun a' w' => (need k = true → C0 w') ∧ wpN P ops C0 need Q r a' w') a w
 | .fk k1 r1 k2 r2, a, w => wpOp P ops Q k1 (fun a' w' => (need k1 = true → C0 w') ∧ wpN P ops C0 need Q r1 a' w') a w ∧ wpOp P ops Q k2 (fun a' w' => (need k2 = true → C0 w') ∧ wpN P ops C0 need Q r2 a' w') a w
def seqN (ops : Array Oper) : PT → Array Bool → Bool
 | .nil, li => (Region.ready .any ops li).isEmpty
 | .pu k r, li => (Region.ready .any ops li).contains k && (freeZ ops li k && seqN ops r (li.setIfInBounds k true))
 | .ef k r, li => (Region.ready .any ops li == [k]) && seqN ops r (li.setIfInBounds k true)
 | .fk k1 r1 k2 r2, li => (Region.ready .any ops li == [k1, k2]) && (Nat.beq r1.len r2.len && (seqN ops r1 (li.setIfInBounds k1 true) && seqN ops r2 (li.setIfInBounds k2 true)))
def nB (ops : Array Oper) (xi : List Nat) (p : PT) : Bool := Region.noSelect ops && (Nat.beq (xi.length + p.len) ops.size && (preZ ops xi (Array.replicate ops.size false) && seqN ops p (runZ xi (Array.replicate ops.size false))))
section
variable {P : Program} {ops : Array Oper} {C0 : World → Prop} {Q : Exit → Act → World → Prop}
theorem wpZ_plan {need : Nat → Bool} (hs : Region.noSelect ops = true) (hQ : ∀ c a w, ¬ Q (.panic c) a w) : ∀ (y : PT) (li : Array Bool) (a : Act) (w : World), Dn ops li → seqN ops y li = true → wpN P ops C0 need Q y a w → wpZ P ops C0 need Q y.len li a w
 | .nil, li, a, w, _, hB, h => ⟨by simpa [seqN] using hB, h⟩
 | .pu k r, li, a, w, hD, hB, h => by
  simp only [seqN, Bool.and_eq_true] at hB
  obtain ⟨hr, hf, hB'⟩ := hB
  have hr' : k ∈ Region.ready .any ops li := by simpa using hr
  obtain ⟨o, v, hi, hd, hv, h2⟩ := h
  exact wpZ_first hi (Region.noSelect_spec hs) hQ _ li a w hD (fun j oj hj hne hun hno => ⟨(freeZ_spec hi (List.mem_singleton.2 rfl) hf j oj hj hne hun hno).1, fun e => by rw [hd] at e; cases e⟩) hr' hv (fun e => by rw [hd] at e; cases e)
   (wpZ_plan hs hQ r _ _ w (hD.set hr') hB' h2)
 | .ef k r, li, a, w, hD, hB, h => by
  simp only [seqN, Bool.and_eq_true, beq_iff_eq] at hB
  refine ⟨fun h' => (by rw [hB.1] at h'; cases h'), fun i hi => ?_⟩
  have hi' := hi
  rw [hB.1, List.mem_singleton] at hi
  subst hi
  exact wpOp_mono (fun a' w' h3 => ⟨fun hn _ => h3.1 hn, wpZ_plan hs hQ r _ a' w' (hD.set hi') hB.2 h3.2⟩) h
 | .fk k1 r1 k2 r2, li, a, w, hD, hB, h => by
  simp only [seqN, Bool.and_eq_true, beq_iff_eq] at hB
  obtain ⟨hr, hl, hB1, hB2⟩ := hB
  have hl : r1.len = r2.len := Nat.eq_of_beq_eq_true hl
  refine ⟨fun h' => (by rw [hr] at h'; cases h'), fun i hi => ?_⟩
  have hi' := hi
  rw [hr] at hi
  rcases List.mem_cons.1 hi with rfl | hi
  ·exact wpOp_mono (fun a' w' h3 => ⟨fun hn _ => h3.1 hn, wpZ_plan hs hQ r1 _ a' w' (hD.set hi') hB1 h3.2⟩) h.1
  ·rw [List.mem_singleton] at hi
   subst hi
   exact wpOp_mono (fun a' w' h3 => ⟨fun hn _ => h3.1 hn, by
    have := wpZ_plan hs hQ r2 _ a' w' (hD.set hi') hB2 h3.2
    show wpZ P ops C0 need Q r1.len _ a' w'
    rw [hl]
    exact this⟩) h.2
end
def Has (ops : Array Oper) (y : List (Nat × Oper)) : Prop := ∀ p ∈ y, ops[p.1]? = some p.2
def findK : List (Nat × Oper) → Nat → Option Oper
 | [], _ => none
 | (k', o) :: r, k => match Nat.beq k' k with
  | true => some o
  | false => findK r k
theorem Has.find {ops : Array Oper} {k : Nat} {o : Oper} : ∀ {y : List (Nat × Oper)}, Has ops y → findK y k = some o → ops[k]? = some o
 | (k', o') :: r, hy, h => by
  unfold findK at h
  cases hb : Nat.beq k' k with
  | true =>
   rw [hb] at h
   cases h
   have := hy _ (.head _)
   rwa [Nat.eq_of_beq_eq_true hb] at this
  | false =>
   rw [hb] at h
   exact Has.find (y := r) (fun p hp => hy p (.tail _ hp)) h
structure TN (P : Program) (n : Nm) (ops : Array Oper) (C0 : World → Prop) (need : Nat → Bool) (Q : Exit → Act → World → Prop) (y : PT) (l : Env) (C : World → Prop) : Prop where
 run : ∀ a w, Sees n l a → C w → wpN P ops C0 need Q y a w
def TQn (P : Program) (ops : Array Oper) (C0 : World → Prop) (need : Nat → Bool) (k : Nat) (r : PT) (Q : Exit → Act → World → Prop) : Exit → Act → World → Prop := fun e a w => match e with
 | .normal => (need k = true → C0 w) ∧ wpN P ops C0 need Q r a w
 | e => Q e a w
section
variable {P : Program} {n : Nm} {l : Env} {C C0 : World → Prop} {ops : Array Oper} {Q : Exit → Act → World → Prop} {o : Oper} {k : Nat} {x y : List (Nat × Oper)} {p r : PT} {need : Nat → Bool}
theorem W.regp (p : PT) {id : Nat} {l0 : List Oper} (hs : ZSplit 0 [] l0 x y) (hm : P.follows .mixedOrders = true) (hB : nB l0.toArray (x.map (·.1)) p = true) (hC : ∀ w, C w → C { w with drawn := w.drawn + 1 })
  (h : Has l0.toArray y → ZL P n l0.toArray C (fun a' => ∀ w', C w' → wpN P l0.toArray C (needZ l0.toArray (x.map (·.1))) (NoPanic Q) p a' w') x l) : W P n (.region id l0.toArray true) Q l C := ⟨fun a w hs' hc => by
 simp only [nB, Bool.and_eq_true] at hB
 obtain ⟨h1, h4, h2, h3⟩ := hB
 obtain ⟨hx, hy, hlen⟩ := hs.spec
 have hQ : ∀ c a w, ¬ NoPanic Q (.panic c) a w := fun _ _ _ h => h
 have hHas : Has l0.toArray y := fun p hp => by
  have := (hy p hp).2
  simpa using this
 refine wpp_region_any hm (wpAny_np _ _ _ _ (wpAny_of_Z (C0 := C) (need := needZ l0.toArray (x.map (·.1))) _ _ _ _ ?_))
 have hD0 : Dn l0.toArray (Array.replicate l0.toArray.size false) := fun j o _ hj => by rw [getD_rep] at hj; cases hj
 have hD1 : ∀ (x : List (Nat × Oper)) (li : Array Bool), Dn l0.toArray li → preZ l0.toArray (x.map (·.1)) li = true → Dn l0.toArray (runZ (x.map (·.1)) li) := fun x => by
  induction x with
  | nil => exact fun li h _ => h
  | cons p x ih =>
   intro li h hp
   simp only [List.map_cons, preZ, Bool.and_eq_true] at hp
   exact ih _ (h.set (by simpa using hp.1)) hp.2.2
 have key := wpZ_pre (P := P) (ops := l0.toArray) (C0 := C) (Q := NoPanic Q) (xi0 := x.map (·.1)) (f := p.len) (w := { w with drawn := w.drawn + 1 }) h1 hQ (hC w hc) x (Array.replicate l0.toArray.size false) a
  (fun p hp => ⟨List.mem_map.2 ⟨p, hp, rfl⟩, by have := (hx p hp).2.1; simpa using this⟩) hD0 h2 ((h hHas).run a hs')
  (fun a' hK => wpZ_plan h1 hQ p _ a' _ (hD1 x _ hD0 h2) h3 (hK _ (hC w hc)))
 have e : x.length + p.len = l0.toArray.size := by
  have := Nat.eq_of_beq_eq_true h4
  rwa [List.length_map] at this
 exact (congrArg (fun s => wpZ P l0.toArray C (needZ l0.toArray (x.map (·.1))) (NoPanic Q) s (Array.replicate l0.toArray.size false) a { w with drawn := w.drawn + 1 }) e).mp key⟩
theorem ZL.nilN (h : TN P n ops C0 need Q p l C0) : ZL P n ops C0 (fun a' => ∀ w', C0 w' → wpN P ops C0 need Q p a' w') [] l := ⟨fun a hs w hc => h.run a w hs hc⟩
theorem TN.nil (h : At n Q .normal l C) : TN P n ops C0 need Q .nil l C := ⟨fun a w hs hc => h.run a w hs hc⟩
theorem TN.pu {d : Nat} {c : Bool} {v : Value} (hy : Has ops y) (hf : findK y k = some o) (hp : (pureB o && !depB o) = true) (hg : Guard l ops o.guard c) (hd : o.dst = some d) (hn : Nat.ble (d + 1) n.n = true) (hv : Pev P n l (fun _ => True) o c v)
  (kk : TN P n ops C0 need Q r ((d, c, v) :: l) C) : TN P n ops C0 need Q (.pu k r) l C := by
 have hi := hy.find hf
 simp only [Bool.and_eq_true, Bool.not_eq_true'] at hp
 have hn' := Nat.le_of_ble_eq_true hn
 refine ⟨fun a w hs hc => ?_⟩
 have hw := hg.wanted hs
 cases c with
 | true => exact ⟨o, v, hi, hp.2, .inl ⟨hw, fun w _ => still_of hp.1 (hv.run rfl a w hs trivial)⟩, by rw [hd]; exact kk.run _ w (hs.put hn' true v) hc⟩
 | false => exact ⟨o, undef, hi, hp.2, .inr ⟨hw, rfl⟩, by rw [hd]; exact kk.run _ w (hs.put hn' false v) hc⟩
theorem wpOp_of_OL (hi : ops[k]? = some o) (h : OL P n ops (TQn P ops C0 need k r Q) [o] l C) : ∀ a w, Sees n l a → C w → wpOp P ops Q k (fun a' w' => (need k = true → C0 w') ∧ wpN P ops C0 need Q r a' w') a w := fun a w hs hc => by
 have hp : ∀ ex a w, ex ≠ .normal → TQn P ops C0 need k r Q ex a w → Q ex a w := fun ex a w hne h => by
  cases ex <;> first | exact h | exact absurd rfl hne
 have h := h.run a w hs hc
 unfold wpOp
 simp only [hi]
 unfold wpList at h
 split
 ·rename_i hw
  rw [if_pos hw] at h
  rcases h with h | ⟨h, a', w', hq⟩
  ·refine .inl ?_
   unfold Oper.wp at h ⊢
   exact upon_Q hp h
  ·exact .inr ⟨h, a', w', hp _ _ _ (by simp) hq⟩
 ·rename_i hw
  rw [if_neg hw] at h
  exact h
theorem TN.ef (hy : Has ops y) (hf : findK y k = some o) (h : OL P n ops (TQn P ops C0 need k r Q) [o] l C) : TN P n ops C0 need Q (.ef k r) l C := ⟨wpOp_of_OL (hy.find hf) h⟩
theorem TN.fk {k1 k2 : Nat} {o1 o2 : Oper} {r1 r2 : PT} (hy : Has ops y) (hf1 : findK y k1 = some o1) (hf2 : findK y k2 = some o2) (h1 : OL P n ops (TQn P ops C0 need k1 r1 Q) [o1] l C) (h2 : OL P n ops (TQn P ops C0 need k2 r2 Q) [o2] l C) : TN P n ops C0 need Q (.fk k1 r1 k2 r2) l C := ⟨fun a w hs hc => ⟨wpOp_of_OL (hy.find hf1) h1 a w hs hc, wpOp_of_OL (hy.find hf2) h2 a w hs hc⟩⟩
theorem At.tnn (hk : need k = false) (h : TN P n ops C0 need Q r l C) : At n (TQn P ops C0 need k r Q) .normal l C := ⟨fun a w hs hc => ⟨fun h' => (by rw [hk] at h'; cases h'), h.run a w hs hc⟩⟩
theorem At.tkn (hk : ∀ w, C w → C0 w) (h : TN P n ops C0 need Q r l C) : At n (TQn P ops C0 need k r Q) .normal l C := ⟨fun a w hs hc => ⟨fun _ => hk w hc, h.run a w hs hc⟩⟩
end
end Go.Eng

/- The walk of patterns' missing. Conditions: none. -/
namespace Go.Pt
open Go.Eng Go.RowKit
theorem wt_args {p : Ty} (h : free p = false) : p.args.length < wt p := by
 rw [wt_eq, if_neg (by simp [h])]
 omega
theorem wtA_mem : ∀ {l : List Ty} {p : Ty}, p ∈ l → wt p ≤ wtA l
 | q :: l, p, h => by
  rw [wtA]
  rcases List.mem_cons.1 h with rfl | h
  ·omega
  ·have := wtA_mem h
   omega
theorem wtR_mem : ∀ {rows : List (List Ty)} {r : List Ty}, r ∈ rows → wtA r ≤ wtR rows
 | s :: rs, r, h => by
  rw [wtR]
  rcases List.mem_cons.1 h with rfl | h
  ·omega
  ·have := wtR_mem h
   omega
theorem narrow_sz {D : List Da} {rs : List (List Ty × PY)} {cols B : Nat} (hM : Mat D (rs.map Prod.fst) (cols + 1)) (hB : wtR (rs.map Prod.fst) + (cols + 1) ≤ B) (nm : ByteArray) : ∀ r ∈ rs, ∀ p t, r.1 = p :: t → t.length ≤ B ∧ (free p = false → p.name = nm → p.args.length ≤ B) := fun r hr p t he => by
 have hm : r.1 ∈ rs.map Prod.fst := List.mem_map_of_mem hr
 have h1 := hM.len _ hm
 rw [he, List.length_cons] at h1
 refine ⟨by omega, fun hf _ => ?_⟩
 have h2 := wtR_mem hm
 have h3 := wtA_mem (p := p) (l := r.1) (by rw [he]; exact .head _)
 have h4 := wt_args hf
 omega
theorem Mat.ne {D : List Da} {rs : List (List Ty × PY)} {cols : Nat} (hM : Mat D (rs.map Prod.fst) (cols + 1)) : ∀ r ∈ rs, r.1 ≠ [] := fun r hr e => by
 have := hM.len _ (List.mem_map_of_mem hr)
 rw [e] at this
 cases this
end Go.Pt
namespace Go.Proofs.Ytleggdmhihcafaa.pt
open Go.RowKit Go.Eng Go.Pt
set_option maxRecDepth 100000
theorem Clone2_calls (q : Option Addr) (cap : Nat) (l : List (Ty × PY)) (w : World) (hlen : l.length ≤ 100000) (h : SlAt w w.heap.size q (cat tyR.c l)) :
  Calls Try.prog 41 #[.slice q l.length cap] w fun e w' => ∃ (q' : Option Addr) (cap' : Nat), e = .returned (.slice q' l.length cap') ∧ FrA w w' l q' ∧ Ext w w' ∧ l.length ≤ cap' := by
 refine (Clone_calls q cap l w hlen h).mono ?_
 rintro e w' ⟨q', c', h1, h2, h3⟩
 refine ⟨q', c', h1, fun hl => ?_, h2, ?_⟩
 rotate_left
 ·by_cases hl : 0 < l.length
  ·obtain ⟨g, rest, g1, g2, g3, g4⟩ := h3 hl
   rw [List.length_append, cat_length pat_len] at g4
   omega
  ·omega
 obtain ⟨g, rest, g1, g2, g3, g4⟩ := h3 hl
 refine ⟨⟨g, 0, none⟩, g1, ⟨g2, blk_lt g3⟩, fun j v hj => ?_⟩
 rw [add_mid, blk_cell g3, Nat.zero_add, List.getElem?_append_left (List.getElem?_eq_some_iff.1 hj).1]
 exact hj
theorem missing_calls (T : TT) : ∀ (f : Nat) (q : Option Addr) (cap cols : Nat) (rs : List (List Ty × PY)) (w : World), T.ok w → rs.length ≤ 100000 → Arr patsR w (low w) rs q → Mat T.D (rs.map Prod.fst) cols → wtR (rs.map Prod.fst) + cols < f → wtR (rs.map Prod.fst) + cols ≤ 100000 →
  Calls Try.prog 21 [T.v, .slice q rs.length cap, .int .i64 (cols : Int)].toArray w fun e w' => ∃ q' c' ps, e = .returned (.tuple #[.slice q' ps.length c', .bool (missingE T.D f (rs.map Prod.fst) cols).2]) ∧ ps.map Prod.fst = (missingE T.D f (rs.map Prod.fst) cols).1 ∧ ps.length ≤ c' ∧ ps.length ≤ cols ∧ Arr tyR w' (fresh w w') ps q' ∧ Ext w w'
 | 0, q, cap, cols, rs, w, hT, hlen, h, hM, hf, hB => by omega
 | f + 1, q, cap, 0, rs, w, hT, hlen, h, hM, hf, hB => by
  refine enter Try.func21 rfl Try.ntmps21 rfl (Cls.start w) ?_
  unfold TT.v
  (simp only [argEnv, Nat.zero_add, Nat.reduceAdd])
  apply W.sr
  apply OL.box; rfl; rfl; exact CellsL.agg; (intro bk hbk; simp only [AllLe, and_true] at hbk)
  apply oas; rfl; rfl
  apply oas; rfl; rfl
  apply OL.nx
  apply W.seq
  apply W.sr
  apply omv; rfl; rfl
  apply obn; rfl; rfl; rfl; apply Bin.eql
  apply OL.nx
  refine W.cond rfl (fun _ => ?_) (fun hb => by simp at hb)
  apply W.sr
  apply omv; rfl; rfl
  apply oop; rfl; apply Pev.len_slice; rfl; exact yes; rfl
  apply obn; rfl; rfl; rfl; apply Bin.eql
  apply oas; rfl; rfl
  apply oas; rfl; rfl
  apply OL.nx
  refine W.rt ?_
  ((with_reducible apply At.fin2); rfl; rfl; rfl; intro w' hw')
  exact ⟨none, 0, [], by simp [missingE], rfl, Nat.le_refl _, Nat.le_refl _, Arr.nil, by (exact hw'.fr)⟩
 | f + 1, q, cap, cols + 1, rs, w, hT, hlen, h, hM, hf, hB => by
  have hne := hM.ne
  have ih := missing_calls T f
  refine enter Try.func21 rfl Try.ntmps21 rfl (Cls.start w) ?_
  unfold TT.v
  (simp only [argEnv, Nat.zero_add, Nat.reduceAdd])
  apply W.sr
  apply OL.box; rfl; rfl; exact CellsL.agg; (intro bk hbk; simp only [AllLe, and_true] at hbk)
  apply oas; rfl; rfl
  apply oas; rfl; rfl
  apply OL.nx
  apply W.seq
  apply W.sr
  apply omv; rfl; rfl
  apply obn; rfl; rfl; rfl; apply Bin.eql
  apply OL.nx
  revert bk
  intro b0 hb0
  refine W.cond rfl (fun hb => by simp at hb; omega) (fun _ => ?_)
  apply W.sk
  apply W.sr
  apply omv; rfl; rfl
  obtain ⟨rows, hrows⟩ : ∃ rows, rs.map Prod.fst = rows := ⟨_, rfl⟩
  rw [hrows] at hM hf hB ⊢
  refine OL.callE (α := (Option Addr × Nat × List (Ty × PY)) × Nat × Nat) (fun z => .slice z.1.1 z.1.2.2.length z.1.2.1) (fun z => z.1.2.2.map Prod.fst = first rows ∧ z.1.2.2.length ≤ 100000 ∧ (∀ p ∈ z.1.2.2, TyO w (low w) p.1 p.2) ∧ w.heap.size ≤ z.2.1) (fun z => Cls [pile z.2.1 (fun k => k < z.2.2) [⟨z.1.1, z.1.2.1, cat tyR.c z.1.2.2⟩], blk b0 55 [.slice T.q T.ds.length T.c, .map (some T.b)]] [w]) rfl rfl (by exact Args.au) (fun w2 hw2 => ?_) ?_
  ·refine (first_calls q cap rs w w2 (hw2.toExt (.head _) (fun k hk => by exact NotOwned.au)) (by omega) h hne).mono ?_
   rintro e w3 ⟨q', c', ps, h1, h2, h3, h4, h5, h6⟩
   exact ⟨((q', c', ps), w2.heap.size, w3.heap.size), h1, ⟨by rw [h2, hrows], by simp only; omega, h5, (hw2.kp w (.head _)).size⟩, Cls.fra hw2 h6 h4⟩
  rintro ⟨⟨qf, cf, pf⟩, lo1, hi1⟩ ⟨hpf, hpfl, hpfo, hlo1⟩
  simp only at hpf hpfl hpfo hlo1 ⊢
  have hpm : ∀ p ∈ pf, p.1 ∈ first rows := fun p hp => by rw [← hpf]; exact List.mem_map_of_mem hp
  have hno1 : ∀ k, k < w.heap.size → NotOwned [pile lo1 (fun k => k < hi1) [⟨qf, cf, cat tyR.c pf⟩], blk b0 55 [.slice T.q T.ds.length T.c, .map (some T.b)]] k := fun k hk => NotOwned.pile (by omega) (NotOwned.blk (by omega) .nil)
  obtain ⟨ab, hab⟩ : ∃ ab, absent T.D (first rows) = ab := ⟨_, rfl⟩
  apply oas; rfl; rfl
  apply OL.nx
  apply W.seq
  apply W.sr
  apply oop; rfl; apply Pev.load_blkA; rfl; exact yes; exact .tail _ (.head _); rfl; exact Take.au
  apply omv; rfl; rfl
  refine OL.callE (α := PY × Nat × Nat) (fun z => .tuple #[.agg (tyc (ab.getD anyT) z.1).toArray, .bool ab.isSome]) (fun z => w.heap.size ≤ z.2.1) (fun z => Cls [pool tyR z.2.1 (fun k => k < z.2.2) [(ab.getD anyT, z.1)], pile lo1 (fun k => k < hi1) [⟨qf, cf, cat tyR.c pf⟩], blk b0 55 [.slice T.q T.ds.length T.c, .map (some T.b)]] [w]) rfl rfl (by exact Args.au) (fun w2 hw2 => ?_) ?_
  ·refine (absent_calls T qf cf pf w2 (hT.at hw2 (.head _) hno1) (by omega) (pile_arr (hw2.item (.head _)) (fun p hp => Rel.at (R := tyR) (hpfo p hp) hw2 (.head _) hno1)) (fun p hp => ⟨(hM.wf_first (hpm p hp)).1, (first_col (hpm p hp)).2⟩) (fun p hp q hq => (hM.kinds (hpm p hp) (hpm q hq)).1)).mono ?_
   rintro e w3 ⟨y, h1, h2, h3⟩
   rw [hpf, hab] at h1 h2
   exact ⟨(y, w2.heap.size, w3.heap.size), h1, (hw2.kp w (.head _)).size, Cls.pat hw2 h3 h2⟩
  rintro ⟨ya, lo2, hi2⟩ hlo2
  simp only [tyc] at hlo2 ⊢
  cases ab with
  | some p =>
   simp only [Option.getD_some, Option.isSome_some]
   have hmi : missingE T.D (f + 1) rows (cols + 1) = (p :: (missingE T.D f (rest rows) cols).1, (missingE T.D f (rest rows) cols).2) := by
    simp only [missingE]
    rw [hab]
   rw [hmi]
   apply omv; rfl; rfl
   apply oex; rfl; rfl; rfl
   apply oex; rfl; rfl; rfl
   apply OL.alloc; rfl; rfl; exact CellsL.agg; (intro bk hbk; simp only [AllLe, and_true] at hbk)
   apply OL.storeB; rfl; rfl; exact CellsL.agg; rfl; rfl; rfl; exact Swap.au; exact Put.au
   apply oas; rfl; rfl
   apply OL.nsr
   apply omv; rfl; rfl
   apply OL.nx
   revert bk
   intro b9 hb9
   refine W.cond rfl (fun _ => ?_) (fun hb => by cases hb)
   have hH : ∀ k, k < w.heap.size → NotOwned [blk b9 50 [.int .i64 p.kind, .string p.name, .int .i64 p.var, .slice ya.1 p.args.length ya.2], pool tyR lo2 (fun k => k < hi2) [(p, ya)], blk b0 55 [.slice T.q T.ds.length T.c, .map (some T.b)]] k := fun k hk => NotOwned.blk (by omega) (NotOwned.pool (by omega) (NotOwned.blk (by omega) .nil))
   refine W.cls (C' := Cls [blk b9 50 [.int .i64 p.kind, .string p.name, .int .i64 p.var, .slice ya.1 p.args.length ya.2], pool tyR lo2 (fun k => k < hi2) [(p, ya)], blk b0 55 [.slice T.q T.ds.length T.c, .map (some T.b)]] [w]) (fun w' hw' => hw'.thin (.keep (.keep (.any (fun k hk => ⟨Nat.le_trans hlo1 hk.1, trivial⟩) Thin.same)))) ?_
   apply W.seq
   (refine W.regm (by (repeat (first | exact ZSplit.nil | apply ZSplit.pure rfl | apply ZSplit.tail))) (by (repeat (first | exact Tag.nil | apply Tag.pu rfl | apply Tag.ef))) (by kernel_rfl) (by decide +kernel) (fun w hw => hw.drew) ?_)
   apply ZL.ld rfl; exact Guard.none; rfl; rfl; apply Pev.load_blkA; rfl; exact yes; exact .tail _ (.tail _ (.head _)); rfl; exact Take.au
   apply ZL.op rfl; exact Guard.none; rfl; rfl; apply Pev.move; rfl; exact yes
   apply ZL.op rfl; exact Guard.none; rfl; rfl; apply Pev.move; rfl; exact yes
   apply ZL.op rfl; exact Guard.none; rfl; rfl; apply Pev.bin; rfl; exact yes; rfl; exact yes; intro hcond; apply Bin.sub_in; omega
   apply ZL.nilM
   apply TM.one rfl
   refine OL.callE (α := (Option Addr × Nat × List (List Ty × PY)) × Nat × Nat) (fun z => .slice z.1.1 z.1.2.2.length z.1.2.1) (fun z => z.1.2.2.map Prod.fst = rest rows ∧ z.1.2.2.length ≤ 100000 ∧ (∀ r ∈ z.1.2.2, patsR.ok w (low w) r.1 r.2) ∧ w.heap.size ≤ z.2.1) (fun z => Cls [pile z.2.1 (fun k => k < z.2.2) [⟨z.1.1, z.1.2.1, cat patsR.c z.1.2.2⟩], blk b9 50 [.int .i64 p.kind, .string p.name, .int .i64 p.var, .slice ya.1 p.args.length ya.2], pool tyR lo2 (fun k => k < hi2) [(p, ya)], blk b0 55 [.slice T.q T.ds.length T.c, .map (some T.b)]] [w]) rfl rfl (by exact Args.au) (fun w2 hw2 => ?_) ?_
   ·refine (rest_calls q cap rs w w2 (hw2.toExt (.head _) hH) (by omega) h hne).mono ?_
    rintro e w3 ⟨q', c', ls, h1, h2, h3, h4, h5, h6, h7⟩
    exact ⟨((q', c', ls), w2.heap.size, w3.heap.size), h1, ⟨by rw [h2, hrows], by simp only; omega, h6, (hw2.kp w (.head _)).size⟩, Cls.frs hw2 h7 h5⟩
   rintro ⟨⟨ql, cl, ls⟩, lo3, hi3⟩ ⟨hls, hlsl, hlso, hlo3⟩
   simp only at hls hlsl hlso hlo3 ⊢
   apply OL.nil
   refine At.tkm (fun w9 hw9 => hw9.thin (.any (fun k hk => ⟨Nat.le_trans hlo3 hk.1, trivial⟩) Thin.same)) ?_
   apply TM.one rfl
   rw [show ((cols + 1 : Nat) : Int) - 1 = (cols : Int) by omega]
   have hH3 : ∀ k, k < w.heap.size → NotOwned [pile lo3 (fun k => k < hi3) [⟨ql, cl, cat patsR.c ls⟩], blk b9 50 [.int .i64 p.kind, .string p.name, .int .i64 p.var, .slice ya.1 p.args.length ya.2], pool tyR lo2 (fun k => k < hi2) [(p, ya)], blk b0 55 [.slice T.q T.ds.length T.c, .map (some T.b)]] k := fun k hk => NotOwned.pile (by omega) (hH k hk)
   have hMr : Mat T.D (rest rows) cols := hM.tail rest_tail
   have hwr := wtR_rest rows
   refine OL.callE (α := (Option Addr × Nat × List (Ty × PY)) × Nat × Nat) (fun z => .tuple #[.slice z.1.1 z.1.2.2.length z.1.2.1, .bool (missingE T.D f (rest rows) cols).2]) (fun z => z.1.2.2.map Prod.fst = (missingE T.D f (rest rows) cols).1 ∧ z.1.2.2.length ≤ z.1.2.1 ∧ z.1.2.2.length ≤ cols ∧ w.heap.size ≤ z.2.1) (fun z => Cls [arrI z.2.1 (fun k => k < z.2.2) z.1.2.2 z.1.1, pile lo3 (fun k => k < hi3) [⟨ql, cl, cat patsR.c ls⟩], blk b9 50 [.int .i64 p.kind, .string p.name, .int .i64 p.var, .slice ya.1 p.args.length ya.2], pool tyR lo2 (fun k => k < hi2) [(p, ya)], blk b0 55 [.slice T.q T.ds.length T.c, .map (some T.b)]] [w]) rfl rfl (by exact Args.au) (fun w2 hw2 => ?_) ?_
   ·refine (ih ql cl cols ls w2 (hT.at hw2 (.head _) hH3) hlsl (Arr.of_sl (pile_at (hw2.item (.head _)) (.head _)) (fun r hr => Rel.at (R := patsR) (hlso r hr) hw2 (.head _) hH3)) (by rw [hls]; exact hMr) (by rw [hls]; omega) (by rw [hls]; omega)).mono ?_
    rintro e w3 ⟨q', c', ps, h1, h2, h3, h4, h5, h6⟩
    rw [hls] at h1 h2
    exact ⟨((q', c', ps), w2.heap.size, w3.heap.size), h1, ⟨h2, h3, h4, (hw2.kp w (.head _)).size⟩, Cls.arrI hw2 h6 h5⟩
   rintro ⟨⟨q4, c4, p4⟩, lo4, hi4⟩ ⟨hp4, hp4c, hp4l, hlo4⟩
   simp only at hp4 hp4c hp4l hlo4 ⊢
   apply OL.nil
   with_reducible apply At.tnm; decide +kernel
   apply TM.pure rfl; exact Guard.none; rfl; rfl; apply Pev.move; rfl; exact yes
   apply TM.pure rfl; exact Guard.none; rfl; rfl; apply Pev.extract; rfl; exact yes; rfl
   apply TM.pure rfl; exact Guard.none; rfl; rfl; apply Pev.extract; rfl; exact yes; rfl
   apply TM.pure rfl; exact Guard.none; rfl; rfl; apply Pev.assign; rfl; exact yes
   apply TM.pure rfl; exact Guard.none; rfl; rfl; apply Pev.assign; rfl; exact yes
   apply TM.nil
   with_reducible apply At.np
   with_reducible apply At.next
   apply W.sr
   apply oop; rfl; apply Pev.load_blkA; rfl; exact yes; exact .tail _ (.tail _ (.head _)); rfl; exact Take.au
   apply OL.buildSlice; rfl; rfl; rfl; exact Elems.au; rfl; rfl; (intro bk hbk; simp only [AllLe, and_true] at hbk)
   apply omv; rfl; rfl
   ((apply OL.appendB (news := cat tyR.c p4) (base := w.heap.size)); rfl; rfl; rfl; rfl; (exact Hole.au); (exact hbk); rfl; (exact fun w2 hw2 => (arrI_low hw2 (.tail _ (.head _))).slAt); (exact cat_length pat_len _); (exact cat_oneL pat_one _); (exact ⟨w, .head _, Nat.le_refl _⟩); (omega); (intro O1 q1 c1))
   apply omv; rfl; rfl
   apply oas; rfl; rfl
   apply oas; rfl; rfl
   apply OL.nx
   refine W.rt ?_
   ((with_reducible apply At.fin2); rfl; rfl; rfl; intro w' hw')
   refine ⟨q1, c1, (p, ya) :: p4, by rw [List.length_cons, Nat.add_comm], by rw [List.map_cons, hp4], ?_, by rw [List.length_cons]; omega, ?_, ?_⟩
   ·have := row_cap (hw'.item (.head _))
    rw [List.length_cons]
    omega
   ·have hF : FrA w w' ((p, ya) :: p4) q1 := FrA.of_row (m := 1 + p4.length) (cap := c1) (O := O1) (e := 50) hw' (.head _)
    refine ⟨hF, fun z hz => ?_⟩
    rcases List.mem_cons.1 hz with rfl | hz
    ·exact TyO.mono (fun k hk => ⟨Nat.le_trans hlo2 hk.1, hw'.lt (pool tyR lo2 (fun k => k < hi2) [(p, ya)]) (.tail _ (.tail _ (.tail _ (.tail _ (.head _))))) k hk⟩) (hw'.item (i := pool tyR lo2 (fun k => k < hi2) [(p, ya)]) (.tail _ (.tail _ (.tail _ (.tail _ (.head _))))) _ (.head _))
    ·exact TyO.mono (fun k hk => ⟨Nat.le_trans hlo4 hk.1, hw'.lt (arrI lo4 (fun k => k < hi4) p4 q4) (.tail _ (.head _)) k hk⟩) ((hw'.item (i := arrI lo4 (fun k => k < hi4) p4 q4) (.tail _ (.head _))).el z hz)
   ·exact hw'.toExt (s := w) (.head _) (fun k hk => NotOwned.row (by omega) (NotOwned.arrI (by omega) (NotOwned.pile (by omega) (NotOwned.blk (by omega) (NotOwned.pool (by omega) (NotOwned.blk (by omega) .nil))))))
  | none =>
   simp only [Option.getD_none, Option.isSome_none]
   obtain ⟨d, x0, hx0, hxd, hall, hcf, _, hcon⟩ := absent_none hM hab
   have hmi : missingE T.D (f + 1) rows (cols + 1) = missLoop (missingE T.D f) rows cols (consOf T.D d) := by
    simp only [missingE]
    rw [hab, hcf]
   rw [hmi]
   have h3 : ∀ q ∈ first rows, q.kind = 3 := fun q hq => (hall q hq).1
   obtain ⟨z0, pf', hpf0⟩ : ∃ z r, pf = z :: r := by
    cases hx : pf with
    | nil => rw [hx] at hpf; rw [← hpf] at hx0; cases hx0
    | cons z r => exact ⟨z, r, rfl⟩
   have hz0m : z0.1 ∈ first rows := hpm z0 (by rw [hpf0]; exact .head _)
   obtain ⟨hz3, hzd⟩ := hall _ hz0m
   obtain ⟨c0, e1⟩ : ∃ c0, conAt T.D z0.1.name = some (d, c0) := by
    obtain ⟨d', c', g1, _⟩ := (hM.wf_first hz0m).1.cons hz3
    rw [dOf_of g1] at hzd
    cases hzd
    exact ⟨c', g1⟩
   obtain ⟨ad, ud, cs, k1, k2, k3, k4, k5, k6, k7⟩ := dat_at hT e1
   obtain ⟨ix, hmg⟩ := hT.tab.con e1
   have hcu := hT.uniq
   apply omv; rfl; rfl
   apply oex; rfl; rfl; rfl
   apply oex; rfl; rfl; rfl
   apply OL.alloc; rfl; rfl; exact CellsL.agg; (intro bk hbk; simp only [AllLe, and_true] at hbk)
   apply OL.storeB; rfl; rfl; exact CellsL.agg; rfl; rfl; rfl; exact Swap.au; exact Put.au
   apply oas; rfl; rfl
   apply OL.nsr
   apply omv; rfl; rfl
   apply OL.nx
   revert bk
   intro b9 hb9
   refine W.cond rfl (fun hb => by cases hb) (fun _ => ?_)
   refine W.cls (C' := Cls [pile lo1 (fun k => k < hi1) [⟨qf, cf, cat tyR.c pf⟩], blk b0 55 [.slice T.q T.ds.length T.c, .map (some T.b)]] [w]) (fun w' hw' => hw'.thin (.blk (by simp only [AllLe, and_true]; omega) (.any (fun k hk => ⟨Nat.le_trans hlo2 hk.1, trivial⟩) Thin.same))) ?_
   refine W.fact (φ := ∃ a, qf = some a) (fun w' hw' => pile_some (hw'.item (.head _)) (.head _) (by rw [hpf0]; exact Nat.succ_pos _)) (fun hq => ?_)
   obtain ⟨af, rfl⟩ := hq
   have hpl0 : 0 < pf.length := by rw [hpf0]; exact Nat.succ_pos _
   rw [k1] at hno1 ⊢
   apply W.sk
   apply W.seq
   apply W.seq
   apply W.regd0; decide +kernel; kernel_rfl; decide +kernel; exact fun w hw => hw.drew
   apply qfa; rfl; rfl; rfl
   apply qld; rfl; rfl; exact .tail _ (.head _); rfl; rfl
   apply qfa; rfl; rfl; rfl
   apply qld; rfl; rfl; exact .tail _ (.head _); rfl; rfl
   apply qmv; rfl; rfl
   apply qop; rfl; apply Pev.idx; rfl; exact yes; rfl; exact yes; rfl; rfl; intro hcond; omega
   apply qop; rfl; apply Pev.fldA; rfl; exact yes; rfl
   (((first | (with_reducible apply OL.op) | (with_reducible apply QL.op)); (exact Guard.au); rfl; rfl); (refine Pev.load_pile (s := ⟨some af, cf, cat tyR.c pf⟩) (k := 1) (v := .string z0.1.name) rfl (by (first | exact fun _ => rfl | exact fun h => h | (intro h; simp_all; done))) (.head _) rfl (.head _) rfl (by rw [hpf0]; rfl)))
   skip
   (((first | (with_reducible apply OL.op) | (with_reducible apply QL.op)); (exact Guard.au); rfl; rfl); (refine Pev.lookup_v (m := T.m) (v := .agg #[.int .i64 (d : Int), .int .i64 ix, .int .i64 (c0.many : Int)]) (zv := .agg #[.int .i64 0, .int .i64 0, .int .i64 0]) rfl (by (first | exact fun _ => rfl | exact fun h => h | (intro h; simp_all; done))) rfl (by (first | exact fun _ => rfl | exact fun h => h | (intro h; simp_all; done))) rfl rfl (fun w2 hw2 => (hT.at hw2 (by exact mau) hno1).map_) (by rw [hmg]; rfl)))
   apply qop; rfl; apply Pev.field; rfl; exact yes; rfl; rfl
   apply qop; rfl; apply Pev.idx; rfl; exact yes; rfl; exact yes; rfl; rfl; intro hcond; omega
   apply qop; rfl; apply Pev.fldA; rfl; exact yes; rfl
   apply qop; rfl; apply Pev.load_kept; rfl; exact yes; exact .head _; rfl; intro hcond; apply CellsAt.at_ (by assumption) rfl; intro hcond; (simp only [add_block]; assumption); intro hcond; exact NotOwned.au
   apply qop; rfl; apply Pev.len_slice; rfl; exact yes; rfl
   apply qmv; rfl; rfl
   apply QL.nil
   with_reducible apply At.next
   apply W.block
   have hH0 : ∀ k, k < w.heap.size → NotOwned [blk b0 55 [.slice (some ad) T.ds.length T.c, .map (some T.b)]] k := fun k hk => NotOwned.blk (by omega) .nil
   refine W.loop (G := Nat) (fun j => j ≤ cs.length ∧ missLoop (missingE T.D f) rows cols ((cs.map Prod.fst).drop j) = missLoop (missingE T.D f) rows cols (consOf T.D d)) (fun j => cs.length - j)
    (fun j => [(1, true, .slice q rs.length cap), (2, true, .int .i64 ((cols + 1 : Nat) : Int)), (3, true, .pointer (some ⟨b0, 0, none⟩)), (59, true, .slice ud.2.q cs.length ud.2.cap), (60, true, .int .i64 (cs.length : Int)), (61, true, .int .i64 (j : Int))])
    (fun j => Cls [blk b0 55 [.slice (some ad) T.ds.length T.c, .map (some T.b)]] [w]) 0 ⟨Nat.zero_le _, by rw [k5]; rfl⟩ (by exact Sub.au) (fun w' hw' => hw'.thin (.any (fun k hk => ⟨Nat.le_trans hlo1 hk.1, trivial⟩) Thin.same)) ?_
   rintro j ⟨hj1, hj2⟩
   apply W.sr
   apply obn; rfl; rfl; rfl; apply Bin.lss
   apply OL.nx
   apply W.seq
   (refine W.cnd (fun hlt => ?_) (fun hlt => ?_)) <;> (try (exfalso; first | omega | exact hlt trivial | contradiction))
   ·obtain ⟨ac, uc, hq3, hab3, hu3, hcell3, hok3⟩ := k6.get (show j < cs.length by omega)
    have hab3 : ac.block < w.heap.size := hab3
    have hcell3 : CellsAt w (ac.add (j * 2)) [.string uc.1.name, .slice uc.2.1 uc.1.many uc.2.2] := hcell3
    have hdr : (cs.map Prod.fst).drop j = uc.1 :: (cs.map Prod.fst).drop (j + 1) := by
     have hl : j < (cs.map Prod.fst).length := by rw [List.length_map]; omega
     rw [List.drop_eq_getElem_cons hl]
     congr 1
     rw [List.getElem_map]
     rw [List.getElem?_eq_getElem (by omega)] at hu3
     rw [Option.some.inj hu3]
    have hcm : uc.1 ∈ consOf T.D d := by
     rw [k5]
     exact List.mem_map_of_mem (List.mem_of_getElem? hu3)
    have hcc := hcu d uc.1 hcm
    have hMn := hM.narrow hcc h3
    have hocc := occurs hcu hM hall hcon hcm
    rw [hdr, missLoop] at hj2
    rw [hq3]
    apply W.sk
    apply W.sb
    apply W.sr
    apply oop; rfl; apply Pev.idx; rfl; exact yes; rfl; exact yes; rfl; rfl; intro hcond; omega
    apply oop; rfl; apply Pev.load_keptA; rfl; exact yes; exact .head _; rfl; intro hcond; assumption; rfl; intro hcond; (rw [add_block]; assumption); intro hcond; exact NotOwned.au
    apply OL.alloc; rfl; rfl; exact CellsL.agg; (intro bk hbk; simp only [AllLe, and_true] at hbk)
    apply OL.storeB; rfl; rfl; exact CellsL.agg; rfl; rfl; rfl; exact Swap.au; exact Put.au
    apply OL.nsr
    apply ofa; rfl; rfl; rfl
    apply old; rfl; rfl; exact .head _; rfl; rfl
    apply oop; rfl; apply Pev.len_slice; rfl; exact yes; rfl
    apply oas; rfl; rfl
    apply OL.nx
    apply W.seq
    revert bk
    intro b14 hb14
    have hH1 : ∀ k, k < w.heap.size → NotOwned [blk b14 86 [.string uc.1.name, .slice uc.2.1 uc.1.many uc.2.2], blk b0 55 [.slice (some ad) T.ds.length T.c, .map (some T.b)]] k := fun k hk => NotOwned.blk (by omega) (NotOwned.blk (by omega) .nil)
    have hnsz : ∀ r ∈ rs, ∀ p t, r.1 = p :: t → t.length ≤ 10000000 ∧ (free p = false → p.name = uc.1.name → p.args.length ≤ 10000000) := fun r hr p t he => by
     obtain ⟨g1, g2⟩ := narrow_sz (rs := rs) (cols := cols) (B := 100000) (by rw [hrows]; exact hM) (by rw [hrows]; omega) uc.1.name r hr p t he
     exact ⟨by omega, fun a b => by have := g2 a b; omega⟩
    (refine W.regm (by (repeat (first | exact ZSplit.nil | apply ZSplit.pure rfl | apply ZSplit.tail))) (by (repeat (first | exact Tag.nil | apply Tag.pu rfl | apply Tag.ef))) (by kernel_rfl) (by decide +kernel) (fun w hw => hw.drew) ?_)
    apply ZL.ld rfl; exact Guard.none; rfl; rfl; apply Pev.load_blkA; rfl; exact yes; exact .tail _ (.head _); rfl; exact Take.au
    apply ZL.op rfl; exact Guard.none; rfl; rfl; apply Pev.move; rfl; exact yes
    apply ZL.op rfl; exact Guard.none; rfl; rfl; apply Pev.fld; rfl; exact yes; rfl
    apply ZL.ld rfl; exact Guard.none; rfl; rfl; apply Pev.load_blk; rfl; exact yes; exact .head _; rfl; rfl
    apply ZL.op rfl; exact Guard.none; rfl; rfl; apply Pev.move; rfl; exact yes
    apply ZL.op rfl; exact Guard.none; rfl; rfl; apply Pev.move; rfl; exact yes
    apply ZL.op rfl; exact Guard.none; rfl; rfl; apply Pev.move; rfl; exact yes
    apply ZL.op rfl; exact Guard.none; rfl; rfl; apply Pev.bin; rfl; exact yes; rfl; exact yes; intro hcond; apply Bin.add_in; omega
    apply ZL.op rfl; exact Guard.none; rfl; rfl; apply Pev.bin; rfl; exact yes; rfl; exact yes; intro hcond; apply Bin.sub_in; omega
    apply ZL.nilM
    apply TM.one rfl
    refine OL.callE (α := GE × (Nat → Prop) × Nat) (fun z => .slice z.1.q z.1.ps.length z.1.c) (fun z => z.1.ps.map (fun r => r.1.map Prod.fst) = narrow rows uc.1.name uc.1.many ∧ z.1.ps.length ≤ 100000 ∧ w.heap.size ≤ z.2.2) (fun z => Cls [row z.2.2 z.1.O z.1.q z.1.ps.length z.1.c 25 1 (cat (patsE (fun p => TyO w (low w) p.1 p.2)).c z.1.ps), pool (patsE (fun p => TyO w (low w) p.1 p.2)) z.2.2 z.2.1 z.1.ps, blk b14 86 [.string uc.1.name, .slice uc.2.1 uc.1.many uc.2.2], blk b0 55 [.slice (some ad) T.ds.length T.c, .map (some T.b)]] [w]) rfl rfl (by exact Args.au) (fun w2 hw2 => ?_) ?_
    ·refine (narrow_calls q cap rs uc.1.name uc.1.many w w2 (hw2.toExt (.head _) hH1) (by omega) h hne (by omega) hnsz).mono ?_
     rintro e w3 ⟨g, O2, h1, h2, h3, h4⟩
     rw [hrows] at h2
     refine ⟨(g, O2, w2.heap.size), h1, ⟨h2, by simp only; omega, (hw2.kp w (.head _)).size⟩, hw2.over (h4.forget (fun s hs => by rw [List.mem_singleton] at hs; rw [hs]; exact .head _)) (fun i hi k hk => ?_)⟩
     rcases List.mem_cons.1 hi with rfl | hi
     ·exact hk.1
     ·rw [List.mem_singleton] at hi
      subst hi
      exact hk.1
    rintro ⟨⟨On, qn, cn, pn⟩, On2, lo3⟩ ⟨hpn, hpnl, hlo3⟩
    simp only at hpn hpnl hlo3 ⊢
    apply OL.nil
    refine At.tkm (fun w9 hw9 => hw9.thin (.any (fun k hk => ⟨Nat.le_trans hlo3 hk.1, trivial⟩) (.any (fun k hk => ⟨Nat.le_trans hlo3 hk.1, trivial⟩) Thin.same))) ?_
    apply TM.one rfl
    rw [show (uc.1.many : Int) + ((cols + 1 : Nat) : Int) - 1 = ((uc.1.many + cols : Nat) : Int) by omega]
    have hH3 : ∀ k, k < w.heap.size → NotOwned [row lo3 On qn pn.length cn 25 1 (cat (patsE (fun p => TyO w (low w) p.1 p.2)).c pn), pool (patsE (fun p => TyO w (low w) p.1 p.2)) lo3 On2 pn, blk b14 86 [.string uc.1.name, .slice uc.2.1 uc.1.many uc.2.2], blk b0 55 [.slice (some ad) T.ds.length T.c, .map (some T.b)]] k := fun k hk => NotOwned.row (by omega) (NotOwned.pool (by omega) (hH1 k hk))
    obtain ⟨ms, hms⟩ : ∃ ms, missingE T.D f (narrow rows uc.1.name uc.1.many) (uc.1.many + cols) = ms := ⟨_, rfl⟩
    refine OL.callE (α := (Option Addr × Nat × List (Ty × PY)) × Nat × Nat) (fun z => .tuple #[.slice z.1.1 z.1.2.2.length z.1.2.1, .bool ms.2]) (fun z => z.1.2.2.map Prod.fst = ms.1 ∧ z.1.2.2.length ≤ z.1.2.1 ∧ z.1.2.2.length ≤ uc.1.many + cols ∧ w.heap.size ≤ z.2.1) (fun z => Cls [arrI z.2.1 (fun k => k < z.2.2) z.1.2.2 z.1.1, blk b14 86 [.string uc.1.name, .slice uc.2.1 uc.1.many uc.2.2], blk b0 55 [.slice (some ad) T.ds.length T.c, .map (some T.b)]] [w]) rfl rfl (by exact Args.au) (fun w2 hw2 => ?_) ?_
    ·have harr := pool_arr hw2 (.head _) (.tail _ (.head _)) (hw2.toExt (.head _) hH3)
     have hmap : (pn.map fun r => (r.1.map Prod.fst, r.2)).map Prod.fst = narrow rows uc.1.name uc.1.many := by rw [List.map_map, ← hpn]; rfl
     have hc := ih qn cn (uc.1.many + cols) (pn.map fun r => (r.1.map Prod.fst, r.2)) w2 (hT.at hw2 (.head _) hH3) (by rw [List.length_map]; exact hpnl) harr (by rw [hmap]; exact hMn) (by rw [hmap]; omega) (by rw [hmap]; omega)
     rw [hmap, List.length_map, hms] at hc
     unfold TT.v at hc
     rw [k1] at hc
     refine hc.mono ?_
     rintro e w3 ⟨q', c', ps, h1, h2, h3, h4, h5, h6⟩
     exact ⟨((q', c', ps), w2.heap.size, w3.heap.size), h1, ⟨h2, h3, h4, (hw2.kp w (.head _)).size⟩, (Cls.arrI hw2 h6 h5).thin (.keep (.any (fun k hk => ⟨Nat.le_trans hlo3 hk.1, trivial⟩) (.any (fun k hk => ⟨Nat.le_trans hlo3 hk.1, trivial⟩) Thin.same)))⟩
    rintro ⟨⟨q4, c4, p4⟩, lo4, hi4⟩ ⟨hp4, hp4c, hp4l, hlo4⟩
    simp only at hp4 hp4c hp4l hlo4 ⊢
    rw [hms] at hj2
    apply OL.nil
    with_reducible apply At.tnm; decide +kernel
    apply TM.pure rfl; exact Guard.none; rfl; rfl; apply Pev.move; rfl; exact yes
    apply TM.pure rfl; exact Guard.none; rfl; rfl; apply Pev.extract; rfl; exact yes; rfl
    apply TM.pure rfl; exact Guard.none; rfl; rfl; apply Pev.extract; rfl; exact yes; rfl
    apply TM.pure rfl; exact Guard.none; rfl; rfl; apply Pev.assign; rfl; exact yes
    apply TM.pure rfl; exact Guard.none; rfl; rfl; apply Pev.assign; rfl; exact yes
    apply TM.nil
    with_reducible apply At.np
    with_reducible apply At.next
    apply W.sr
    apply omv; rfl; rfl
    apply OL.nx
    refine W.cond rfl (fun hb => ?_) (fun hb => ?_)
    ·have hb : ms.2 = true := hb
     rw [if_pos hb] at hj2
     rw [← hj2]
     have hml : p4.length = uc.1.many + cols := by
      have := (missing_sound hcu f _ _ hMn (by rw [hms]; exact hb)).1
      rw [hms, ← hp4, List.length_map] at this
      exact this
     have htl : (p4.take uc.1.many).length = uc.1.many := by rw [List.length_take]; omega
     apply W.seq
     refine W.joinx (G := Nat × PY × Nat × Nat) (fun z => w.heap.size ≤ z.1 ∧ w.heap.size ≤ z.2.2.1 ∧ uc.1.many ≤ z.2.1.2) (fun z => [(15, true, .int .i64 (uc.1.many : Int)), (16, true, .slice q4 p4.length c4), (18, true, .pointer (some ⟨z.1, 0, none⟩))])
      (fun z => Cls [blk z.1 50 [.int .i64 3, .string uc.1.name, .int .i64 0, .slice z.2.1.1 uc.1.many z.2.1.2], pile z.2.2.1 (fun k => k < z.2.2.2) [⟨z.2.1.1, z.2.1.2, cat tyR.c (p4.take uc.1.many)⟩], arrI lo4 (fun k => k < hi4) p4 q4, blk b14 86 [.string uc.1.name, .slice uc.2.1 uc.1.many uc.2.2], blk b0 55 [.slice (some ad) T.ds.length T.c, .map (some T.b)]] [w]) ?_ ?_
     ·refine W.regp (.fk 5 (.pu 6 (.ef 7 (.ef 8 .nil))) 7 (.ef 5 (.pu 6 (.ef 8 .nil)))) (by (repeat (first | exact ZSplit.nil | apply ZSplit.pure rfl | apply ZSplit.tail))) (by kernel_rfl) (by decide +kernel) (fun w hw => hw.drew) (fun hyy => ?_)
      apply ZL.op rfl; exact Guard.none; rfl; rfl; apply Pev.fld; rfl; exact yes; rfl
      apply ZL.ld rfl; exact Guard.none; rfl; rfl; apply Pev.load_blk; rfl; exact yes; exact .tail _ (.head _); rfl; rfl
      apply ZL.op rfl; exact Guard.none; rfl; rfl; apply Pev.move; rfl; exact yes
      apply ZL.op rfl; exact Guard.none; rfl; rfl; apply Pev.move; rfl; exact yes
      apply ZL.op rfl; exact Guard.none; rfl; rfl; apply Pev.slice_hi; rfl; exact yes; rfl; exact yes; rfl; rfl; intro hcond; omega
      apply ZL.nilN
      refine TN.fk hyy rfl rfl ?_ ?_
      ·refine OL.callE (α := PY × Nat × Nat) (fun z => .slice z.1.1 uc.1.many z.1.2) (fun z => w.heap.size ≤ z.2.1 ∧ uc.1.many ≤ z.1.2) (fun z => Cls [pile z.2.1 (fun k => k < z.2.2) [⟨z.1.1, z.1.2, cat tyR.c (p4.take uc.1.many)⟩], arrI lo4 (fun k => k < hi4) p4 q4, blk b14 86 [.string uc.1.name, .slice uc.2.1 uc.1.many uc.2.2], blk b0 55 [.slice (some ad) T.ds.length T.c, .map (some T.b)]] [w]) rfl rfl (by exact Args.au) (fun w2 hw2 => ?_) ?_
       ·have hc := Clone2_calls q4 c4 (p4.take uc.1.many) w2 (by omega) ((arrI_low hw2 (.head _)).take uc.1.many).slAt
        rw [htl] at hc
        refine hc.mono ?_
        rintro e w3 ⟨q', c', h1, h2, h3, h4⟩
        exact ⟨((q', c'), w2.heap.size, w3.heap.size), h1, ⟨(hw2.kp w (.head _)).size, by omega⟩, Cls.fra hw2 h3 h2⟩
       rintro ⟨y5, lo5, hi5⟩ ⟨hlo5, hcap5⟩
       simp only at hlo5 hcap5 ⊢
       apply OL.nil
       refine At.tkn (fun w9 hw9 => hw9.thin (.any (fun k hk => ⟨Nat.le_trans hlo5 hk.1, trivial⟩) Thin.same)) ?_
       apply TN.pu (by assumption) rfl rfl; exact Guard.none; rfl; rfl; apply Pev.build; rfl; exact CellsL.agg; rfl; exact Fill.au; rfl
       apply TN.ef (by assumption) rfl
       apply OL.alloc; rfl; rfl; exact CellsL.agg; (intro bk hbk; simp only [AllLe, and_true] at hbk)
       apply OL.nil
       refine At.tkn (fun w9 hw9 => hw9.thin (.blk (by simp only [AllLe, and_true]; omega) (.any (fun k hk => ⟨Nat.le_trans hlo5 hk.1, trivial⟩) Thin.same))) ?_
       apply TN.ef (by assumption) rfl
       apply OL.storeB; rfl; rfl; exact CellsL.agg; rfl; rfl; rfl; exact Swap.au; exact Put.au
       apply OL.nil
       with_reducible apply At.tnn; decide +kernel
       apply TN.nil
       with_reducible apply At.np
       exact At.joinedx (bk, y5, lo5, hi5) ⟨hbk, hlo5, hcap5⟩ (by exact Sub.au) (fun w' hw' => hw')
      ·apply OL.alloc; rfl; rfl; exact CellsL.agg; (intro bk hbk; simp only [AllLe, and_true] at hbk)
       apply OL.nil
       refine At.tkn (fun w hw => hw.thin ?_) ?_; exact Thin.au
       apply TN.ef (by assumption) rfl
       refine OL.callE (α := PY × Nat × Nat) (fun z => .slice z.1.1 uc.1.many z.1.2) (fun z => w.heap.size ≤ z.2.1 ∧ uc.1.many ≤ z.1.2) (fun z => Cls [pile z.2.1 (fun k => k < z.2.2) [⟨z.1.1, z.1.2, cat tyR.c (p4.take uc.1.many)⟩], blk bk 50 [.int .i64 0, .string ⟨#[]⟩, .int .i64 0, .slice none 0 0], arrI lo4 (fun k => k < hi4) p4 q4, blk b14 86 [.string uc.1.name, .slice uc.2.1 uc.1.many uc.2.2], blk b0 55 [.slice (some ad) T.ds.length T.c, .map (some T.b)]] [w]) rfl rfl (by exact Args.au) (fun w2 hw2 => ?_) ?_
       ·have hc := Clone2_calls q4 c4 (p4.take uc.1.many) w2 (by omega) ((arrI_low hw2 (.tail _ (.head _))).take uc.1.many).slAt
        rw [htl] at hc
        refine hc.mono ?_
        rintro e w3 ⟨q', c', h1, h2, h3, h4⟩
        exact ⟨((q', c'), w2.heap.size, w3.heap.size), h1, ⟨(hw2.kp w (.head _)).size, by omega⟩, Cls.fra hw2 h3 h2⟩
       rintro ⟨y5, lo5, hi5⟩ ⟨hlo5, hcap5⟩
       simp only at hlo5 hcap5 ⊢
       apply OL.nil
       refine At.tkn (fun w9 hw9 => hw9.thin (.any (fun k hk => ⟨Nat.le_trans hlo5 hk.1, trivial⟩) (.blk (by simp only [AllLe, and_true]; omega) Thin.same))) ?_
       apply TN.pu (by assumption) rfl rfl; exact Guard.none; rfl; rfl; apply Pev.build; rfl; exact CellsL.agg; rfl; exact Fill.au; rfl
       apply TN.ef (by assumption) rfl
       apply OL.storeB; rfl; rfl; exact CellsL.agg; rfl; rfl; rfl; exact Swap.au; exact Put.au
       apply OL.nil
       with_reducible apply At.tnn; decide +kernel
       apply TN.nil
       with_reducible apply At.np
       exact At.joinedx (bk, y5, lo5, hi5) ⟨hbk, hlo5, hcap5⟩ (by exact Sub.au) (fun w' hw' => hw'.flip)
     rintro ⟨b18, y5, lo5, hi5⟩ ⟨hb18, hlo5, hcap5⟩
     simp only at hb18 hlo5 hcap5 ⊢
     apply W.seq
     apply W.regz; apply ZSplit.pure rfl; apply ZSplit.tail; apply ZSplit.pure rfl; apply ZSplit.pure rfl; apply ZSplit.pure rfl; apply ZSplit.tail; apply ZSplit.tail; apply ZSplit.tail; exact ZSplit.nil; kernel_rfl; decide +kernel; exact fun w hw => hw.drew
     apply ZL.ld rfl; exact Guard.none; rfl; rfl; apply Pev.load_blkA; rfl; exact yes; exact .head _; rfl; exact Take.au
     apply ZL.op rfl; exact Guard.none; rfl; rfl; apply Pev.move; rfl; exact yes
     apply ZL.op rfl; exact Guard.none; rfl; rfl; apply Pev.move; rfl; exact yes
     apply ZL.op rfl; exact Guard.none; rfl; rfl; apply Pev.slice_lo; rfl; exact yes; rfl; exact yes; rfl; rfl; intro hcond; omega
     apply ZL.nil
     apply TL.one rfl
     apply OL.buildSlice; rfl; rfl; rfl; exact Elems.au; rfl; rfl; (intro bk hbk; simp only [AllLe, and_true] at hbk)
     apply OL.nil
     with_reducible apply At.tn; decide +kernel
     apply TL.one rfl
     ((apply OL.appendB (news := cat tyR.c (p4.drop uc.1.many)) (base := w.heap.size)); rfl; rfl; rfl; rfl; (exact Hole.au); (exact hbk); rfl; (exact fun w2 hw2 => (Arr.drop (arrI_low hw2 (.tail _ (.tail _ (.tail _ (.head _))))) hp4c uc.1.many).slAt); (rw [cat_length pat_len, List.length_drop]); (exact cat_oneL pat_one _); (exact ⟨w, .head _, Nat.le_refl _⟩); (omega); (intro O1 q1 c1))
     apply OL.nil
     with_reducible apply At.tn; decide +kernel
     apply TL.one rfl
     apply oas; rfl; rfl
     apply OL.nil
     with_reducible apply At.tn; decide +kernel
     apply TL.one rfl
     apply oas; rfl; rfl
     apply OL.nil
     with_reducible apply At.tn; decide +kernel
     apply TL.nil
     with_reducible apply At.np
     with_reducible apply At.next
     refine W.rt ?_
     ((with_reducible apply At.fin2); rfl; rfl; rfl; intro w' hw')
     obtain ⟨pn0, hpn0⟩ : ∃ pn0 : Ty × PY, pn0 = (.mk 3 uc.1.name 0 ((p4.take uc.1.many).map Prod.fst), y5) := ⟨_, rfl⟩
     have hcell : [Value.int .i64 3, .string uc.1.name, .int .i64 0, .slice y5.1 uc.1.many y5.2] ++ cat tyR.c (p4.drop uc.1.many) = cat tyR.c (pn0 :: p4.drop uc.1.many) := by
      rw [hpn0]
      show _ = [Value.int .i64 3, .string uc.1.name, .int .i64 0, .slice y5.1 ((p4.take uc.1.many).map Prod.fst).length y5.2] ++ _
      rw [List.length_map, htl]
     rw [hcell] at hw'
     have hrow := hw'.item (.head _)
     have hel4 : ∀ z ∈ p4, TyO w' (fresh w w') z.1 z.2 := fun z hz => TyO.mono (fun k hk => ⟨Nat.le_trans hlo4 hk.1, hw'.lt (arrI lo4 (fun k => k < hi4) p4 q4) (.tail _ (.tail _ (.tail _ (.head _)))) k hk⟩) ((hw'.item (i := arrI lo4 (fun k => k < hi4) p4 q4) (.tail _ (.tail _ (.tail _ (.head _))))).el z hz)
     have hp0 : TyO w' (fresh w w') pn0.1 pn0.2 := by
      rw [hpn0]
      refine TyO.of_parts (k := 3) (v := 0) (nm := uc.1.name) (q := y5.1) (cap := y5.2) (by simp [I64]) (by simp [I64]) (by omega) (by omega) ⟨fun hl => ?_, fun z hz => hel4 z (List.mem_of_mem_take hz)⟩
      obtain ⟨a5, g1, g2, g3⟩ := hw'.item (i := pile lo5 (fun k => k < hi5) [⟨y5.1, y5.2, cat tyR.c (p4.take uc.1.many)⟩]) (.tail _ (.tail _ (.head _))) _ (.head _) (by show 0 < (cat tyR.c _).length; rw [cat_length (f := tyR.c) tyR.clen]; exact Nat.mul_pos hl tyR.pos)
      exact ⟨a5, g1, ⟨Nat.le_trans hlo5 g2.1, hw'.lt (pile lo5 (fun k => k < hi5) [⟨y5.1, y5.2, cat tyR.c (p4.take uc.1.many)⟩]) (.tail _ (.tail _ (.head _))) _ g2⟩, g3⟩
     refine ⟨q1, c1, pn0 :: p4.drop uc.1.many, by rw [List.length_cons, List.length_drop, Nat.add_comm], ?_, ?_, by rw [List.length_cons, List.length_drop]; omega, ⟨FrA.of_row (m := 1 + (p4.length - uc.1.many)) (cap := c1) (O := O1) (e := 50) hw' (.head _), fun z hz => ?_⟩, ?_⟩
     ·rw [List.map_cons, List.map_drop, hp4, hpn0]
      simp only [List.map_take, hp4]
     ·have := row_cap hrow
      rw [List.length_cons, List.length_drop]
      omega
     ·rcases List.mem_cons.1 hz with rfl | hz
      ·exact hp0
      ·exact hel4 z (List.mem_of_mem_drop hz)
     ·exact hw'.toExt (s := w) (.head _) (fun k hk => NotOwned.row (by omega) (NotOwned.blk (by omega) (NotOwned.pile (by omega) (NotOwned.arrI (by omega) (hH1 k hk)))))
    ·have hb : ms.2 = false := hb
     rw [if_neg (by rw [hb]; decide)] at hj2
     apply W.skip
     with_reducible apply At.in_normal
     with_reducible apply At.next
     apply W.reg
     apply obn; rfl; rfl; rfl; apply Bin.add_in; omega
     apply omv; rfl; rfl
     apply OL.nil
     exact At.again (j + 1) ⟨by omega, hj2⟩ (by omega) (by exact Sub.au) (fun w' hw' => hw'.thin (.any (fun k hk => ⟨Nat.le_trans hlo4 hk.1, trivial⟩) (.blk (by simp only [AllLe, and_true]; omega) Thin.same)))
   ·rw [List.drop_eq_nil_of_le (by rw [List.length_map]; omega), missLoop] at hj2
    rw [← hj2]
    refine W.xt ?_
    with_reducible apply At.next
    apply W.sr
    apply oas; rfl; rfl
    apply oas; rfl; rfl
    apply OL.nx
    apply W.ret
    ((with_reducible apply At.fin2); rfl; rfl; rfl; intro w' hw')
    exact ⟨none, 0, [], rfl, rfl, Nat.le_refl _, Nat.zero_le _, Arr.nil, by (exact hw'.fr)⟩
end Go.Proofs.Ytleggdmhihcafaa.pt
