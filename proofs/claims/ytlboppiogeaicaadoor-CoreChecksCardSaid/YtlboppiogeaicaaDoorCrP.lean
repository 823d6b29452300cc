/- Plain: what the reference's checks of a core expression's nodes compute, and that it is what core's own checks compute. No program in sight. No condition. -/
import Derived.Test.YtlboppiogeaicaaDoorCoQ
namespace Go.Co
set_option linter.unusedVariables false
set_option linter.unusedSimpArgs false
def kidsR (x : Ex) : Int × Bool :=
  if x.op = 0 ∨ x.op = 1 ∨ x.op = 17 then (0, true)
  else if x.op = 2 then (1, false)
  else if x.op = 4 then (2, false)
  else if x.op = 3 then (((max x.kids.length 1 : Nat) : Int), false)
  else if x.op = 5 then ((x.binds.length : Int) + 1, false)
  else if x.op = 7 ∨ x.op = 13 then ((x.alts.length : Int) + 1, false)
  else if x.op = 9 then ((x.binds.length : Int), false)
  else if x.op = 10 ∨ x.op = 12 ∨ x.op = 16 then (1, true)
  else if x.op = 11 then (2, true)
  else if x.op = 6 ∨ x.op = 14 ∨ x.op = 15 then ((x.kids.length : Int), true)
  else if x.op = 8 then (if x.n = 7 ∨ x.n = 9 then (1, true) else if x.n = 11 then (3, true) else if 0 ≤ x.n ∧ x.n < 11 then (2, true) else (-1, false))
  else (-1, false)
def altR1 (x : Ex) (i : Nat) (a : Al) : Bool :=
  !((x.alts.take i).any fun b => decide (b.tag = a.tag)) && !decide (a.tag < -1) && !(decide (x.op = 7) && decide (a.tag = -1) && (decide (i + 1 < x.alts.length) || !decide (a.binds.length = 0)))
    && !(decide (x.op = 13) && (decide (i = 0) && (!decide (a.tag = -1) || !decide (a.binds.length = 1)) || decide (0 < i) && (decide (a.tag < 0) || !decide (a.binds.length = 2))))
def altsR1 (x : Ex) : Bool := (List.range x.alts.length).all fun i => altR1 x i (x.alts.getD i ⟨0, []⟩)
def altsR (x : Ex) : Bool := if ¬ x.op = 7 ∧ ¬ x.op = 13 then decide (x.alts.length = 0) else altsR1 x && (decide (x.op = 7) || decide (0 < x.alts.length))
def bindsR (x : Ex) : Bool := if x.op = 2 ∨ x.op = 9 then true else if x.op = 4 then decide (x.binds.length = 1) else if x.op = 5 then decide (0 < x.binds.length) else decide (x.binds.length = 0)
def formR (x : Ex) : Bool := decide ((kidsR x).1 = (x.kids.length : Int)) && ((kidsR x).2 || decide (x.n = 0)) && altsR x && bindsR x
theorem altR1_eq (x : Ex) (i : Nat) (a : Al) : altR1 x i a = altOk x i a := by
  unfold altR1 altOk
  generalize (x.alts.take i).any (fun b => decide (b.tag = a.tag)) = c
  generalize x.alts.length = m
  generalize a.binds.length = b
  generalize a.tag = t
  generalize x.op = o
  rw [Bool.eq_iff_iff]
  simp only [Bool.and_eq_true, Bool.not_eq_true', Bool.or_eq_false_iff, Bool.and_eq_false_iff, decide_eq_true_eq, decide_eq_false_iff_not, Bool.not_eq_false', beq_eq_false_iff_ne, beq_iff_eq, Bool.not_eq_true, ne_eq, decide_eq_decide]
  constructor
  · rintro ⟨⟨⟨h1, h2⟩, h3⟩, h4⟩
    refine ⟨⟨⟨⟨h1, by omega⟩, by omega⟩, by omega⟩, by omega⟩
  · rintro ⟨⟨⟨⟨h1, h2⟩, h3⟩, h4⟩, h5⟩
    refine ⟨⟨⟨h1, by omega⟩, by omega⟩, ?_⟩
    by_cases h : o = 13
    · right
      have e4 : i = 0 ↔ t = -1 := by omega
      have e5 : b = min (i + 1) 2 := by omega
      omega
    · exact .inl h
theorem altsR_eq (x : Ex) (h : x.op = 7 ∨ x.op = 13) : altsR x = (altsOk x && (decide (x.op = 7) || decide (0 < x.alts.length))) := by
  unfold altsR altsR1 altsOk
  rw [if_neg (by omega)]
  congr 2
  funext i
  exact altR1_eq x i _
theorem formR_eq (x : Ex) : formR x = shapeB x := by
  unfold formR shapeB
  by_cases h : x.op = 7 ∨ x.op = 13
  · rw [if_pos h, altsR_eq x h]
    unfold altsB
    have hk : kidsR x = ((x.alts.length : Int) + 1, false) := by unfold kidsR; rcases h with h | h <;> simp [h]
    have hb : bindsR x = decide (x.binds.length = 0) := by unfold bindsR; rcases h with h | h <;> simp [h]
    rw [hk, hb]
    generalize altsOk x = a
    rw [Bool.eq_iff_iff]
    simp only [Bool.and_eq_true, decide_eq_true_eq, Bool.or_eq_true, Bool.false_eq_true, false_or]
    constructor
    · rintro ⟨⟨⟨h1, h2⟩, h3, h4⟩, h5⟩
      exact ⟨⟨⟨⟨h3, by omega⟩, h4⟩, h5⟩, h2⟩
    · rintro ⟨⟨⟨⟨h3, h1⟩, h4⟩, h5⟩, h2⟩
      exact ⟨⟨⟨by omega, h2⟩, h3, h4⟩, h5⟩
  · rw [if_neg h]
    have ha : altsR x = decide (x.alts.length = 0) := by unfold altsR; rw [if_pos (by omega)]
    rw [ha]
    unfold kidsR bindsR sh primN
    generalize x.alts.length = al
    generalize x.binds.length = bl
    generalize x.kids.length = kl
    generalize x.n = n
    generalize x.op = op at h ⊢
    rw [Bool.eq_iff_iff]
    by_cases e1 : op = 0 ∨ op = 1 ∨ op = 17
    · rcases e1 with e | e | e <;> simp [e] <;> omega
    by_cases e2 : op = 2
    · simp [e2]; first | done | omega
    by_cases e3 : op = 3
    · simp [e3]; first | done | omega
    by_cases e4 : op = 4
    · simp [e4]; first | done | omega
    by_cases e5 : op = 5
    · simp [e5]; first | done | omega
    by_cases e6 : op = 6 ∨ op = 14 ∨ op = 15
    · rcases e6 with e | e | e <;> simp [e] <;> omega
    by_cases e7 : op = 9
    · simp [e7]; first | done | omega
    by_cases e8 : op = 10 ∨ op = 12 ∨ op = 16
    · rcases e8 with e | e | e <;> simp [e] <;> omega
    by_cases e9 : op = 11
    · simp [e9]; first | done | omega
    by_cases e10 : op = 8
    · by_cases f1 : n = 7 ∨ n = 9
      · rcases f1 with f | f <;> simp [e10, f] <;> omega
      by_cases f2 : n = 11
      · simp [e10, f2]; first | done | omega
      by_cases f3 : 0 ≤ n ∧ n < 11
      · have f4 : 0 ≤ n ∧ n ≤ 11 := by omega
        simp [e10, f1, f2, f3, f4]; first | done | omega
      · have f4 : ¬ (0 ≤ n ∧ n ≤ 11) := by omega
        simp [e10, f1, f2, f3, f4]; first | done | omega
    · simp [e1, e2, e3, e4, e5, e6, e7, e8, e9, e10, h]; first | done | omega
/-- the longest list of an alternative -/
def altW (l : List Al) : Nat := l.foldl (fun m a => max m a.binds.length) 0
/-- the reference's numbersError -/
def numE (x : Ex) : Int :=
  if rangesOk x = false then 4
  else if (x.op = 2 ∧ 6 < x.binds.length) ∨ (x.op = 3 ∧ 7 < x.kids.length) ∨ (x.op = 14 ∧ 6 < x.kids.length) ∨ ((x.op = 6 ∨ x.op = 15) ∧ 16 < x.kids.length) ∨ 16 < x.binds.length ∨ 16 < altW x.alts then 2 else 0
theorem foldl_max (l : List Al) : ∀ (m : Nat), l.foldl (fun m a => max m a.binds.length) m = max m (l.foldl (fun m a => max m a.binds.length) 0) := by
  induction l with
  | nil => intro m; simp
  | cons a r ih =>
    intro m
    rw [List.foldl_cons, List.foldl_cons, ih, ih (max 0 a.binds.length)]
    omega
theorem numE_eq {x : Ex} (h : shapeB x = true) : numE x = rangesE x := by
  unfold numE rangesE
  by_cases h1 : rangesOk x = false
  · rw [if_pos h1, if_pos h1]
  · rw [if_neg h1, if_neg h1]
    have hw : wide x = max x.binds.length (altW x.alts) := foldl_max _ _
    rw [hw]
    have h2 : x.op = 2 → altW x.alts = 0 := fun h2 => by
      unfold shapeB sh at h
      simp [h2] at h
      unfold altW
      rw [h.1.2]
      rfl
    obtain ⟨f, hf⟩ : ∃ f, f = altW x.alts := ⟨_, rfl⟩
    rw [← hf] at h2 ⊢
    have hm : ∀ k, k < max x.binds.length f ↔ k < x.binds.length ∨ k < f := fun k => by rw [Nat.max_def]; split <;> omega
    congr 1
    apply propext
    simp only [hm]
    by_cases e : x.op = 2
    · have := h2 e
      have e2 : (if x.op = 2 then 6 else 16) = 6 := if_pos e
      simp only [e2]
      omega
    · have e2 : (if x.op = 2 then 6 else 16) = 16 := if_neg e
      simp only [e2]
      omega
/-- the reference's check of a node -/
def oneR (e : List Ex) (flat : Bool) (x : Ex) : Int :=
  if (!flatBad flat x.op && formR x) = false then 3 else if ¬ numE x = 0 then numE x else if kidsB e x = false then 3 else 0
theorem oneR_eq (e : List Ex) (flat : Bool) (x : Ex) : oneR e flat x = if flatBad flat x.op then 3 else nodeE e x := by
  unfold oneR nodeE
  cases hb : flatBad flat x.op
  · rw [formR_eq]
    simp only [Bool.not_false, Bool.true_and, Bool.false_eq_true, if_false]
    by_cases hs : shapeB x = false
    · rw [if_pos hs, if_pos hs]
    · rw [if_neg hs, if_neg hs, numE_eq (by simpa using hs)]
  · simp
end Go.Co
