/- Plain: slots that are joined, what an assignment of kinds must meet, and what a type requires. No program in sight. No condition. -/
import Derived.Test.YtaponemcbnnebaaDoorTyM
namespace Go.Ki
open Go.Eng
set_option linter.unusedVariables false
set_option linter.unusedSimpArgs false

structure Sol where
  up : List Nat
  kind : List Int
/-- from slot i in d steps to its root r -/
inductive Rt (up : List Nat) : Nat → Nat → Nat → Prop where
  | here {i : Nat} (h : up[i]? = some i) : Rt up 0 i i
  | step {d i j r : Nat} (h : up[i]? = some j) (hne : j ≠ i) (t : Rt up d j r) : Rt up (d + 1) i r
theorem Rt.top {up : List Nat} {d i r : Nat} (h : Rt up d i r) : up[r]? = some r := by
  induction h with
  | here h => exact h
  | step _ _ _ ih => exact ih
theorem Rt.lt {up : List Nat} {d i r : Nat} (h : Rt up d i r) : i < up.length ∧ r < up.length :=
  ⟨by cases h with
    | here h => exact (List.getElem?_eq_some_iff.1 h).1
    | step h _ _ => exact (List.getElem?_eq_some_iff.1 h).1, (List.getElem?_eq_some_iff.1 h.top).1⟩
theorem Rt.uniq {up : List Nat} {d d' i r r' : Nat} (h : Rt up d i r) (h' : Rt up d' i r') : r = r' := by
  induction h generalizing d' r' with
  | here h =>
    cases h' with
    | here _ => rfl
    | step h1 hne _ => rw [h] at h1; exact absurd (Option.some.inj h1).symm hne
  | step h hne t ih =>
    cases h' with
    | here h1 => rw [h] at h1; exact absurd (Option.some.inj h1) hne
    | step h1 _ t' =>
      rw [h] at h1
      obtain rfl := Option.some.inj h1
      exact ih t'
structure Inv (σ : Sol) : Prop where
  len : σ.kind.length = σ.up.length
  rt : ∀ i, i < σ.up.length → ∃ d r, Rt σ.up d i r
  three : 3 ≤ σ.up.length
  base : ∀ c, c < 3 → ∃ d r, Rt σ.up d c r ∧ σ.kind[r]? = some (c : Int)
  rng : ∀ (i : Nat) (k : Int), σ.kind[i]? = some k → -1 ≤ k ∧ k ≤ 2
/-- an assignment that agrees with what is known -/
structure Sat (σ : Sol) (f : Nat → Int) : Prop where
  eq : ∀ i j, σ.up[i]? = some j → f i = f j
  kn : ∀ (i : Nat) (k : Int), σ.up[i]? = some i → σ.kind[i]? = some k → k ≠ -1 → f i = k
  rng : ∀ i, 0 ≤ f i ∧ f i ≤ 2
theorem Sat.root {σ : Sol} {f : Nat → Int} (h : Sat σ f) {d i r : Nat} (hr : Rt σ.up d i r) : f i = f r := by
  induction hr with
  | here _ => rfl
  | step h1 _ _ ih => exact (h.eq _ _ h1).trans ih
theorem Sat.base {σ : Sol} {f : Nat → Int} (h : Sat σ f) (hi : Inv σ) {c : Nat} (hc : c < 3) : f c = c := by
  obtain ⟨d, r, hr, hk⟩ := hi.base c hc
  rw [h.root hr]
  exact h.kn r c hr.top hk (by omega)
theorem Inv.kind {σ : Sol} (h : Inv σ) {d i r : Nat} (hr : Rt σ.up d i r) : ∃ k, σ.kind[r]? = some k := ⟨_, List.getElem?_eq_getElem (by rw [h.len]; exact hr.lt.2)⟩

def joinU (σ : Sol) (ri rk : Nat) (m : Int) : Sol := ⟨σ.up.set ri rk, σ.kind.set rk m⟩
theorem Rt.join {up : List Nat} {ri rk : Nat} (hi : up[ri]? = some ri) (hk : up[rk]? = some rk) (hne : ri ≠ rk) {d i r : Nat} (h : Rt up d i r) : ∃ d', Rt (up.set ri rk) d' i (if r = ri then rk else r) := by
  have hil := (List.getElem?_eq_some_iff.1 hi).1
  have hkk : (up.set ri rk)[rk]? = some rk := by rw [List.getElem?_set_ne hne]; exact hk
  induction h with
  | @here i h =>
    by_cases e : i = ri
    · subst e
      rw [if_pos rfl]
      exact ⟨1, .step (by rw [List.getElem?_set_self hil]) (fun e => hne e.symm) (.here hkk)⟩
    · rw [if_neg e]
      exact ⟨0, .here (by rw [List.getElem?_set_ne (fun x => e x.symm)]; exact h)⟩
  | @step d i j r h hj t ih =>
    obtain ⟨d', ht⟩ := ih
    have e : ri ≠ i := fun e => by
      subst e
      rw [hi] at h
      exact hj (Option.some.inj h).symm
    exact ⟨d' + 1, .step (by rw [List.getElem?_set_ne e]; exact h) hj ht⟩
section
variable {σ : Sol} {ri rk di dk i k : Nat} {a b : Int}
theorem join_bad (hi : Rt σ.up di i ri) (hk : Rt σ.up dk k rk) (ha : σ.kind[ri]? = some a) (hb : σ.kind[rk]? = some b) (h1 : a ≠ -1) (h2 : b ≠ -1) (h3 : a ≠ b) {f : Nat → Int} (h : Sat σ f) : f i ≠ f k := by
  rw [h.root hi, h.root hk, h.kn _ _ hi.top ha h1, h.kn _ _ hk.top hb h2]
  exact h3
theorem join_same (hi : Rt σ.up di i ri) (hk : Rt σ.up dk k ri) {f : Nat → Int} (h : Sat σ f) : f i = f k := by rw [h.root hi, h.root hk]
theorem join_inv (hv : Inv σ) (hi : Rt σ.up di i ri) (hk : Rt σ.up dk k rk) (hne : ri ≠ rk) (ha : σ.kind[ri]? = some a) (hb : σ.kind[rk]? = some b) (hc : a = -1 ∨ b = -1 ∨ a = b) : Inv (joinU σ ri rk (max a b)) := by
  have hr1 := hv.rng _ _ ha
  have hr2 := hv.rng _ _ hb
  have hkl : rk < σ.kind.length := (List.getElem?_eq_some_iff.1 hb).1
  refine ⟨by simp [joinU, hv.len], fun j hj => ?_, by simpa [joinU] using hv.three, fun c hc3 => ?_, fun j q hq => ?_⟩
  · obtain ⟨d, r, hr⟩ := hv.rt j (by simpa [joinU] using hj)
    obtain ⟨d', hr'⟩ := hr.join hi.top hk.top hne
    exact ⟨d', _, hr'⟩
  · obtain ⟨d, r, hr, hkr⟩ := hv.base c hc3
    obtain ⟨d', hr'⟩ := hr.join hi.top hk.top hne
    refine ⟨d', _, hr', ?_⟩
    by_cases e : r = ri
    · subst e
      rw [if_pos rfl]
      rw [ha] at hkr
      obtain rfl := Option.some.inj hkr
      show (σ.kind.set rk _)[rk]? = _
      rw [List.getElem?_set_self hkl]
      congr 1
      omega
    · rw [if_neg e]
      show (σ.kind.set rk _)[r]? = _
      by_cases e2 : r = rk
      · subst e2
        rw [hb] at hkr
        obtain rfl := Option.some.inj hkr
        rw [List.getElem?_set_self hkl]
        congr 1
        omega
      · rw [List.getElem?_set_ne (fun x => e2 x.symm)]; exact hkr
  · have hq' : (σ.kind.set rk (max a b))[j]? = some q := hq
    by_cases e : rk = j
    · subst e
      rw [List.getElem?_set_self hkl] at hq'
      have := Option.some.inj hq'
      omega
    · rw [List.getElem?_set_ne e] at hq'
      exact hv.rng _ _ hq'
theorem join_sat (hv : Inv σ) (hi : Rt σ.up di i ri) (hk : Rt σ.up dk k rk) (hne : ri ≠ rk) (ha : σ.kind[ri]? = some a) (hb : σ.kind[rk]? = some b) (hc : a = -1 ∨ b = -1 ∨ a = b) (f : Nat → Int) : Sat (joinU σ ri rk (max a b)) f ↔ Sat σ f ∧ f i = f k := by
  have hr1 := hv.rng _ _ ha
  have hr2 := hv.rng _ _ hb
  have hkl : rk < σ.kind.length := (List.getElem?_eq_some_iff.1 hb).1
  have hil : ri < σ.up.length := hi.lt.2
  constructor
  · intro h
    have hrr : f ri = f rk := h.eq ri rk (by show (σ.up.set ri rk)[ri]? = _; rw [List.getElem?_set_self hil])
    have hs : Sat σ f := by
      refine ⟨fun x y hxy => ?_, fun x q hx hq hne1 => ?_, h.rng⟩
      · by_cases e : ri = x
        · subst e
          rw [hi.top] at hxy
          rw [Option.some.inj hxy]
        · exact h.eq x y (by show (σ.up.set ri rk)[x]? = _; rw [List.getElem?_set_ne e]; exact hxy)
      · have hrk : ∀ q, q = max a b → q ≠ -1 → f rk = q := fun q hq hne2 => by
          refine h.kn rk q ?_ ?_ hne2
          · show (σ.up.set ri rk)[rk]? = _
            rw [List.getElem?_set_ne hne]; exact hk.top
          · show (σ.kind.set rk _)[rk]? = _
            rw [List.getElem?_set_self hkl, hq]
        by_cases e : ri = x
        · subst e
          rw [ha] at hq
          obtain rfl := Option.some.inj hq
          rw [hrr, hrk (max a b) rfl (by omega)]
          omega
        · by_cases e2 : rk = x
          · subst e2
            rw [hb] at hq
            obtain rfl := Option.some.inj hq
            rw [hrk (max a b) rfl (by omega)]
            omega
          · refine h.kn x q ?_ ?_ hne1
            · show (σ.up.set ri rk)[x]? = _
              rw [List.getElem?_set_ne e]; exact hx
            · show (σ.kind.set rk _)[x]? = _
              rw [List.getElem?_set_ne e2]; exact hq
    exact ⟨hs, by rw [hs.root hi, hs.root hk, hrr]⟩
  · rintro ⟨h, he⟩
    rw [h.root hi, h.root hk] at he
    refine ⟨fun x y hxy => ?_, fun x q hx hq hne1 => ?_, h.rng⟩
    · have hxy' : (σ.up.set ri rk)[x]? = some y := hxy
      by_cases e : ri = x
      · subst e
        rw [List.getElem?_set_self hil] at hxy'
        rw [← Option.some.inj hxy']; exact he
      · rw [List.getElem?_set_ne e] at hxy'
        exact h.eq x y hxy'
    · have hx' : (σ.up.set ri rk)[x]? = some x := hx
      have hq' : (σ.kind.set rk (max a b))[x]? = some q := hq
      have e : ri ≠ x := fun e => by
        subst e
        rw [List.getElem?_set_self hil] at hx'
        exact hne (Option.some.inj hx').symm
      rw [List.getElem?_set_ne e] at hx'
      by_cases e2 : rk = x
      · subst e2
        rw [List.getElem?_set_self hkl] at hq'
        have hq2 := Option.some.inj hq'
        by_cases hb1 : b = -1
        · have ha1 : a ≠ -1 := by omega
          rw [← he, h.kn ri a hi.top ha ha1]
          omega
        · rw [h.kn rk b hk.top hb hb1]
          omega
      · rw [List.getElem?_set_ne e2] at hq'
        exact h.kn x q hx' hq' hne1
end

/-! what a type requires -/
mutual
def req (pk : ByteArray → Option (List Int)) (vs : List Int) : Ty → Int → Bool
  | .mk k nm v as, kd =>
    if k = 0 then decide (v < (vs.length : Int)) && decide (vs[v.toNat]? = some kd)
    else if k = 1 then match pk nm with
      | none => false
      | some l => decide (l.length = as.length) && decide (kd = 0) && reqs pk vs as l
    else if k = 2 then decide (kd = 0) && reqs pk vs as [0, 2, 0]
    else if k = 3 then decide (kd = 0) && reqs pk vs as [1]
    else if k = 5 then decide (kd ≠ 0) && reqs pk vs as [0, kd]
    else decide (kd ≠ 0)
def reqs (pk : ByteArray → Option (List Int)) (vs : List Int) : List Ty → List Int → Bool
  | [], _ => true
  | _ :: _, [] => false
  | t :: r, k :: l => req pk vs t k && reqs pk vs r l
end
theorem reqs_drop (pk : ByteArray → Option (List Int)) (vs : List Int) : ∀ {as : List Ty} {l : List Int} {j : Nat} {t : Ty} {k : Int}, as[j]? = some t → l[j]? = some k → reqs pk vs (as.drop j) (l.drop j) = (req pk vs t k && reqs pk vs (as.drop (j + 1)) (l.drop (j + 1))) := fun {as l j t k} h1 h2 => by
  obtain ⟨hj, rfl⟩ := List.getElem?_eq_some_iff.1 h1
  obtain ⟨hj2, rfl⟩ := List.getElem?_eq_some_iff.1 h2
  rw [List.drop_eq_getElem_cons hj, List.drop_eq_getElem_cons hj2, reqs]
theorem reqs_end (pk : ByteArray → Option (List Int)) (vs : List Int) {as : List Ty} {l : List Int} {j : Nat} (h : as.length ≤ j) : reqs pk vs (as.drop j) (l.drop j) = true := by
  rw [List.drop_eq_nil_of_le h]; simp [reqs]

/-! well-formed types -/
mutual
/-- no row where a type must stand, and the other way round -/
def wf : Ty → Bool → Bool
  | .mk k nm v as, row => decide (0 ≤ k ∧ k ≤ 5) && (decide (k = 0) || decide (row = decide (3 < k))) && (decide (k ≠ 0) || decide (0 ≤ v)) && (decide (manyOf k < 0) || decide (manyOf k = as.length)) && wfs k as 0
def wfs (k : Int) : List Ty → Nat → Bool
  | [], _ => true
  | t :: r, i => wf t ((decide (k = 2) && decide (i = 1)) || decide (k = 3) || (decide (k = 5) && decide (i = 1))) && wfs k r (i + 1)
end
mutual
/-- a row as an argument of a constructor -/
def rowA : Ty → Bool
  | .mk k _ _ as => rowAs k as
def rowAs (k : Int) : List Ty → Bool
  | [] => false
  | t :: r => (decide (k = 1) && decide (3 < t.kind)) || rowA t || rowAs k r
end
mutual
theorem wf_of : ∀ (t : Ty) (row : Bool) (depth seen : Int), (tyErr t row depth seen).2 = 0 → rowA t = false → (t.kind ≤ 3 ∨ row = true) → wf t row = true
  | .mk k nm v as, row, depth, seen, h, hr, hk => by
    rw [rowA] at hr
    by_cases h0 : nodeErr row k nm v as.length (decide (4096 < seen + 1) || decide (400 < depth)) = 0
    · rw [tyErr_ok h0] at h
      have hs := wfs_of k as 0 depth (seen + 1) h hr
      unfold nodeErr at h0
      split at h0
      · cases h0
      split at h0
      · cases h0
      rename_i h1
      split at h0
      · cases h0
      rename_i h2
      split at h0
      · cases h0
      rename_i h3
      split at h0
      · cases h0
      rename_i h4
      rw [wf, hs]
      simp only [Bool.and_true, Bool.and_eq_true, Bool.or_eq_true, decide_eq_true_eq]
      refine ⟨⟨⟨by omega, ?_⟩, by omega⟩, ?_⟩
      · by_cases e : k = 0
        · exact .inl e
        · exact .inr (Classical.byContradiction fun h => h3 ⟨e, h⟩)
      · by_cases e : manyOf k < 0
        · exact .inl e
        · right
          have : ¬ (0 ≤ manyOf k ∧ ¬ manyOf k = (as.length : Int)) := fun h => h2 (.inl h)
          omega
    · rw [tyErr, if_neg h0] at h
      exact absurd h h0
theorem wfs_of (k : Int) : ∀ (as : List Ty) (i : Nat) (depth seen : Int), (tyErrs k as i depth seen).2 = 0 → rowAs k as = false → wfs k as i = true
  | [], i, depth, seen, _, _ => by simp [wfs]
  | t :: r, i, depth, seen, h, hr => by
    rw [rowAs, Bool.or_eq_false_iff, Bool.or_eq_false_iff] at hr
    obtain ⟨⟨h1, h2⟩, h3⟩ := hr
    rw [tyErrs] at h
    split at h
    · rename_i h0
      rw [wfs, wfs_of k r (i + 1) depth _ h h3, Bool.and_true]
      have hw : wantRow k i t.kind = ((decide (k = 2) && decide (i = 1)) || decide (k = 3) || (decide (k = 5) && decide (i = 1))) := by
        unfold wantRow
        rw [h1, Bool.or_false]
        have e : decide ((i : Int) = 1) = decide (i = 1) := by rw [Bool.eq_iff_iff]; simp; omega
        rw [e]
      rw [hw] at h0
      refine wf_of t _ _ _ h0 h2 ?_
      by_cases ht : t.kind ≤ 3
      · exact .inl ht
      · right
        refine Classical.byContradiction fun hne => ?_
        rw [Bool.not_eq_true] at hne
        rw [hne] at h0
        obtain ⟨tk, tn, tv, ta⟩ := t
        rw [tyErr] at h0
        split at h0
        · rename_i h5
          unfold nodeErr at h5
          simp only [Ty.kind] at ht
          split at h5
          · cases h5
          split at h5
          · cases h5
          split at h5
          · cases h5
          split at h5
          · cases h5
          rename_i h6
          exact h6 ⟨by omega, by simp; omega⟩
        · rename_i h5
          exact h5 h0
    · rename_i h0
      exact absurd h h0
end
end Go.Ki
