/- Plain: the reference's trees, by splitting. No program in sight. -/
import Derived.Test.YtmmjkpbpmhaooaaFxT
namespace Go.Fx
open Go.Eng
set_option linter.unusedVariables false

def mnS (acc : Int) (p : P) : Int := if p.1.lev < acc then p.1.lev else acc
def minL (ps : List P) : Int := ps.foldl mnS 10
def scanF (m : Int) : List P → Nat → Int × Int × Int → Option (Int × Int × Int)
  | [], _, st => some st
  | p :: r, k, st => if p.1.lev ≠ m then scanF m r (k + 1) st else if 0 ≤ st.2.2 ∧ p.1.side ≠ st.2.2 then none
      else scanF m r (k + 1) (if st.1 < 0 ∨ p.1.side = 0 then ((2 * k + 1 : Nat) : Int) else st.1, st.2.1 + 1, p.1.side)
def s0 : Int × Int × Int := (-1, 0, -1)
def refP : Nat → Int → List P → Option T
  | 0, n, _ => some (.leaf n)
  | f + 1, n, ps => if ps.length = 0 then some (.leaf n) else match scanF (minL ps) ps 0 s0 with
    | none => none
    | some (a, many, side) => if side = 2 ∧ 1 < many then none else match ps[a.toNat / 2]? with
      | none => none
      | some (x, n2) => match refP f n (ps.take (a.toNat / 2)), refP f n2 (ps.drop (a.toNat / 2 + 1)) with
        | some l, some r => some (.node x.op l r)
        | _, _ => none
theorem scan_step {m : Int} {ps : List P} {k : Nat} {p : P} (h : ps[k]? = some p) (st : Int × Int × Int) : scanF m (ps.drop k) k st =
    if p.1.lev ≠ m then scanF m (ps.drop (k + 1)) (k + 1) st else if 0 ≤ st.2.2 ∧ p.1.side ≠ st.2.2 then none
      else scanF m (ps.drop (k + 1)) (k + 1) (if st.1 < 0 ∨ p.1.side = 0 then ((2 * k + 1 : Nat) : Int) else st.1, st.2.1 + 1, p.1.side) := by
  obtain ⟨hl, rfl⟩ := List.getElem?_eq_some_iff.1 h
  rw [List.drop_eq_getElem_cons hl, scanF]
theorem min_step {ps : List P} {k : Nat} {p : P} (h : ps[k]? = some p) : minL (ps.take (k + 1)) = mnS (minL (ps.take k)) p := by
  rw [List.take_add_one, h]
  simp [minL, List.foldl_append]
/-- where the place comes from -/
theorem scan_at {m : Int} : ∀ (ps : List P) (k : Nat) (st st' : Int × Int × Int), scanF m ps k st = some st' → st'.1 = st.1 ∨ ∃ j, j < ps.length ∧ st'.1 = ((2 * (k + j) + 1 : Nat) : Int)
  | [], k, st, st', h => by
    rw [scanF] at h
    exact .inl (by rw [Option.some.inj h])
  | p :: r, k, st, st', h => by
    rw [scanF] at h
    split at h
    · rcases scan_at r (k + 1) st st' h with h1 | ⟨j, h1, h2⟩
      · exact .inl h1
      · exact .inr ⟨j + 1, by simp; omega, by rw [h2]; congr 2; omega⟩
    · split at h
      · cases h
      · rcases scan_at r (k + 1) _ st' h with h1 | ⟨j, h1, h2⟩
        · simp only at h1
          split at h1
          · exact .inr ⟨0, by simp, by rw [h1]; rfl⟩
          · exact .inl h1
        · exact .inr ⟨j + 1, by simp; omega, by rw [h2]; congr 2; omega⟩
theorem scan_pos {m : Int} : ∀ (ps : List P) (k : Nat) (st st' : Int × Int × Int), scanF m ps k st = some st' → (0 ≤ st.1 ∨ ∃ p ∈ ps, p.1.lev = m) → 0 ≤ st'.1
  | [], k, st, st', h, hp => by
    rw [scanF] at h
    rcases hp with h1 | ⟨p, hp, _⟩
    · rw [← Option.some.inj h]; exact h1
    · cases hp
  | q :: r, k, st, st', h, hp => by
    rw [scanF] at h
    split at h
    · rename_i hne
      refine scan_pos r (k + 1) st st' h (hp.imp id fun ⟨p, hp, he⟩ => ?_)
      rcases List.mem_cons.1 hp with rfl | hp
      · exact absurd he hne
      · exact ⟨p, hp, he⟩
    · split at h
      · cases h
      · refine scan_pos r (k + 1) _ st' h (.inl ?_)
        simp only
        split
        · omega
        · rename_i hn
          simp only [not_or, Int.not_lt] at hn
          exact hn.1
theorem foldl_min : ∀ (ps : List P) (a : Int), ps.foldl mnS a ≤ a ∧ (∀ p ∈ ps, ps.foldl mnS a ≤ p.1.lev) ∧ (ps.foldl mnS a = a ∨ ∃ p ∈ ps, p.1.lev = ps.foldl mnS a)
  | [], a => ⟨Int.le_refl _, fun p hp => (by cases hp), .inl rfl⟩
  | q :: r, a => by
    obtain ⟨h1, h2, h3⟩ := foldl_min r (mnS a q)
    rw [List.foldl_cons]
    have hq : mnS a q ≤ a ∧ mnS a q ≤ q.1.lev ∧ (mnS a q = a ∨ mnS a q = q.1.lev) := by
      unfold mnS
      split
      · exact ⟨by omega, Int.le_refl _, .inr rfl⟩
      · exact ⟨Int.le_refl _, by omega, .inl rfl⟩
    refine ⟨by omega, fun p hp => ?_, ?_⟩
    · rcases List.mem_cons.1 hp with rfl | hp
      · omega
      · exact h2 p hp
    · rcases h3 with h3 | ⟨p, hp, h3⟩
      · rcases hq.2.2 with h4 | h4
        · exact .inl (h3.trans h4)
        · exact .inr ⟨q, .head _, by omega⟩
      · exact .inr ⟨p, .tail _ hp, h3⟩
theorem min_some {ps : List P} (h0 : 0 < ps.length) (hl : ∀ p ∈ ps, p.1.lev ≤ 9) : ∃ p ∈ ps, p.1.lev = minL ps := by
  obtain ⟨h1, h2, h3⟩ := foldl_min ps 10
  rcases h3 with h3 | h3
  · obtain ⟨p, hp⟩ : ∃ p, p ∈ ps := ⟨ps[0], List.getElem_mem h0⟩
    have := h2 p hp
    have := hl p hp
    omega
  · exact h3
theorem pairs_take (table : List Sig) : ∀ (k : Nat) (its : List Itm), 2 * k ≤ its.length → pairs table (its.take (2 * k)) = (pairs table its).take k
  | 0, its, _ => by simp [pairs]
  | k + 1, its, h => by
    match its, h with
    | o :: a :: r, h =>
      rw [show 2 * (k + 1) = 2 * k + 1 + 1 by omega, List.take_succ_cons, List.take_succ_cons, pairs, pairs, List.take_succ_cons, pairs_take table k r (by simp only [List.length_cons] at h; omega)]
    | [o], h => simp only [List.length_cons, List.length_nil] at h; omega
    | [], h => simp only [List.length_nil] at h; omega
theorem pairs_drop (table : List Sig) : ∀ (k : Nat) (its : List Itm), pairs table (its.drop (2 * k)) = (pairs table its).drop k
  | 0, its => by simp
  | k + 1, its => by
    match its with
    | o :: a :: r =>
      rw [show 2 * (k + 1) = 2 * k + 1 + 1 by omega, List.drop_succ_cons, List.drop_succ_cons, pairs, List.drop_succ_cons, pairs_drop table k r]
    | [o] => rw [List.drop_of_length_le (by simp; omega)]; simp [pairs]
    | [] => simp [pairs]
theorem pairs_get (table : List Sig) {its : List Itm} {k : Nat} {o a : Itm} (ho : its[2 * k]? = some o) (ha : its[2 * k + 1]? = some a) : (pairs table its)[k]? = some (find table o.op, a.n) := by
  have h1 := pairs_cons (table := table) ho ha
  rw [pairs_drop] at h1
  have h2 : ((pairs table its).drop k)[0]? = some (find table o.op, a.n) := by rw [h1]; rfl
  rwa [List.getElem?_drop, Nat.add_zero] at h2
theorem find_op (table : List Sig) (op : ByteArray) : (find table op).op = op := by
  unfold find
  cases hf : table.find? fun x => decide (x.op = op) with
  | none => rfl
  | some x =>
    have := List.find?_some hf
    simpa using this
/-- a tree's nodes, moved -/
def mv (base : Int) (x : Nod) : Nod := if x.op = ⟨#[]⟩ then x else ⟨x.op, x.n, x.a + base, x.b + base⟩
def T.opsOk : T → Prop
  | .leaf _ => True
  | .node op l r => op ≠ ⟨#[]⟩ ∧ l.opsOk ∧ r.opsOk
theorem flat_mv : ∀ (t : T) (b c : Nat), t.opsOk → (flat b t).map (mv (c : Int)) = flat (c + b) t
  | .leaf n, b, c, _ => by simp [flat, mv]
  | .node op l r, b, c, h => by
    have hl := l.pos
    have hr := r.pos
    rw [flat, List.map_append, List.map_append, flat_mv l b c h.2.1, flat_mv r (b + l.size) c h.2.2, flat]
    congr 1
    · congr 2; omega
    · simp only [List.map_cons, List.map_nil, mv, if_neg h.1]
      congr 2 <;> omega
theorem flat_bound : ∀ (t : T) (b : Nat), ∀ x ∈ flat b t, 0 ≤ x.a ∧ x.a ≤ ((b + t.size : Nat) : Int) ∧ 0 ≤ x.b ∧ x.b ≤ ((b + t.size : Nat) : Int)
  | .leaf n, b, x, hx => by
    rw [flat, List.mem_singleton] at hx
    subst hx
    exact ⟨Int.le_refl _, Int.natCast_nonneg _, Int.le_refl _, Int.natCast_nonneg _⟩
  | .node op l r, b, x, hx => by
    rw [flat, List.mem_append, List.mem_append, List.mem_singleton] at hx
    simp only [T.size]
    rcases hx with (hx | hx) | rfl
    · have := flat_bound l b x hx
      omega
    · have := flat_bound r (b + l.size) x hx
      omega
    · simp only
      omega
theorem refP_size : ∀ (f : Nat) (n : Int) (ps : List P) (t : T), refP f n ps = some t → t.size ≤ 2 * ps.length + 1
  | 0, n, ps, t, h => by
    rw [refP] at h
    rw [← Option.some.inj h]; simp [T.size]
  | f + 1, n, ps, t, h => by
    rw [refP] at h
    split at h
    · rw [← Option.some.inj h]; simp [T.size]
    · split at h
      · cases h
      · split at h
        · cases h
        · split at h
          · cases h
          · rename_i x n2 hx
            have hlt := (List.getElem?_eq_some_iff.1 hx).1
            split at h
            · rename_i l r hl hr
              rw [← Option.some.inj h]
              have h1 := refP_size f _ _ l hl
              have h2 := refP_size f _ _ r hr
              rw [List.length_take] at h1
              rw [List.length_drop] at h2
              simp only [T.size]
              omega
            · cases h
theorem refP_ops : ∀ (f : Nat) (n : Int) (ps : List P) (t : T), (∀ p ∈ ps, p.1.op ≠ ⟨#[]⟩) → refP f n ps = some t → t.opsOk
  | 0, n, ps, t, _, h => by
    rw [refP] at h
    rw [← Option.some.inj h]; trivial
  | f + 1, n, ps, t, ho, h => by
    rw [refP] at h
    split at h
    · rw [← Option.some.inj h]; trivial
    · split at h
      · cases h
      · split at h
        · cases h
        · split at h
          · cases h
          · rename_i x n2 hx
            split at h
            · rename_i l r hl hr
              rw [← Option.some.inj h]
              exact ⟨ho _ (List.mem_of_getElem? hx), refP_ops f _ _ l (fun p hp => ho p (List.mem_of_mem_take hp)) hl, refP_ops f _ _ r (fun p hp => ho p (List.mem_of_mem_drop hp)) hr⟩
            · cases h
end Go.Fx
