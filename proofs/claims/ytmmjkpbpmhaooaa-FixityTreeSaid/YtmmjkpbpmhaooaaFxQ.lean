/- Plain: climbing and splitting give the same tree. No program in sight. -/
import Derived.Test.YtmmjkpbpmhaooaaFxR
namespace Go.Fx
open Go.Eng
set_option linter.unusedVariables false

/-! scans -/
theorem scan_skip {m : Int} : ∀ (A R : List P) (k : Nat) (st : Int × Int × Int), (∀ p ∈ A, p.1.lev ≠ m) → scanF m (A ++ R) k st = scanF m R (k + A.length) st
  | [], R, k, st, _ => by simp
  | p :: A, R, k, st, h => by
    rw [List.cons_append, scanF, if_pos (h p (.head _)), scan_skip A R (k + 1) st (fun q hq => h q (.tail _ hq)), List.length_cons, Nat.add_assoc, Nat.add_comm 1]
theorem scan_left {m : Int} : ∀ (A R : List P) (k : Nat) (st : Int × Int × Int), (∀ p ∈ A, p.1.lev = m → p.1.side = 0) → (st.2.2 = -1 ∨ st.2.2 = 0) →
    ∃ st', scanF m (A ++ R) k st = scanF m R (k + A.length) st' ∧ (st'.2.2 = -1 ∨ st'.2.2 = 0)
  | [], R, k, st, _, hs => ⟨st, by simp, hs⟩
  | p :: A, R, k, st, h, hs => by
    rw [List.cons_append, scanF]
    by_cases hp : p.1.lev = m
    · have h0 := h p (.head _) hp
      rw [if_neg (by simpa using hp), if_neg (by rw [h0]; omega)]
      obtain ⟨st', h1, h2⟩ := scan_left A R (k + 1) (if st.1 < 0 ∨ p.1.side = 0 then ((2 * k + 1 : Nat) : Int) else st.1, st.2.1 + 1, p.1.side) (fun q hq => h q (.tail _ hq)) (.inr h0)
      exact ⟨st', by rw [h1, List.length_cons, Nat.add_assoc, Nat.add_comm 1], h2⟩
    · rw [if_pos hp]
      obtain ⟨st', h1, h2⟩ := scan_left A R (k + 1) st (fun q hq => h q (.tail _ hq)) hs
      exact ⟨st', by rw [h1, List.length_cons, Nat.add_assoc, Nat.add_comm 1], h2⟩
theorem scan_same {m s : Int} : ∀ (B : List P) (k : Nat) (st : Int × Int × Int), (∀ p ∈ B, p.1.lev = m → p.1.side = s) → s ≠ 0 → 0 ≤ st.1 → st.2.2 = s → ∃ many, scanF m B k st = some (st.1, many, s)
  | [], k, st, _, _, _, h2 => ⟨st.2.1, by rw [scanF, ← h2]⟩
  | p :: B, k, st, h, hs, h1, h2 => by
    rw [scanF]
    by_cases hp : p.1.lev = m
    · have h0 := h p (.head _) hp
      rw [if_neg (by simpa using hp), if_neg (by rw [h0, h2]; simp), if_neg (by rw [h0]; omega)]
      exact scan_same B (k + 1) (st.1, st.2.1 + 1, p.1.side) (fun q hq => h q (.tail _ hq)) hs h1 h0
    · rw [if_pos hp]
      exact scan_same B (k + 1) st (fun q hq => h q (.tail _ hq)) hs h1 h2
theorem scan_char {m : Int} : ∀ (ps : List P) (k : Nat) (st st' : Int × Int × Int), (∀ p ∈ ps, 0 ≤ p.1.side) → scanF m ps k st = some st' →
    (0 ≤ st.2.2 → st'.2.2 = st.2.2) ∧ (∀ p ∈ ps, p.1.lev = m → p.1.side = st'.2.2) ∧ st'.2.1 = st.2.1 + ((ps.filter fun p => decide (p.1.lev = m)).length : Int) ∧
      (st'.1 = st.1 ∨ ∃ j x, ps[j]? = some x ∧ x.1.lev = m ∧ st'.1 = ((2 * (k + j) + 1 : Nat) : Int))
  | [], k, st, st', _, h => by
    rw [scanF] at h
    obtain rfl := Option.some.inj h
    exact ⟨fun _ => rfl, fun p hp => (by cases hp), by simp, .inl rfl⟩
  | p :: r, k, st, st', hs, h => by
    rw [scanF] at h
    by_cases hp : p.1.lev = m
    · rw [if_neg (by simpa using hp)] at h
      by_cases hb : 0 ≤ st.2.2 ∧ p.1.side ≠ st.2.2
      · rw [if_pos hb] at h; cases h
      · rw [if_neg hb] at h
        obtain ⟨h1, h2, h3, h4⟩ := scan_char r (k + 1) _ st' (fun q hq => hs q (.tail _ hq)) h
        have h5 := h1 (hs p (.head _))
        simp only at h3 h5
        refine ⟨fun h0 => ?_, fun q hq hl => ?_, ?_, ?_⟩
        · rw [h5]
          exact Classical.byContradiction fun hn => hb ⟨h0, hn⟩
        · rcases List.mem_cons.1 hq with rfl | hq
          · exact h5.symm
          · exact h2 q hq hl
        · rw [h3, List.filter_cons_of_pos (by simpa using hp), List.length_cons]
          omega
        · rcases h4 with h4 | ⟨j, x, h6, h7, h8⟩
          · simp only at h4
            split at h4
            · exact .inr ⟨0, p, rfl, hp, by rw [h4]; rfl⟩
            · exact .inl h4
          · exact .inr ⟨j + 1, x, by simpa using h6, h7, by rw [h8]; congr 2; omega⟩
    · rw [if_pos hp] at h
      obtain ⟨h1, h2, h3, h4⟩ := scan_char r (k + 1) st st' (fun q hq => hs q (.tail _ hq)) h
      refine ⟨h1, fun q hq hl => ?_, ?_, ?_⟩
      · rcases List.mem_cons.1 hq with rfl | hq
        · exact absurd hl hp
        · exact h2 q hq hl
      · rw [h3, List.filter_cons_of_neg (by simpa using hp)]
      · rcases h4 with h4 | ⟨j, x, h6, h7, h8⟩
        · exact .inl h4
        · exact .inr ⟨j + 1, x, by simpa using h6, h7, by rw [h8]; congr 2; omega⟩

theorem ref_fuel : ∀ (f g : Nat) (n : Int) (ps : List P), ps.length ≤ f → ps.length ≤ g → refP f n ps = refP g n ps
  | 0, 0, _, _, _, _ => rfl
  | 0, g + 1, n, ps, h, _ => by
    rw [refP, refP, if_pos (by omega)]
  | f + 1, 0, n, ps, _, h => by
    rw [refP, refP, if_pos (by omega)]
  | f + 1, g + 1, n, ps, h1, h2 => by
    rw [refP, refP]
    by_cases h0 : ps.length = 0
    · rw [if_pos h0, if_pos h0]
    · rw [if_neg h0, if_neg h0]
      cases scanF (minL ps) ps 0 s0 with
      | none => rfl
      | some st =>
        obtain ⟨a, many, side⟩ := st
        simp only
        split
        · rfl
        · cases hx : ps[a.toNat / 2]? with
          | none => rfl
          | some x =>
            have hlt := (List.getElem?_eq_some_iff.1 hx).1
            obtain ⟨x, n2⟩ := x
            simp only
            rw [ref_fuel f g n (ps.take (a.toNat / 2)) (by rw [List.length_take]; omega) (by rw [List.length_take]; omega), ref_fuel f g n2 (ps.drop (a.toNat / 2 + 1)) (by rw [List.length_drop]; omega) (by rw [List.length_drop]; omega)]
def ref (n : Int) (ps : List P) : Option T := refP ps.length n ps
theorem min_eq {ps : List P} {x : P} (hx : x ∈ ps) (hl : x.1.lev ≤ 9) (h : ∀ p ∈ ps, x.1.lev ≤ p.1.lev) : minL ps = x.1.lev := by
  obtain ⟨h1, h2, h3⟩ := foldl_min ps 10
  have h4 := h2 x hx
  unfold minL
  rcases h3 with h3 | ⟨p, hp, h3⟩
  · omega
  · have := h p hp
    omega
/-- what is split at x -/
theorem ref_node {A B : List P} {x : Sig} {n n2 : Int} {l r : T} (hA : ∀ p ∈ A, x.lev ≤ p.1.lev) (hB : ∀ p ∈ B, x.lev ≤ p.1.lev) (h9 : x.lev ≤ 9)
    (h0 : x.side = 0 → (∀ p ∈ A, p.1.lev = x.lev → p.1.side = 0) ∧ ∀ p ∈ B, p.1.lev ≠ x.lev)
    (h1 : x.side ≠ 0 → (∀ p ∈ A, p.1.lev ≠ x.lev) ∧ (∀ p ∈ B, p.1.lev = x.lev → p.1.side = x.side) ∧ (x.side = 2 → ∀ p ∈ B, p.1.lev ≠ x.lev))
    (hl : ref n A = some l) (hr : ref n2 B = some r) : ref n (A ++ (x, n2) :: B) = some (.node x.op l r) := by
  have hm : minL (A ++ (x, n2) :: B) = x.lev := min_eq (x := (x, n2)) (by simp) h9 (fun p hp => by
    rcases List.mem_append.1 hp with h | h
    · exact hA p h
    · rcases List.mem_cons.1 h with rfl | h
      · exact Int.le_refl _
      · exact hB p h)
  have hlen : (A ++ (x, n2) :: B).length = (A.length + B.length) + 1 := by simp; omega
  have hscan : ∃ many, scanF x.lev (A ++ (x, n2) :: B) 0 s0 = some (((2 * A.length + 1 : Nat) : Int), many, x.side) ∧ (x.side = 2 → many = 1) := by
    by_cases hs : x.side = 0
    · obtain ⟨hA0, hB0⟩ := h0 hs
      obtain ⟨st', e1, e2⟩ := scan_left (m := x.lev) A ((x, n2) :: B) 0 s0 hA0 (.inl rfl)
      refine ⟨st'.2.1 + 1, ?_, fun h2 => by rw [hs] at h2; cases h2⟩
      rw [e1, scanF, if_neg (by simp), if_neg (by rw [hs]; omega), if_pos (.inr hs)]
      have := scan_skip (m := x.lev) B [] (0 + A.length + 1) (((2 * (0 + A.length) + 1 : Nat) : Int), st'.2.1 + 1, x.side) hB0
      rw [List.append_nil] at this
      rw [this, scanF, Nat.zero_add]
    · obtain ⟨hA1, hB1, hB2⟩ := h1 hs
      rw [scan_skip A _ 0 s0 hA1, scanF, if_neg (by simp), if_neg (by simp [s0]), if_pos (.inl (by decide))]
      by_cases h2 : x.side = 2
      · refine ⟨1, ?_, fun _ => rfl⟩
        have := scan_skip (m := x.lev) B [] (0 + A.length + 1) (((2 * (0 + A.length) + 1 : Nat) : Int), s0.2.1 + 1, x.side) (hB2 h2)
        rw [List.append_nil] at this
        rw [this, scanF, Nat.zero_add]
        rfl
      · obtain ⟨many, e⟩ := scan_same (m := x.lev) (s := x.side) B (0 + A.length + 1) (((2 * (0 + A.length) + 1 : Nat) : Int), s0.2.1 + 1, x.side) hB1 hs (by simp only; omega) rfl
        exact ⟨many, by rw [e, Nat.zero_add], fun h => absurd h h2⟩
  obtain ⟨many, e, hmany⟩ := hscan
  unfold ref
  rw [hlen, refP, if_neg (by rw [hlen]; omega), hm, e]
  simp only
  rw [if_neg (fun h => by have := hmany h.1; omega)]
  have hk : ((2 * A.length + 1 : Nat) : Int).toNat / 2 = A.length := by omega
  rw [hk]
  have hget : (A ++ (x, n2) :: B)[A.length]? = some (x, n2) := by
    rw [List.getElem?_append_right (Nat.le_refl _), Nat.sub_self]; rfl
  have ht : (A ++ (x, n2) :: B).take A.length = A := by simp
  have hd : (A ++ (x, n2) :: B).drop (A.length + 1) = B := by
    rw [← List.drop_drop, List.drop_left]; rfl
  rw [hget]
  simp only
  rw [ht, hd, ref_fuel _ A.length n A (by omega) (Nat.le_refl _), ref_fuel _ B.length n2 B (by omega) (Nat.le_refl _)]
  unfold ref at hl hr
  rw [hl, hr]

/-! sequences that have no tree -/
def Bad (ps : List P) : Prop := ∃ (A : List P) (a : P) (B : List P) (b : P) (C : List P), ps = A ++ a :: (B ++ b :: C) ∧ a.1.lev = b.1.lev ∧ (a.1.side ≠ b.1.side ∨ b.1.side = 2) ∧ ∀ p ∈ B, a.1.lev ≤ p.1.lev
theorem Bad.left {ps : List P} (h : Bad ps) (Z : List P) : Bad (Z ++ ps) := by
  obtain ⟨A, a, B, b, C, he, h1, h2, h3⟩ := h
  exact ⟨Z ++ A, a, B, b, C, by rw [he, List.append_assoc], h1, h2, h3⟩
theorem bad_ref : ∀ (f : Nat) (n : Int) (ps : List P), ps.length ≤ f → (∀ p ∈ ps, p.1.lev ≤ 9 ∧ 0 ≤ p.1.side) → Bad ps → refP f n ps = none
  | 0, n, ps, hf, _, h => by
    obtain ⟨A, a, B, b, C, he, _⟩ := h
    rw [he] at hf
    simp at hf
  | f + 1, n, ps, hf, hok, h => by
    obtain ⟨A, a, B, b, C, he, hab, hbad, hB⟩ := h
    have hpos : 0 < ps.length := by rw [he]; simp; omega
    have ham : a ∈ ps := by rw [he]; simp
    have hbm : b ∈ ps := by rw [he]; simp
    obtain ⟨hm1, hm2, hm3⟩ := foldl_min ps 10
    rw [refP, if_neg (by omega)]
    cases hs : scanF (minL ps) ps 0 s0 with
    | none => rfl
    | some st =>
      obtain ⟨at_, many, side⟩ := st
      obtain ⟨_, hc2, hc3, hc4⟩ := scan_char ps 0 s0 _ (fun p hp => (hok p hp).2) hs
      simp only at hc2 hc3 hc4 ⊢
      by_cases hlev : a.1.lev = minL ps
      · have e1 := hc2 a ham hlev
        have e2 := hc2 b hbm (by rw [← hab]; exact hlev)
        have hb2 : b.1.side = 2 := by
          rcases hbad with h | h
          · exact absurd (e1.trans e2.symm) h
          · exact h
        have hcount : 2 ≤ (ps.filter fun p => decide (p.1.lev = minL ps)).length := by
          rw [he, List.filter_append, List.filter_cons_of_pos (by rw [← he]; simpa using hlev), List.filter_append, List.filter_cons_of_pos (by rw [← he, ← hab]; simpa using hlev)]
          simp
          omega
        rw [if_pos ⟨by rw [← e2]; exact hb2, by rw [hc3]; simp only [s0]; omega⟩]
      · split
        · rfl
        · have hml : minL ps ≤ a.1.lev := hm2 a ham
          have hne : at_ ≠ -1 := by
            have := scan_pos ps 0 s0 _ hs (.inr (by
              rcases hm3 with h | ⟨p, hp, h⟩
              · have := (hok a ham).1
                unfold minL at hml
                omega
              · exact ⟨p, hp, h⟩))
            simp only at this
            omega
          obtain ⟨j, x, hj, hxl, hat⟩ := hc4.resolve_left hne
          rw [Nat.zero_add] at hat
          have hk : at_.toNat / 2 = j := by rw [hat]; omega
          have hjl := (List.getElem?_eq_some_iff.1 hj).1
          rw [hk, hj]
          obtain ⟨x, n2⟩ := x
          simp only at hxl ⊢
          have hout : j < A.length ∨ A.length + 1 + B.length < j := by
            rcases Nat.lt_or_ge j A.length with h | h
            · exact .inl h
            · rcases Nat.lt_or_ge (A.length + 1 + B.length) j with h2 | h2
              · exact .inr h2
              · exfalso
                rw [he, List.getElem?_append_right h] at hj
                rcases Nat.eq_zero_or_pos (j - A.length) with h3 | h3
                · rw [h3] at hj
                  simp only [List.getElem?_cons_zero, Option.some.injEq] at hj
                  rw [hj] at hlev
                  exact hlev hxl
                · obtain ⟨i, hi⟩ : ∃ i, j - A.length = i + 1 := ⟨j - A.length - 1, by omega⟩
                  rw [hi, List.getElem?_cons_succ] at hj
                  rcases Nat.lt_or_ge i B.length with h4 | h4
                  · rw [List.getElem?_append_left h4] at hj
                    have := hB _ (List.mem_of_getElem? hj)
                    simp only at this
                    omega
                  · rw [List.getElem?_append_right h4, show i - B.length = 0 by omega] at hj
                    simp only [List.getElem?_cons_zero, Option.some.injEq] at hj
                    rw [hj] at hab
                    simp only at hab
                    omega
          rcases hout with hlt | hgt
          · have hb : Bad (ps.drop (j + 1)) := by
              refine ⟨A.drop (j + 1), a, B, b, C, ?_, hab, hbad, hB⟩
              rw [he, List.drop_append, show j + 1 - A.length = 0 by omega, List.drop_zero]
            rw [bad_ref f n2 (ps.drop (j + 1)) (by rw [List.length_drop]; omega) (fun p hp => hok p (List.mem_of_mem_drop hp)) hb]
            cases refP f n (ps.take j) <;> rfl
          · have hb : Bad (ps.take j) := by
              refine ⟨A, a, B, b, C.take (j - (A.length + 1 + B.length + 1)), ?_, hab, hbad, hB⟩
              rw [he, List.take_append, List.take_of_length_le (by omega), List.take_cons (by omega), List.take_append, List.take_of_length_le (by omega), List.take_cons (by omega)]
              congr 5
              omega
            rw [bad_ref f n (ps.take j) (by rw [List.length_take]; omega) (fun p hp => hok p (List.mem_of_mem_take hp)) hb]

/-! climbing -/
theorem next_ge (x : Sig) : x.lev ≤ nextL x ∧ nextL x ≤ x.lev + 1 := by
  unfold nextL
  split <;> omega
theorem ag_no {x y : Sig} (h : against x y = false) (hl : x.lev = y.lev) : x.side = y.side ∧ x.side ≠ 2 := by
  unfold against at h
  simp only [hl, decide_true, Bool.true_and, Bool.or_eq_false_iff, Bool.not_eq_false', decide_eq_true_eq, decide_eq_false_iff_not] at h
  exact h
theorem ag_yes {x y : Sig} (h : against x y = true) : y.lev = x.lev ∧ (y.side ≠ x.side ∨ x.side = 2) := by
  unfold against at h
  simp only [Bool.and_eq_true, Bool.or_eq_true, Bool.not_eq_true', decide_eq_true_eq, decide_eq_false_iff_not] at h
  exact ⟨h.1.symm, h.2.imp (fun h => fun e => h e.symm) id⟩
/-- what has been read, in a loop -/
structure Rd (least : Int) (last : Sig) (C ps : List P) : Prop where
  ge : ∀ p ∈ C, last.lev ≤ p.1.lev
  left : last.side = 0 → ∀ p ∈ C, p.1.lev = last.lev → p.1.side = 0
  hd : ∀ x n r, ps = (x, n) :: r → x.lev < nextL last
theorem loop_ok : ∀ (f : Nat) (least : Int) (outer last : Sig) (t t' : T) (ps ps' C : List P) (n0 : Int), ps.length ≤ f → (∀ p ∈ ps, p.1.lev ≤ 9 ∧ 0 ≤ p.1.side ∧ p.1.side ≤ 2) → outer.lev ≤ least → ref n0 C = some t → (C = [] ∨ Rd least last C ps) → loopP f least outer last t ps = some (t', ps') →
    ∃ seg, ps = seg ++ ps' ∧ (∀ p ∈ seg, least ≤ p.1.lev) ∧ (∀ x n r, ps' = (x, n) :: r → x.lev < least) ∧ ref n0 (C ++ seg) = some t' ∧ ∀ p ∈ seg, p.1.lev = outer.lev → p.1.side = outer.side ∧ p.1.side ≠ 2
  | 0, least, outer, last, t, t', ps, ps', C, n0, hf, _, _, hC, _, h => by
    have : ps = [] := List.eq_nil_of_length_eq_zero (by omega)
    subst this
    rw [loopP] at h
    simp only [Option.some.injEq, Prod.mk.injEq] at h
    obtain ⟨rfl, rfl⟩ := h
    exact ⟨[], rfl, fun p hp => (by cases hp), fun x n r he => (by cases he), by rw [List.append_nil]; exact hC, fun p hp => (by cases hp)⟩
  | f + 1, least, outer, last, t, t', [], ps', C, n0, hf, _, _, hC, _, h => by
    rw [loopP] at h
    simp only [Option.some.injEq, Prod.mk.injEq] at h
    obtain ⟨rfl, rfl⟩ := h
    exact ⟨[], rfl, fun p hp => (by cases hp), fun x n r he => (by cases he), by rw [List.append_nil]; exact hC, fun p hp => (by cases hp)⟩
  | f + 1, least, outer, last, t, t', (x, n) :: r, ps', C, n0, hf, h9, hout, hC, hrd, h => by
    rw [loopP] at h
    by_cases hlow : x.lev < least
    · rw [if_pos hlow] at h
      simp only [Option.some.injEq, Prod.mk.injEq] at h
      obtain ⟨rfl, rfl⟩ := h
      exact ⟨[], rfl, fun p hp => (by cases hp), fun y m q he => by cases he; exact hlow, by rw [List.append_nil]; exact hC, fun p hp => (by cases hp)⟩
    · rw [if_neg hlow] at h
      by_cases hag : (against x outer || against x last) = true
      · rw [if_pos hag] at h; cases h
      · rw [if_neg hag] at h
        rw [Bool.not_eq_true, Bool.or_eq_false_iff] at hag
        cases hin : loopP f (nextL x) x x (.leaf n) r with
        | none => rw [hin] at h; cases h
        | some res =>
          obtain ⟨rt, r'⟩ := res
          rw [hin] at h
          simp only at h
          have hnx := next_ge x
          simp only [List.length_cons] at hf
          obtain ⟨s1, e1, l1, d1, f1, g1⟩ := loop_ok f (nextL x) x x (.leaf n) rt r r' [] n (by omega) (fun p hp => h9 p (.tail _ hp)) hnx.1 rfl (.inl rfl) hin
          rw [List.nil_append] at f1
          have hrl : r'.length ≤ r.length := by rw [e1, List.length_append]; omega
          -- what was read holds no lower operator
          have hC1 : ∀ p ∈ C, x.lev ≤ p.1.lev := fun p hp => by
            rcases hrd with rfl | hrd
            · cases hp
            · have h1 := hrd.ge p hp
              have h2 := hrd.hd x n r rfl
              have h3 := next_ge last
              omega
          have hC0 : x.side = 0 → ∀ p ∈ C, p.1.lev = x.lev → p.1.side = 0 := fun hs p hp hl => by
            rcases hrd with rfl | hrd
            · cases hp
            · have h1 := hrd.ge p hp
              have h2 := hrd.hd x n r rfl
              have h3 := next_ge last
              have h4 := ag_no hag.2 (by omega)
              exact hrd.left (by rw [← h4.1]; exact hs) p hp (by omega)
          have hCn : x.side ≠ 0 → ∀ p ∈ C, p.1.lev ≠ x.lev := fun hs p hp hl => by
            rcases hrd with rfl | hrd
            · cases hp
            · have h1 := hrd.ge p hp
              have h2 := hrd.hd x n r rfl
              have h3 := next_ge last
              have hll : x.lev = last.lev := by omega
              have h4 := ag_no hag.2 hll
              have h5 : ¬ last.side = 1 := fun h1' => by
                unfold nextL at h2
                rw [if_pos h1'] at h2
                omega
              have h6 := (h9 (x, n) (.head _)).2
              simp only at h6
              have h7 := h4.1
              have h8 := h4.2
              omega
          have hup : ∀ p ∈ s1, ¬ x.side = 1 → x.lev + 1 ≤ p.1.lev := fun p hp hs => by
            have := l1 p hp
            unfold nextL at this
            rw [if_neg hs] at this
            exact this
          have hnode : ref n0 (C ++ (x, n) :: s1) = some (.node x.op t rt) := ref_node hC1 (fun p hp => by have := l1 p hp; omega) (h9 (x, n) (.head _)).1
            (fun hs => ⟨hC0 hs, fun p hp => by have := hup p hp (by omega); omega⟩) (fun hs => ⟨hCn hs, fun p hp hl => (g1 p hp hl).1, fun h2 p hp => by have := hup p hp (by omega); omega⟩) hC f1
          obtain ⟨s2, e2, l2, d2, f2, g2⟩ := loop_ok f least outer x (.node x.op t rt) t' r' ps' (C ++ (x, n) :: s1) n0 (by omega) (fun p hp => h9 p (.tail _ (by rw [e1]; exact List.mem_append.2 (.inr hp)))) hout hnode (.inr ⟨fun p hp => by
              rcases List.mem_append.1 hp with h1 | h1
              · exact hC1 p h1
              · rcases List.mem_cons.1 h1 with rfl | h1
                · exact Int.le_refl _
                · have := l1 p h1
                  omega, fun hs p hp hl => by
              rcases List.mem_append.1 hp with h1 | h1
              · exact hC0 hs p h1 hl
              · rcases List.mem_cons.1 h1 with rfl | h1
                · exact hs
                · have := hup p h1 (by omega)
                  omega, d1⟩) h
          refine ⟨(x, n) :: (s1 ++ s2), by rw [e1, e2, List.cons_append, List.append_assoc], fun p hp => ?_, d2, by rw [← f2]; simp, fun p hp hl => ?_⟩
          · rcases List.mem_cons.1 hp with rfl | hp
            · simp only; omega
            · rcases List.mem_append.1 hp with h1 | h1
              · have := l1 p h1
                omega
              · exact l2 p h1
          · rcases List.mem_cons.1 hp with rfl | hp
            · exact ag_no hag.1 hl
            · rcases List.mem_append.1 hp with h1 | h1
              · have h2 := l1 p h1
                have hxl : x.lev = outer.lev := by omega
                have h3 := ag_no hag.1 hxl
                have h4 := g1 p h1 (by omega)
                exact ⟨h4.1.trans h3.1, h4.2⟩
              · exact g2 p h1 hl
theorem loop_seg : ∀ (f : Nat) (least : Int) (outer last : Sig) (t t' : T) (ps ps' : List P), loopP f least outer last t ps = some (t', ps') → ∃ seg, ps = seg ++ ps' ∧ (f = 0 ∨ ∀ p ∈ seg, least ≤ p.1.lev)
  | 0, least, outer, last, t, t', ps, ps', h => by
    rw [loopP] at h
    simp only [Option.some.injEq, Prod.mk.injEq] at h
    obtain ⟨rfl, rfl⟩ := h
    exact ⟨[], rfl, .inl rfl⟩
  | f + 1, least, outer, last, t, t', [], ps', h => by
    rw [loopP] at h
    simp only [Option.some.injEq, Prod.mk.injEq] at h
    obtain ⟨rfl, rfl⟩ := h
    exact ⟨[], rfl, .inr fun p hp => (by cases hp)⟩
  | f + 1, least, outer, last, t, t', (x, n) :: r, ps', h => by
    rw [loopP] at h
    by_cases hlow : x.lev < least
    · rw [if_pos hlow] at h
      simp only [Option.some.injEq, Prod.mk.injEq] at h
      obtain ⟨rfl, rfl⟩ := h
      exact ⟨[], rfl, .inr fun p hp => (by cases hp)⟩
    · rw [if_neg hlow] at h
      by_cases hag : (against x outer || against x last) = true
      · rw [if_pos hag] at h; cases h
      · rw [if_neg hag] at h
        cases hin : loopP f (nextL x) x x (.leaf n) r with
        | none => rw [hin] at h; cases h
        | some res =>
          obtain ⟨rt, r'⟩ := res
          rw [hin] at h
          simp only at h
          have hnx := next_ge x
          obtain ⟨s1, e1, l1⟩ := loop_seg f _ _ _ _ _ _ _ hin
          obtain ⟨s2, e2, l2⟩ := loop_seg f _ _ _ _ _ _ _ h
          refine ⟨(x, n) :: (s1 ++ s2), by rw [e1, e2, List.cons_append, List.append_assoc], .inr fun p hp => ?_⟩
          rcases List.mem_cons.1 hp with rfl | hp
          · simp only; omega
          · rcases List.mem_append.1 hp with h1 | h1
            · rcases l1 with rfl | l1
              · rw [loopP] at hin
                simp only [Option.some.injEq, Prod.mk.injEq] at hin
                have : s1 = [] := by
                  have h3 := congrArg List.length e1
                  rw [hin.2, List.length_append] at h3
                  exact List.eq_nil_of_length_eq_zero (by omega)
                rw [this] at h1; cases h1
              · have := l1 p h1
                omega
            · rcases l2 with rfl | l2
              · rw [loopP] at h
                simp only [Option.some.injEq, Prod.mk.injEq] at h
                have : s2 = [] := by
                  have h3 := congrArg List.length e2
                  rw [h.2, List.length_append] at h3
                  exact List.eq_nil_of_length_eq_zero (by omega)
                rw [this] at h1; cases h1
              · exact l2 p h1
theorem loop_bad : ∀ (f : Nat) (least : Int) (outer last : Sig) (t : T) (ps C : List P) (no : Int), loopP f least outer last t ps = none → ps.length ≤ f → outer.lev ≤ least → (∀ p ∈ C, outer.lev ≤ p.1.lev) →
    ((C = [] ∧ last = outer) ∨ ∃ C1 nl R, C = C1 ++ (last, nl) :: R ∧ ∀ p ∈ R, last.lev ≤ p.1.lev) → Bad ((outer, no) :: (C ++ ps))
  | 0, least, outer, last, t, ps, C, no, h, _, _, _, _ => by rw [loopP] at h; cases h
  | f + 1, least, outer, last, t, [], C, no, h, _, _, _, _ => by rw [loopP] at h; cases h
  | f + 1, least, outer, last, t, (x, n) :: r, C, no, h, hf, hout, hC, hlast => by
    rw [loopP] at h
    simp only [List.length_cons] at hf
    by_cases hlow : x.lev < least
    · rw [if_pos hlow] at h; cases h
    · rw [if_neg hlow] at h
      by_cases hag : (against x outer || against x last) = true
      · rw [Bool.or_eq_true] at hag
        have hO : against x outer = true → Bad ((outer, no) :: (C ++ (x, n) :: r)) := fun h1 => by
          obtain ⟨h2, h3⟩ := ag_yes h1
          exact ⟨[], (outer, no), C, (x, n), r, rfl, h2, h3, hC⟩
        rcases hag with h1 | h1
        · exact hO h1
        · rcases hlast with ⟨rfl, rfl⟩ | ⟨C1, nl, R, rfl, hR⟩
          · exact hO h1
          · obtain ⟨h2, h3⟩ := ag_yes h1
            exact ⟨(outer, no) :: C1, (last, nl), R, (x, n), r, by simp, h2, h3, hR⟩
      · rw [if_neg hag] at h
        have hnx := next_ge x
        cases hin : loopP f (nextL x) x x (.leaf n) r with
        | none =>
          have hb := loop_bad f (nextL x) x x (.leaf n) r [] n hin (by omega) hnx.1 (fun p hp => (by cases hp)) (.inl ⟨rfl, rfl⟩)
          rw [List.nil_append] at hb
          exact hb.left ((outer, no) :: C)
        | some res =>
          obtain ⟨rt, r'⟩ := res
          rw [hin] at h
          simp only at h
          obtain ⟨s1, e1, l1⟩ := loop_seg f _ _ _ _ _ _ _ hin
          have hrl : r'.length ≤ r.length := by rw [e1, List.length_append]; omega
          have l1' : ∀ p ∈ s1, nextL x ≤ p.1.lev := fun p hp => by
            rcases l1 with rfl | l1
            · have : r = [] := List.eq_nil_of_length_eq_zero (by omega)
              rw [this] at e1
              have h3 := congrArg List.length e1
              rw [List.length_append, List.length_nil] at h3
              have : s1 = [] := List.eq_nil_of_length_eq_zero (by omega)
              rw [this] at hp; cases hp
            · exact l1 p hp
          have hb := loop_bad f least outer x (.node x.op t rt) r' (C ++ (x, n) :: s1) no h (by omega) hout (fun p hp => by
            rcases List.mem_append.1 hp with h1 | h1
            · exact hC p h1
            · rcases List.mem_cons.1 h1 with rfl | h1
              · simp only; omega
              · have := l1' p h1
                omega) (.inr ⟨C, n, s1, rfl, fun p hp => by have := l1' p hp; omega⟩)
          rw [List.append_assoc, List.cons_append, ← e1] at hb
          exact hb
/-- CLIMBING AND SPLITTING AGREE. -/
theorem agree {f g : Nat} {n : Int} {ps : List P} (hf : ps.length ≤ f) (hg : ps.length ≤ g) (hl : ∀ p ∈ ps, 0 ≤ p.1.lev ∧ p.1.lev ≤ 9 ∧ 0 ≤ p.1.side ∧ p.1.side ≤ 2) :
    (loopP g 0 ⟨⟨#[]⟩, 0, -1⟩ ⟨⟨#[]⟩, 0, -1⟩ (.leaf n) ps).map (·.1) = refP f n ps := by
  cases hr : loopP g 0 ⟨⟨#[]⟩, 0, -1⟩ ⟨⟨#[]⟩, 0, -1⟩ (.leaf n) ps with
  | none =>
    have hb := loop_bad g 0 ⟨⟨#[]⟩, 0, -1⟩ ⟨⟨#[]⟩, 0, -1⟩ (.leaf n) ps [] 0 hr hg (by decide) (fun p hp => (by cases hp)) (.inl ⟨rfl, rfl⟩)
    rw [List.nil_append] at hb
    obtain ⟨A, a, B, b, C, he, h1, h2, h3⟩ := hb
    rw [bad_ref f n ps hf (fun p hp => ⟨(hl p hp).2.1, (hl p hp).2.2.1⟩) ?_]
    · rfl
    · cases A with
      | nil =>
        simp only [List.nil_append, List.cons.injEq] at he
        obtain ⟨rfl, rfl⟩ := he
        have := (hl b (by simp)).1
        simp only at h1
        omega
      | cons z A =>
        simp only [List.cons_append, List.cons.injEq] at he
        exact ⟨A, a, B, b, C, he.2, h1, h2, h3⟩
  | some res =>
    obtain ⟨t, r'⟩ := res
    obtain ⟨seg, e1, l1, d1, f1, _⟩ := loop_ok g 0 ⟨⟨#[]⟩, 0, -1⟩ ⟨⟨#[]⟩, 0, -1⟩ (.leaf n) t ps r' [] n hg (fun p hp => ⟨(hl p hp).2.1, (hl p hp).2.2⟩) (by decide) rfl (.inl rfl) hr
    have hr0 : r' = [] := by
      cases r' with
      | nil => rfl
      | cons z r' =>
        have h1 := d1 z.1 z.2 r' rfl
        have h2 := (hl z (by rw [e1]; simp)).1
        omega
    subst hr0
    rw [List.append_nil] at e1
    subst e1
    rw [List.nil_append] at f1
    unfold ref at f1
    rw [ref_fuel f ps.length n ps hf (Nat.le_refl _), f1]
    rfl
end Go.Fx
