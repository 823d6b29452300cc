/- Trees: the program's fits and the reference's shapes agree; nodes' errors. No program in sight. No condition. -/
import Derived.Test.YtlcclcakdfmgkaaPkP
namespace Go.Pk
open Go.Eng
set_option linter.unusedVariables false
set_option linter.unusedSimpArgs false

theorem P1_iff {c : UInt8} {x : Int} : P1 c x = true ↔ x ∈ clsOf c := inL_iff
/-- classes with nothing in common -/
def apart (c d : UInt8) : Bool := (clsOf c).all fun x => !(clsOf d).contains x
theorem apart_no {c d : UInt8} (h : apart c d = true) {x : Int} (hx : P1 c x = true) : P1 d x = false := by
  rw [P1_iff] at hx
  have := List.all_eq_true.1 h x hx
  rw [Bool.eq_false_iff, Ne, P1_iff]
  simpa using this
theorem dropWhile_nil (p : Int → Bool) : ∀ l : List Int, (l.dropWhile p).isEmpty = l.all p
  | [] => rfl
  | x :: l => by
    rw [List.dropWhile_cons, List.all_cons]
    cases hx : p x with
    | true => simpa using dropWhile_nil p l
    | false => simp
theorem p1_eq (c : UInt8) : P1 c = inL (clsOf c) := rfl
theorem grp_data (l : List Int) : groupedF 5 [[14], [6]] [0, 1] 0 l = mt [(118, .star), (99, .plus)] l := by
  rw [mt_greedy 118 _ (fun x l hx => by simp only [mt, apart_no (d := 99) (by decide) hx, Bool.false_and])]
  have e1 : inL [14] = P1 118 := rfl
  have e2 : inL [6] = P1 99 := rfl
  simp only [groupedF, e1, e2]
  generalize l.dropWhile (P1 118) = r
  generalize (l.takeWhile (P1 118)).length = n
  rw [if_neg (by unfold badG; simp)]
  cases r with
  | nil => simp [mt, badG]
  | cons x r =>
    simp only [mt, mt_star]
    rw [List.takeWhile_cons]
    cases hx : P1 99 x with
    | false => simp [badG]
    | true =>
      simp [badG, hx, dropWhile_nil]
      intro _; omega
theorem grp_two (k : Int) (hk : k = 17 ∨ k = 18) (c : UInt8) (hc : apart c 118 = true) (l : List Int) : groupedF k [clsOf c, [14]] [0, 0] 0 l = mt [(c, .star), (118, .opt)] l := by
  rw [mt_greedy c _ (fun x l hx => by simp only [mt, apart_no (d := 118) hc hx, Bool.false_and, Bool.or_false]; simp)]
  have e1 : inL [14] = P1 118 := rfl
  have e2 : inL (clsOf c) = P1 c := rfl
  simp only [groupedF, e1, e2]
  generalize l.dropWhile (P1 c) = r
  generalize (l.takeWhile (P1 c)).length = n
  rw [if_neg (by unfold badG; simp; omega)]
  cases r with
  | nil => simp [mt, badG]
  | cons x r =>
    simp only [mt, List.isEmpty_cons, Bool.false_or]
    rw [List.takeWhile_cons]
    cases hx : P1 118 x with
    | false => simp [badG, hx]
    | true =>
      simp only [if_true, List.dropWhile_cons, hx]
      cases r with
      | nil => simp [badG]
      | cons y r =>
        rw [List.takeWhile_cons]
        cases hy : P1 118 y with
        | false => simp [badG, hy]
        | true => rcases hk with rfl | rfl <;> simp [badG]
theorem grp_three (k : Int) (hk : k = 9 ∨ k = 10) (a c d : UInt8) (h1 : apart a c = true) (h2 : apart a d = true) (h3 : apart c d = true) (l : List Int) :
    groupedF k [clsOf a, clsOf c, clsOf d] [1, 0, 0] 0 l = mt [(a, .one), (c, .star), (d, .star)] l := by
  have e1 : inL (clsOf a) = P1 a := rfl
  have e2 : inL (clsOf c) = P1 c := rfl
  have e3 : inL (clsOf d) = P1 d := rfl
  have hst : ∀ r, mt [(c, .star), (d, .star)] r = (r.dropWhile (P1 c)).all (P1 d) := fun r => by
    rw [mt_greedy c _ (fun x l hx => by simp only [mt, apart_no h3 hx, Bool.false_and, Bool.or_false]; simp), mt_star]
  have hb : ∀ i n, 1 ≤ i → badG k i n 0 = false := fun i n hi => by
    unfold badG
    rcases hk with rfl | rfl <;> simp <;> omega
  cases l with
  | nil => simp [groupedF, badG, mt]
  | cons x l =>
    simp only [groupedF, e1, e2, e3, mt, hst, hb _ _ (Nat.le_refl 1), hb 2 _ (by decide)]
    rw [List.takeWhile_cons]
    cases hx : P1 a x with
    | false => simp [badG]
    | true =>
      simp only [if_true, List.dropWhile_cons, hx, Bool.true_and, Bool.false_eq_true, if_false]
      cases l with
      | nil =>
        rw [if_neg (by unfold badG; simp)]
        simp
      | cons y l =>
        rw [List.takeWhile_cons]
        cases hy : P1 a y with
        | true =>
          rw [if_pos (by unfold badG; rcases hk with rfl | rfl <;> simp)]
          have := apart_no h1 hy
          have h' := apart_no h2 hy
          simp [this, h']
        | false =>
          simp only [Bool.false_eq_true, if_false, List.length_cons, List.length_nil]
          rw [if_neg (by unfold badG; simp), dropWhile_nil, List.dropWhile_cons]
          simp [hy]
theorem op_eq (i : Nat) (x : Int) : (!opBad i x) = opAt i x := by
  unfold opBad opAt
  rcases Nat.mod_two_eq_zero_or_one i with h | h <;> simp [h]
theorem fit_eq (k : Int) (h0 : 0 ≤ k) (h1 : k ≤ 38) (l : List Int) : fitP k l = fitR k l := by
  have h : k = 0 ∨ k = 1 ∨ k = 2 ∨ k = 3 ∨ k = 4 ∨ k = 5 ∨ k = 6 ∨ k = 7 ∨ k = 8 ∨ k = 9 ∨ k = 10 ∨ k = 11 ∨ k = 12 ∨ k = 13 ∨ k = 14 ∨ k = 15 ∨ k = 16 ∨ k = 17 ∨ k = 18 ∨ k = 19 ∨ k = 20 ∨ k = 21 ∨ k = 22 ∨ k = 23 ∨ k = 24 ∨ k = 25 ∨ k = 26 ∨ k = 27 ∨ k = 28 ∨ k = 29 ∨ k = 30 ∨ k = 31 ∨ k = 32 ∨ k = 33 ∨ k = 34 ∨ k = 35 ∨ k = 36 ∨ k = 37 ∨ k = 38 := by omega
  have many (c : UInt8) (l : List Int) : shP (mny (clsOf c) 0) l = mt [(c, .star)] l := fam_back c [] l
  rcases h with rfl | rfl | rfl | rfl | rfl | rfl | rfl | rfl | rfl | rfl | rfl | rfl | rfl | rfl | rfl | rfl | rfl | rfl | rfl | rfl | rfl | rfl | rfl | rfl | rfl | rfl | rfl | rfl | rfl | rfl | rfl | rfl | rfl | rfl | rfl | rfl | rfl | rfl | rfl
  · exact many 68 l
  · exact many 110 l
  · exact many 110 l
  · exact fam_list [] l
  · exact fam_list [] l
  · exact grp_data l
  · exact many 84 l
  · exact many 111 l
  · exact fam_list [84, 84] l
  · exact grp_three 9 (.inl rfl) 118 110 115 (by decide) (by decide) (by decide) l
  · exact grp_three 10 (.inr rfl) 84 113 100 (by decide) (by decide) (by decide) l
  · exact fam_list [118] l
  · exact fam_back 113 [84] l
  · exact fam_list [69] l
  · exact fam_list [] l
  · exact many 84 l
  · exact fam_list [84, 114, 84] l
  · exact grp_two 17 (.inl rfl) 102 (by decide) l
  · exact grp_two 18 (.inr rfl) 110 (by decide) l
  · exact fam_list [88] l
  · exact fam_list [] l
  · exact fam_list [] l
  · exact fam_lam 86 [69] l
  · exact fam_list [69, 69] l
  · unfold fitP fitR
    rw [if_pos rfl, if_pos rfl]
    unfold opsP
    rw [show (fun i x => !opBad i x) = opAt from funext fun i => funext fun x => op_eq i x]
    rw [Bool.and_comm]
    congr 1
  · exact fam_back 98 [69] l
  · exact fam_list [69, 69, 69] l
  · exact fam_front [69] 97 l
  · exact fam_list [80, 69] l
  · exact many 102 l
  · exact fam_list [69] l
  · exact fam_list [69, 69] l
  · exact fam_front [69] 104 l
  · exact fam_list [86, 69] l
  · exact fam_list [86, 86, 69] l
  · exact fam_list [] l
  · exact fam_list [] l
  · exact fam_list [] l
  · exact many 80 l
end Go.Pk
