/- The words of chapter 1: contracts of package word and of the reference's Wrap and Quotient: each returns the number that the plain functions below give; no condition. -/
import Derived.Test.YtejnmbgkhomcgaaRows
import Derived.WalkKit
import Derived.ProofKit
import Derived.OpenShut
import Derived.IntWalk
import Derived.Lib.Hide
namespace Go.Proofs.Ytejnmbgkhomcgaa.words
open Go.ChangeShapes Go.WideShapes Go.ChangeAt Go.RowKit

/-- the word that is congruent to n -/
def wd (n : Int) : Int := (n + 1073741824) % 2147483648 - 1073741824

theorem wd_lo (n : Int) : -1073741824 ≤ wd n := by unfold wd; omega
theorem wd_hi (n : Int) : wd n ≤ 1073741823 := by unfold wd; omega

theorem and_low (x : Int) : bits .and .i64 x 2147483647 = x % 2147483648 := by
  have h1 : (BitVec.ofInt 64 2147483647).toNat = 2 ^ 31 - 1 := by decide
  have h2 : (BitVec.ofInt 64 x).toNat = (x % 18446744073709551616).toNat := by
    rw [BitVec.toNat_ofInt]; rfl
  show IntKind.i64.wrap ((BitVec.ofInt 64 x &&& BitVec.ofInt 64 2147483647).toNat : Int) = _
  rw [BitVec.toNat_and, h1, Nat.and_two_pow_sub_one_eq_mod, h2, IntKind.wrap_i64]
  omega

theorem wrap_wd (n : Int) : wrap64 (bits .and .i64 (wrap64 (n + 1073741824)) 2147483647 - 1073741824) = wd n := by
  rw [and_low]; unfold wrap64 wd; omega

theorem ret_int {k : IntKind} {a b : Int} (h : a = b) : Ending.returned (.int k a) = .returned (.int k b) := by rw [h]

theorem wrap_calls (n : Int) (w : World) : Calls Try.prog 7 #[.int .i64 n] w fun e w' => e = .returned (.int .i64 (wd n)) ∧ w = w' := by
  go_enter Try.func7, Try.ntmps7
  go_wp2
  go_ret
  exact ⟨ret_int (wrap_wd n), rfl⟩

theorem tm (n : Int) : 0 ≤ n ∧ n.tmod 2147483648 = n % 2147483648 ∨ n < 0 ∧ n.tmod 2147483648 = -((-n) % 2147483648) := by
  by_cases h : 0 ≤ n
  · exact .inl ⟨h, Int.tmod_eq_emod_of_nonneg h⟩
  · refine .inr ⟨by omega, ?_⟩
    have h1 : (-n).tmod 2147483648 = (-n) % 2147483648 := Int.tmod_eq_emod_of_nonneg (by omega)
    rw [Int.neg_tmod] at h1; omega

theorem refWrap_calls (n : Int) (w : World) : Calls Try.prog 9 #[.int .i64 n] w fun e w' => e = .returned (.int .i64 (wd n)) ∧ w = w' := by
  go_enter Try.func9, Try.ntmps9
  go_wp2
  all_goals go_ret
  all_goals exact ⟨ret_int (by have ht := tm n; unfold wd; unfold wrap64 at *; omega), rfl⟩

/-- the quotient of two words, by signs -/
def qt (a b : Int) : Int := a.tdiv b

theorem qt_bd (a b : Int) (ha : -1073741824 ≤ a ∧ a ≤ 1073741823) : -1073741824 ≤ qt a b ∧ qt a b ≤ 1073741824 := by
  unfold qt
  have h1 : (a.tdiv b).natAbs ≤ a.natAbs := by rw [Int.natAbs_tdiv]; exact Nat.div_le_self _ _
  omega
theorem quot_eq (x : Int) (h : -1073741824 ≤ x ∧ x ≤ 1073741824) : wrap64 x = x := by unfold wrap64; omega
theorem quot_eq2 (x : Int) (h : -1073741824 ≤ x ∧ x ≤ 1073741824) : wrap64 (-wrap64 (-x)) = x := by unfold wrap64; omega
theorem quot_eq3 (a b : Int) (h : 0 ≤ a) : a / b = qt a b := by unfold qt; rw [Int.tdiv_eq_ediv_of_nonneg h]

theorem quot_calls (a b : Int) (ha : -1073741824 ≤ a ∧ a ≤ 1073741823) (hb : -1073741824 ≤ b ∧ b ≤ 1073741823) (h0 : b ≠ 0) (w : World) :
    Calls Try.prog 18 #[.int .i64 a, .int .i64 b] w fun e w' => e = .returned (.int .i64 (qt a b)) ∧ w = w' := by
  by_cases h1 : a < 0 <;> by_cases h2 : b < 0
  all_goals
    go_enter Try.func18, Try.ntmps18
    go_wp2
    go_ret
  all_goals refine ⟨ret_int ?_, rfl⟩
  all_goals have hq := qt_bd a b ha
  · exact quot_eq _ hq
  · exact quot_eq2 _ hq
  · exact quot_eq2 _ hq
  · exact quot_eq3 a b (by omega)

theorem add_calls (a b : Int) (w : World) : Calls Try.prog 13 #[.int .i64 a, .int .i64 b] w fun e w' => e = .returned (.int .i64 (wd (a + b))) ∧ w = w' := by
  go_enter Try.func13, Try.ntmps13
  go_wp2_with (go_at_call 7; refine (wrap_calls _ _).mono ?_; rintro e w' ⟨rfl, rfl⟩)
  go_ret
  exact ⟨ret_int (by unfold wd wrap64; omega), rfl⟩

theorem sub_calls (a b : Int) (w : World) : Calls Try.prog 14 #[.int .i64 a, .int .i64 b] w fun e w' => e = .returned (.int .i64 (wd (a - b))) ∧ w = w' := by
  go_enter Try.func14, Try.ntmps14
  go_wp2_with (go_at_call 7; refine (wrap_calls _ _).mono ?_; rintro e w' ⟨rfl, rfl⟩)
  go_ret
  exact ⟨ret_int (by unfold wd wrap64; omega), rfl⟩

theorem mul_calls (a b : Int) (w : World) : Calls Try.prog 15 #[.int .i64 a, .int .i64 b] w fun e w' => e = .returned (.int .i64 (wd (wd a * wd b))) ∧ w = w' := by
  go_enter Try.func15, Try.ntmps15
  go_wp2_with (go_at_call 7; refine (wrap_calls _ _).mono ?_; rintro e w' ⟨rfl, rfl⟩)
  go_ret
  exact ⟨ret_int (by unfold wrap64; generalize wd a * wd b = z; unfold wd; omega), rfl⟩

theorem div_no (a b : Int) (h : wd b = 0) (w : World) : Calls Try.prog 16 #[.int .i64 a, .int .i64 b] w fun e w' =>
    e = .returned (.tuple #[.int .i64 0, .int .i64 1]) ∧ w = w' := by
  go_enter Try.func16, Try.ntmps16
  go_wp2_with (go_at_call 7; refine (wrap_calls _ _).mono ?_; rintro e w' ⟨rfl, rfl⟩)
  go_ret2
  exact ⟨rfl, rfl⟩
theorem div_yes (a b : Int) (h : (wd b == 0) = false) (h' : ¬ wd b = 0) (w : World) : Calls Try.prog 16 #[.int .i64 a, .int .i64 b] w fun e w' =>
    e = .returned (.tuple #[.int .i64 (wd (qt (wd a) (wd b))), .int .i64 0]) ∧ w = w' := by
  have h1 := wd_lo a; have h2 := wd_hi a
  have hq := Lib.hid (quot_eq _ (qt_bd (wd a) (wd b) ⟨h1, h2⟩))
  go_enter Try.func16, Try.ntmps16
  go_wp2_with (go_at_call 7; refine (wrap_calls _ _).mono ?_; rintro e w' ⟨rfl, rfl⟩)
  go_ret2
  exact ⟨by rw [← hq.out]; rfl, rfl⟩
theorem mod_no (a b : Int) (h : wd b = 0) (w : World) : Calls Try.prog 17 #[.int .i64 a, .int .i64 b] w fun e w' =>
    e = .returned (.tuple #[.int .i64 0, .int .i64 1]) ∧ w = w' := by
  go_enter Try.func17, Try.ntmps17
  go_wp2_with (go_at_call 7; refine (wrap_calls _ _).mono ?_; rintro e w' ⟨rfl, rfl⟩)
  go_ret2
  exact ⟨rfl, rfl⟩
theorem mod_yes (a b : Int) (h : (wd b == 0) = false) (h' : ¬ wd b = 0) (w : World) : Calls Try.prog 17 #[.int .i64 a, .int .i64 b] w fun e w' =>
    e = .returned (.tuple #[.int .i64 ((wd a).tmod (wd b)), .int .i64 0]) ∧ w = w' := by
  go_enter Try.func17, Try.ntmps17
  go_wp2_with (go_at_call 7; refine (wrap_calls _ _).mono ?_; rintro e w' ⟨rfl, rfl⟩)
  go_ret2
  exact ⟨rfl, rfl⟩
theorem pack_calls (n : Int) (w : World) : Calls Try.prog 8 #[.int .i64 n] w fun e w' => e = .returned (.int .i64 (2 * wd n + 1)) ∧ w = w' := by
  have h1 := wd_lo n; have h2 := wd_hi n
  go_enter Try.func8, Try.ntmps8
  go_wp2_with (go_at_call 7; refine (wrap_calls _ _).mono ?_; rintro e w' ⟨rfl, rfl⟩)
  go_ret
  exact ⟨rfl, rfl⟩
theorem and_one (x : Int) : bits .and .i64 x 1 = x % 2 := by
  have h1 : (BitVec.ofInt 64 1).toNat = 2 ^ 1 - 1 := by decide
  have h2 : (BitVec.ofInt 64 x).toNat = (x % 18446744073709551616).toNat := by
    rw [BitVec.toNat_ofInt]; rfl
  show IntKind.i64.wrap ((BitVec.ofInt 64 x &&& BitVec.ofInt 64 1).toNat : Int) = _
  rw [BitVec.toNat_and, h1, Nat.and_two_pow_sub_one_eq_mod, h2, IntKind.wrap_i64]
  omega
theorem unpack_yes (v : Int) (hl : -2147483648 ≤ v) (hu : v ≤ 2147483647) (h : (v % 2 == 0) = false) (w : World) :
    Calls Try.prog 10 #[.int .i64 v] w fun e w' => e = .returned (.tuple #[.int .i64 (v / 2), .bool true]) ∧ w = w' := by
  have h1 := and_one v
  have hl' : decide (v < -2147483648) = false := by simpa using hl
  have hu' : decide (2147483648 ≤ v) = false := by simp; omega
  go_enter Try.func10, Try.ntmps10
  go_wp2
  go_ret2
  exact ⟨rfl, rfl⟩
theorem unpack_no1 (v : Int) (h : (v % 2 == 0) = true) (w : World) :
    Calls Try.prog 10 #[.int .i64 v] w fun e w' => e = .returned (.tuple #[.int .i64 0, .bool false]) ∧ w = w' := by
  have h1 := and_one v
  go_enter Try.func10, Try.ntmps10
  go_wp2
  go_ret2
  exact ⟨rfl, rfl⟩
theorem unpack_no2 (v : Int) (h : (v % 2 == 0) = false) (hl : v < -2147483648) (w : World) :
    Calls Try.prog 10 #[.int .i64 v] w fun e w' => e = .returned (.tuple #[.int .i64 0, .bool false]) ∧ w = w' := by
  have h1 := and_one v
  go_enter Try.func10, Try.ntmps10
  go_wp2
  go_ret2
  exact ⟨rfl, rfl⟩
theorem unpack_no3 (v : Int) (h : (v % 2 == 0) = false) (hl : -2147483648 ≤ v) (hu : 2147483648 ≤ v) (w : World) :
    Calls Try.prog 10 #[.int .i64 v] w fun e w' => e = .returned (.tuple #[.int .i64 0, .bool false]) ∧ w = w' := by
  have h1 := and_one v
  have hl' : decide (v < -2147483648) = false := by simpa using hl
  go_enter Try.func10, Try.ntmps10
  go_wp2
  go_ret2
  exact ⟨rfl, rfl⟩
def unM (v : Int) : Int := if v % 2 ≠ 0 ∧ -2147483648 ≤ v ∧ v ≤ 2147483647 then v / 2 else 0
def unB (v : Int) : Bool := decide (v % 2 ≠ 0 ∧ -2147483648 ≤ v ∧ v ≤ 2147483647)
theorem unpack_calls (v : Int) (w : World) :
    Calls Try.prog 10 #[.int .i64 v] w fun e w' => e = .returned (.tuple #[.int .i64 (unM v), .bool (unB v)]) ∧ w = w' := by
  by_cases h : v % 2 = 0
  · have e1 : unM v = 0 := by simp [unM, h]
    have e2 : unB v = false := by simp [unB, h]
    rw [e1, e2]; exact unpack_no1 v (by simpa using h) w
  · by_cases hl : v < -2147483648
    · have e1 : unM v = 0 := by unfold unM; rw [if_neg (by omega)]
      have e2 : unB v = false := by unfold unB; rw [decide_eq_false_iff_not]; omega
      rw [e1, e2]; exact unpack_no2 v (by simpa using h) hl w
    · by_cases hu : 2147483648 ≤ v
      · have e1 : unM v = 0 := by unfold unM; rw [if_neg (by omega)]
        have e2 : unB v = false := by unfold unB; rw [decide_eq_false_iff_not]; omega
        rw [e1, e2]; exact unpack_no3 v (by simpa using h) (by omega) hu w
      · have e1 : unM v = v / 2 := by unfold unM; rw [if_pos (by omega)]
        have e2 : unB v = true := by unfold unB; rw [decide_eq_true_iff]; omega
        rw [e1, e2]; exact unpack_yes v (by omega) (by omega) (by simpa using h) w
end Go.Proofs.Ytejnmbgkhomcgaa.words
