/-
  Proved: WordArithmetic returns true for all a and b: sums, differences, products, quotients and remainders are those of the words. Conditions: none.
-/
import Derived.Test.YtejnmbgkhomcgaaWord
import Derived.WalkKit
import Derived.ProofKit
import Derived.OpenShut
namespace Go.Proofs.Ytejnmbgkhomcgaa.wordArithmetic
open Go.ChangeShapes Go.WideShapes Go.ChangeAt Go.RowKit
set_option linter.unusedVariables false      -- a walk need not use every 'w<i>' (that an integer argument fits its kind)

theorem own : ownKnob Try.prog.godebug = none := by kernel_rfl

open words
theorem ret_true {b : Bool} (h : b = true) : Ending.returned (.bool b) = .returned (.bool true) := by rw [h]
theorem wd_add (a b : Int) : wd (wd a + wd b) = wd (a + b) := by unfold wd; omega
theorem wd_sub (a b : Int) : wd (wd a - wd b) = wd (a - b) := by unfold wd; omega
theorem mul_lo (x y : Int) (hx : -1073741824 ≤ x ∧ x ≤ 1073741823) (hy : -1073741824 ≤ y ∧ y ≤ 1073741823) : -1152921504606846976 ≤ x * y ∧ x * y ≤ 1152921504606846976 := by
  have h : (x * y).natAbs ≤ 1073741824 * 1073741824 := by
    rw [Int.natAbs_mul]; exact Nat.mul_le_mul (by omega) (by omega)
  omega
/-- a number that leaves a word's bounds wraps only at -2^30 / -1 -/
theorem tmod_eq (x y : Int) : x.tmod y = x - qt x y * y := by
  have h := Int.tdiv_mul_add_tmod x y
  unfold qt; omega
theorem tm_bd (x y : Int) (hx : -1073741824 ≤ x ∧ x ≤ 1073741823) : -1073741824 ≤ x.tmod y ∧ x.tmod y ≤ 1073741824 := by
  have h1 : (x.tmod y).natAbs ≤ x.natAbs := by rw [Int.natAbs_tmod]; exact Nat.mod_le _ _
  omega
theorem walk0 (a0 : Int) (a1 : Int) (w : World) (h0 : wd a1 = 0) :
    Calls Try.prog 6 #[.int .i64 a0, .int .i64 a1] w fun e w' => e = .returned (.bool true) ∧ Grown w w' := by
  have e1 : wd (wrap64 (wd a0)) = wd (a0 + a1) := by have := wd_add a0 a1; rw [h0] at this; rw [← this]; unfold wd wrap64; omega
  have e2 : wd (wrap64 (wd a0)) = wd (a0 - a1) := by have := wd_sub a0 a1; rw [h0] at this; rw [← this]; unfold wd wrap64; omega
  rw [e2] at e1
  have e3 : (wd 1073741824 != -1073741824) = false := by decide +kernel
  go_enter Try.func6, Try.ntmps6
  go_wp2_with (first
      | (go_at_call 7; refine (wrap_calls _ _).mono ?_; rintro e w' ⟨rfl, rfl⟩)
      | (go_at_call 9; refine (refWrap_calls _ _).mono ?_; rintro e w' ⟨rfl, rfl⟩)
      | (go_at_call 13; refine (add_calls _ _ _).mono ?_; rintro e w' ⟨rfl, rfl⟩)
      | (go_at_call 14; refine (sub_calls _ _ _).mono ?_; rintro e w' ⟨rfl, rfl⟩)
      | (go_at_call 15; refine (mul_calls _ _ _).mono ?_; rintro e w' ⟨rfl, rfl⟩)
      | (go_at_call 16; refine (div_no _ _ h0 _).mono ?_; rintro e w' ⟨rfl, rfl⟩)
      | (go_at_call 17; refine (mod_no _ _ h0 _).mono ?_; rintro e w' ⟨rfl, rfl⟩)
      | (go_at_call 18; refine (quot_calls _ _ ⟨wd_lo _, wd_hi _⟩ ⟨wd_lo _, wd_hi _⟩ h0 _).mono ?_; rintro e w' ⟨rfl, rfl⟩))
  all_goals go_ret
  all_goals exact ⟨ret_true (by simp [*]), Grown.refl _⟩

theorem walk1 (a0 : Int) (a1 : Int) (w : World) (h0 : ¬ wd a1 = 0) :
    Calls Try.prog 6 #[.int .i64 a0, .int .i64 a1] w fun e w' => e = .returned (.bool true) ∧ Grown w w' := by
  have h0b : (wd a1 == 0) = false := by simpa using h0
  have l0 := wd_lo a0; have u0 := wd_hi a0; have l1 := wd_lo a1; have u1 := wd_hi a1
  have ml := mul_lo (wd a0) (wd a1) ⟨l0, u0⟩ ⟨l1, u1⟩
  have e1 : wd (wrap64 (wd a0 + wd a1)) = wd (a0 + a1) := by rw [← wd_add a0 a1]; unfold wd wrap64; omega
  have e2 : wd (wrap64 (wd a0 - wd a1)) = wd (a0 - a1) := by rw [← wd_sub a0 a1]; unfold wd wrap64; omega
  have e4 : wd (wrap64 (wd a0 * wd a1)) = wd (wd a0 * wd a1) := by generalize wd a0 * wd a1 = z at *; unfold wd wrap64; omega
  have e5 : wrap64 (wd a0 - wrap64 (qt (wd a0) (wd a1) * wd a1)) = (wd a0).tmod (wd a1) := by
    have h1 := tmod_eq (wd a0) (wd a1)
    have h2 := tm_bd (wd a0) (wd a1) ⟨l0, u0⟩
    generalize qt (wd a0) (wd a1) * wd a1 = z at *
    generalize (wd a0).tmod (wd a1) = r at *
    unfold wrap64; omega
  clear ml
  have e3 : (wd 1073741824 != -1073741824) = false := by decide +kernel
  go_enter Try.func6, Try.ntmps6
  go_wp2_with (first
      | (go_at_call 7; refine (wrap_calls _ _).mono ?_; rintro e w' ⟨rfl, rfl⟩)
      | (go_at_call 9; refine (refWrap_calls _ _).mono ?_; rintro e w' ⟨rfl, rfl⟩)
      | (go_at_call 13; refine (add_calls _ _ _).mono ?_; rintro e w' ⟨rfl, rfl⟩)
      | (go_at_call 14; refine (sub_calls _ _ _).mono ?_; rintro e w' ⟨rfl, rfl⟩)
      | (go_at_call 15; refine (mul_calls _ _ _).mono ?_; rintro e w' ⟨rfl, rfl⟩)
      | (go_at_call 16; refine (div_yes _ _ h0b h0 _).mono ?_; rintro e w' ⟨rfl, rfl⟩)
      | (go_at_call 17; refine (mod_yes _ _ h0b h0 _).mono ?_; rintro e w' ⟨rfl, rfl⟩)
      | (go_at_call 18; refine (quot_calls _ _ ⟨wd_lo _, wd_hi _⟩ ⟨wd_lo _, wd_hi _⟩ h0 _).mono ?_; rintro e w' ⟨rfl, rfl⟩))
  all_goals go_ret
  all_goals exact ⟨ret_true (by first | (simp [*]; done) | (exfalso; have q1 := wd_add a0 a1; have q2 := wd_sub a0 a1; clear e1 e2 e4 e5 e3; first | (apply ‹¬ wd (a0 + a1) = wd (wd a0 + wd a1)›; exact q1.symm) | (apply ‹¬ wd (a0 - a1) = wd (wd a0 - wd a1)›; exact q2.symm))), Grown.refl _⟩
theorem walk (a0 : Int) (a1 : Int) (w0 : (Lit.int .i64 a0).wf = true) (w1 : (Lit.int .i64 a1).wf = true) (w : World) :
    Calls Try.prog 6 #[.int .i64 a0, .int .i64 a1] w fun e w' => e = .returned (.bool true) ∧ Grown w w' := by
  by_cases h0 : wd a1 = 0
  · exact walk0 a0 a1 w h0
  · exact walk1 a0 a1 w h0

/-! ### THE ROW's STEP: WRITTEN OUT: LEAVE IT -/
set_option maxRecDepth 100000 in
theorem lifted (os : Os) (started : os.Started) (H : Type) (enc : TypeId × Value → H) :
    ReturnsInHanded {} Try.checked os 6 .any (Rows.wordArithmeticSpec.pre6 enc Try.prog Try.f6 Rows.wordArithmeticRow.domain false) (Rows.wordArithmeticSpec.post enc Try.prog Try.f6 false true false false) := by
  refine returnsInHanded_of_change (C := Try.checked) own started (by kernel_rfl) Try.func6
    (ChangeSpec.witness6 (enc := enc) (C := Try.checked) false ⟨#[], #[.int .i64 0, .int .i64 0], []⟩ 8 (by kernel_rfl) (by kernel_rfl) (by kernel_rfl) (by kernel_rfl)) ?_
  intro W base args ds gs before hval0 hW hcnd _
  have hval : ∀ (j : Nat) t v, Try.f6.params[j]? = some t → args[j]? = some v → Value.okWide Try.prog W .any base t v := hval0
  have hW' := hW
  obtain ⟨p, q, hA0, hV, rfl, hfz, hnd⟩ := hW
  have hA : DataW.TrodAll enc Try.prog W 0 (fun _ => true) true Try.f6.params.toList args.toList ds p := hA0
  rw [Try.params6] at hA hval
  obtain ⟨v0, vs0, d0, ds0, p0, q0, hargs, rfl, rfl, h0, r0⟩ := trodAll_cons hA
  obtain ⟨v1, vs1, d1, ds1, p1, q1, rfl, rfl, rfl, h1, r1⟩ := trodAll_cons r0
  obtain ⟨rfl, rfl, rfl⟩ := trodAll_nil r1
  obtain rfl : args = #[v0, v1] := by cases args; simp_all
  obtain ⟨rfl, rfl⟩ := trodVars_none hV
  obtain ⟨a0, rfl, rfl, rfl, w0⟩ := open_int Try.underlying3 (hval 0 3 v0 rfl rfl) h0
  obtain ⟨a1, rfl, rfl, rfl, w1⟩ := open_int Try.underlying3 (hval 1 3 v1 rfl rfl) h1
  clear hA0 hval0
  simp only [List.append_nil] at hW'
  refine (walk a0 a1 w0 w1 W).mono fun e W' ⟨he, hg⟩ => ?_
  subst he
  exact ⟨_, rfl, post_of_same (pa := []) (pv := []) hW' (fun _ _ _ => (trodAll_cons_mk (shut_bool Try.underlying4 _) trodAll_mk0)) (fun sp _ => (trodAll_cons_mk (shut_int Try.underlying3 w0) (trodAll_cons_mk (shut_int Try.underlying3 w1) trodAll_mk0))) (fun _ _ => rfl) rfl
    (hg.frame _) hg.2.1 (ok_one (by kernel_rfl) rfl (okWide_bool_mk Try.underlying4 _))⟩

theorem over : Rows.wordArithmeticRow.holds Try.pinned (OpenSpec.ofChange Rows.wordArithmeticSpec) :=
  OpenClaim.holds_of_wide 6 Try.f6 rfl rfl rfl rfl rfl rfl rfl ⟨rfl, rfl, rfl, rfl, rfl⟩ rfl rfl rfl rfl rfl (by kernel_rfl) Try.func6 (by kernel_rfl)
    (of_decide_eq_true (by kernel_rfl)) (by unfold Func.isWrapper; first | (rw [if_pos (by decide +kernel)]; kernel_rfl) | (rw [if_neg (by decide +kernel)]; exact ⟨rfl, rfl⟩))
    (fun os started H enc _ => lifted os started H enc)

/-- ████ THE STATEMENT ████ -/
theorem proved : Rows.WordArithmeticSaid :=
  over
#print axioms proved
end Go.Proofs.Ytejnmbgkhomcgaa.wordArithmetic
