/-
  Proved: WordPacked returns true for all n and w: Pack gives 2n+1 and Unpack accepts just the odd numbers of 32 bits. Conditions: none.
-/
import Derived.Test.YtejnmbgkhomcgaaWord
import Derived.WalkKit
import Derived.ProofKit
import Derived.OpenShut
namespace Go.Proofs.Ytejnmbgkhomcgaa.wordPacked
open Go.ChangeShapes Go.WideShapes Go.ChangeAt Go.RowKit
set_option linter.unusedVariables false      -- a walk need not use every 'w<i>' (that an integer argument fits its kind)

theorem own : ownKnob Try.prog.godebug = none := by kernel_rfl

open words
theorem un_pack (a : Int) : unM (2 * wd a + 1) = wd a ∧ unB (2 * wd a + 1) = true := by
  have h1 := wd_lo a; have h2 := wd_hi a
  generalize wd a = x at *
  unfold unM unB
  rw [if_pos (by omega), decide_eq_true_iff]; omega
theorem tm2 (n : Int) : 0 ≤ n ∧ n.tmod 2 = n % 2 ∨ n < 0 ∧ n.tmod 2 = -((-n) % 2) := by
  by_cases h : 0 ≤ n
  · exact .inl ⟨h, Int.tmod_eq_emod_of_nonneg h⟩
  · refine .inr ⟨by omega, ?_⟩
    have h1 : (-n).tmod 2 = (-n) % 2 := Int.tmod_eq_emod_of_nonneg (by omega)
    rw [Int.neg_tmod] at h1; omega
theorem w5 : (2 * wd 5 + 1 != 11) = false := by decide
theorem ret_true {b : Bool} (h : b = true) : Ending.returned (.bool b) = .returned (.bool true) := by rw [h]
theorem walk (a0 : Int) (a1 : Int) (w0 : (Lit.int .i64 a0).wf = true) (w1 : (Lit.int .i64 a1).wf = true) (w : World) :
    Calls Try.prog 4 #[.int .i64 a0, .int .i64 a1] w fun e w' => e = .returned (.bool true) ∧ Grown w w' := by
  have h1 := wd_lo a0; have h2 := wd_hi a0
  have h5 := w5
  obtain ⟨p1, p2⟩ := un_pack a0
  have ht := tm2 a1
  by_cases c0 : a1 % 2 = 0
  · have e1 : unM a1 = 0 := by unfold unM; rw [if_neg (by omega)]
    have e2 : unB a1 = false := by unfold unB; rw [decide_eq_false_iff_not]; omega
    have c : (a1.tmod 2 != 0) = false := by simp; omega
    clear ht
    go_enter Try.func4, Try.ntmps4
    go_wp2_with (first
      | (go_at_call 8; refine (pack_calls _ _).mono ?_; rintro e w' ⟨rfl, rfl⟩)
      | (go_at_call 9; refine (refWrap_calls _ _).mono ?_; rintro e w' ⟨rfl, rfl⟩)
      | (go_at_call 10; refine (unpack_calls _ _).mono ?_; rintro e w' ⟨rfl, rfl⟩))
    all_goals go_ret
    all_goals exact ⟨ret_true (by simp [*]), Grown.refl _⟩
  · have c : (a1.tmod 2 != 0) = true := by simp; omega
    by_cases c1 : -2147483648 ≤ a1
    · have d1 : decide (-2147483648 ≤ a1) = true := by simpa using c1
      by_cases c2 : a1 ≤ 2147483647
      · have d2 : decide (a1 ≤ 2147483647) = true := by simpa using c2
        have e1 : unM a1 = a1 / 2 := by unfold unM; rw [if_pos (by omega)]
        have e2 : unB a1 = true := by unfold unB; rw [decide_eq_true_iff]; omega
        have e3 : (2 * (a1 / 2) + 1 == a1) = true := by simp; omega
        clear ht
        go_enter Try.func4, Try.ntmps4
        go_wp2_with (first
          | (go_at_call 8; refine (pack_calls _ _).mono ?_; rintro e w' ⟨rfl, rfl⟩)
          | (go_at_call 9; refine (refWrap_calls _ _).mono ?_; rintro e w' ⟨rfl, rfl⟩)
          | (go_at_call 10; refine (unpack_calls _ _).mono ?_; rintro e w' ⟨rfl, rfl⟩))
        all_goals go_ret
        all_goals exact ⟨ret_true (by simp [*]), Grown.refl _⟩
      · have d2 : decide (a1 ≤ 2147483647) = false := by simpa using c2
        have e1 : unM a1 = 0 := by unfold unM; rw [if_neg (by omega)]
        have e2 : unB a1 = false := by unfold unB; rw [decide_eq_false_iff_not]; omega
        clear ht
        go_enter Try.func4, Try.ntmps4
        go_wp2_with (first
          | (go_at_call 8; refine (pack_calls _ _).mono ?_; rintro e w' ⟨rfl, rfl⟩)
          | (go_at_call 9; refine (refWrap_calls _ _).mono ?_; rintro e w' ⟨rfl, rfl⟩)
          | (go_at_call 10; refine (unpack_calls _ _).mono ?_; rintro e w' ⟨rfl, rfl⟩))
        all_goals go_ret
        all_goals exact ⟨ret_true (by simp [*]), Grown.refl _⟩
    · have d1 : decide (-2147483648 ≤ a1) = false := by simpa using c1
      have e1 : unM a1 = 0 := by unfold unM; rw [if_neg (by omega)]
      have e2 : unB a1 = false := by unfold unB; rw [decide_eq_false_iff_not]; omega
      clear ht
      go_enter Try.func4, Try.ntmps4
      go_wp2_with (first
        | (go_at_call 8; refine (pack_calls _ _).mono ?_; rintro e w' ⟨rfl, rfl⟩)
        | (go_at_call 9; refine (refWrap_calls _ _).mono ?_; rintro e w' ⟨rfl, rfl⟩)
        | (go_at_call 10; refine (unpack_calls _ _).mono ?_; rintro e w' ⟨rfl, rfl⟩))
      all_goals go_ret
      all_goals exact ⟨ret_true (by simp [*]), Grown.refl _⟩

/-! ### THE ROW's STEP: WRITTEN OUT: LEAVE IT -/
set_option maxRecDepth 100000 in
theorem lifted (os : Os) (started : os.Started) (H : Type) (enc : TypeId × Value → H) :
    ReturnsInHanded {} Try.checked os 4 .any (Rows.wordPackedSpec.pre6 enc Try.prog Try.f4 Rows.wordPackedRow.domain false) (Rows.wordPackedSpec.post enc Try.prog Try.f4 false true false false) := by
  refine returnsInHanded_of_change (C := Try.checked) own started (by kernel_rfl) Try.func4
    (ChangeSpec.witness6 (enc := enc) (C := Try.checked) false ⟨#[], #[.int .i64 0, .int .i64 0], []⟩ 8 (by kernel_rfl) (by kernel_rfl) (by kernel_rfl) (by kernel_rfl)) ?_
  intro W base args ds gs before hval0 hW hcnd _
  have hval : ∀ (j : Nat) t v, Try.f4.params[j]? = some t → args[j]? = some v → Value.okWide Try.prog W .any base t v := hval0
  have hW' := hW
  obtain ⟨p, q, hA0, hV, rfl, hfz, hnd⟩ := hW
  have hA : DataW.TrodAll enc Try.prog W 0 (fun _ => true) true Try.f4.params.toList args.toList ds p := hA0
  rw [Try.params4] at hA hval
  obtain ⟨v0, vs0, d0, ds0, p0, q0, hargs, rfl, rfl, h0, r0⟩ := trodAll_cons hA
  obtain ⟨v1, vs1, d1, ds1, p1, q1, rfl, rfl, rfl, h1, r1⟩ := trodAll_cons r0
  obtain ⟨rfl, rfl, rfl⟩ := trodAll_nil r1
  obtain rfl : args = #[v0, v1] := by cases args; simp_all
  obtain ⟨rfl, rfl⟩ := trodVars_none hV
  obtain ⟨a0, rfl, rfl, rfl, w0⟩ := open_int Try.underlying3 (hval 0 3 v0 rfl rfl) h0
  obtain ⟨a1, rfl, rfl, rfl, w1⟩ := open_int Try.underlying3 (hval 1 3 v1 rfl rfl) h1
  clear hA0 hval0
  simp only [List.append_nil] at hW'
  refine (walk a0 a1 w0 w1 W).mono fun e W' ⟨he, hg⟩ => ?_
  subst he
  exact ⟨_, rfl, post_of_same (pa := []) (pv := []) hW' (fun _ _ _ => (trodAll_cons_mk (shut_bool Try.underlying4 _) trodAll_mk0)) (fun sp _ => (trodAll_cons_mk (shut_int Try.underlying3 w0) (trodAll_cons_mk (shut_int Try.underlying3 w1) trodAll_mk0))) (fun _ _ => rfl) rfl
    (hg.frame _) hg.2.1 (ok_one (by kernel_rfl) rfl (okWide_bool_mk Try.underlying4 _))⟩

theorem over : Rows.wordPackedRow.holds Try.pinned (OpenSpec.ofChange Rows.wordPackedSpec) :=
  OpenClaim.holds_of_wide 4 Try.f4 rfl rfl rfl rfl rfl rfl rfl ⟨rfl, rfl, rfl, rfl, rfl⟩ rfl rfl rfl rfl rfl (by kernel_rfl) Try.func4 (by kernel_rfl)
    (of_decide_eq_true (by kernel_rfl)) (by unfold Func.isWrapper; first | (rw [if_pos (by decide +kernel)]; kernel_rfl) | (rw [if_neg (by decide +kernel)]; exact ⟨rfl, rfl⟩))
    (fun os started H enc _ => lifted os started H enc)

/-- ████ THE STATEMENT ████ -/
theorem proved : Rows.WordPackedSaid :=
  over
#print axioms proved
end Go.Proofs.Ytejnmbgkhomcgaa.wordPacked
