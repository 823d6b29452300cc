/- Trees: the counts and the depths as they stand in slices. No program in sight. No condition. -/
import Derived.Test.YtlcclcakdfmgkaaPkN
namespace Go.Pk
open Go.Eng Go.RowKit
set_option linter.unusedVariables false
set_option linter.unusedSimpArgs false

theorem ins_set (l : List Int) (i : Nat) (x : Int) : (ins l).set i (.int .i64 x) = ins (l.set i x) := by simp [ins, List.map_set]
theorem ins_zero (n : Nat) : ins (List.replicate n 0) = List.replicate n (.int .i64 0) := by simp [ins]
/-- how often each kid was named -/
def us (n : Nat) (fl : List Int) : List Int := (List.range n).map fun (k : Nat) => ((fl.count (k : Int) : Nat) : Int)
theorem us_len (n : Nat) (fl : List Int) : (us n fl).length = n := by simp [us]
theorem us_get {n m : Nat} {fl : List Int} (h : m < n) : (ins (us n fl))[0 + m * 1]? = some (.int .i64 ((fl.count (m : Int) : Nat) : Int)) := by
  rw [show 0 + m * 1 = m by omega]
  apply ins_get
  simp [us, h]
theorem us_set {n m : Nat} {fl : List Int} (h : m < n) : (ins (us n fl)).set (0 + (m : Int).toNat * 1) (.int .i64 (((fl.count (m : Int) : Nat) : Int) + 1)) = ins (us n (fl ++ [(m : Int)])) := by
  rw [show 0 + (m : Int).toNat * 1 = m by omega, ins_set]
  congr 1
  apply List.ext_getElem?
  intro j
  rw [List.getElem?_set]
  unfold us
  simp only [List.length_map, List.length_range, List.getElem?_map, List.count_append]
  by_cases hj : j < n
  · rw [List.getElem?_range hj]
    simp only [Option.map_some]
    by_cases e : m = j
    · subst e
      rw [if_pos rfl, if_pos h]
      simp
    · rw [if_neg e]
      have : ¬ ((m : Int) = (j : Int)) := by omega
      simp [List.count_cons, this]
  · rw [List.getElem?_eq_none (by simp; omega), if_neg (by omega)]
    rfl
theorem us_nil (n : Nat) : ins (us n []) = List.replicate n (.int .i64 0) := by
  rw [← ins_zero]
  congr 1
  simp only [us, List.count_nil]
  apply List.ext_getElem?
  intro j
  simp [List.getElem?_replicate]
  split
  · rw [List.getElem?_range (by assumption)]; rfl
  · rw [List.getElem?_eq_none (by simp; omega)]; rfl
theorem flat_len {B : Nat} : ∀ {t : List Nk}, (∀ u ∈ t, u.kids.length ≤ B) → (flat t).length ≤ t.length * B
  | [], _ => by simp [flat]
  | u :: t, h => by
    have h1 := h u (.head _)
    have h2 := flat_len (t := t) fun v hv => h v (.tail _ hv)
    unfold flat at h2 ⊢
    rw [List.flatMap_cons, List.length_append, List.length_cons, Nat.add_one_mul]
    omega
theorem flat_step {t : List Nk} {i : Nat} {u : Nk} (h : t[i]? = some u) : flat (t.take (i + 1)) = flat (t.take i) ++ u.kids := by
  rw [List.take_add_one, h]
  unfold flat
  rw [List.flatMap_append]
  simp
/-- the depths, with m at place i -/
def dl (t : List Nk) (i : Nat) (m : Int) (n : Nat) : List Int := dps t i ++ m :: List.replicate (n - i - 1) 0
theorem dl_len {t : List Nk} {i n : Nat} {m : Int} (h : i < n) : (dl t i m n).length = n := by
  unfold dl; rw [List.length_append, dps_len, List.length_cons, List.length_replicate]; omega
theorem dl_start {t : List Nk} {i n : Nat} (h : i < n) : dps t i ++ List.replicate (n - i) 0 = dl t i 0 n := by
  unfold dl; rw [show n - i = (n - i - 1) + 1 by omega, List.replicate_succ]; rfl
theorem dl_at {t : List Nk} {i n : Nat} {m : Int} : (ins (dl t i m n))[0 + i * 1]? = some (.int .i64 m) := by
  rw [show 0 + i * 1 = i by omega]
  apply ins_get
  unfold dl
  rw [List.getElem?_append_right (by rw [dps_len]; exact Nat.le_refl _), dps_len, Nat.sub_self]; rfl
theorem dl_old {t : List Nk} {i n k : Nat} {m : Int} (h : k < i) : (ins (dl t i m n))[0 + k * 1]? = some (.int .i64 ((dps t i).getD k 0)) := by
  rw [show 0 + k * 1 = k by omega]
  apply ins_get
  unfold dl
  rw [List.getElem?_append_left (by rw [dps_len]; exact h), List.getD_eq_getElem?_getD, List.getElem?_eq_getElem (by rw [dps_len]; exact h)]; rfl
theorem dl_set {t : List Nk} {i n : Nat} {m m' : Int} : (ins (dl t i m n)).set (0 + (i : Int).toNat * 1) (.int .i64 m') = ins (dl t i m' n) := by
  rw [show 0 + (i : Int).toNat * 1 = i by omega, ins_set]
  congr 1
  unfold dl
  rw [List.set_append_right _ _ (by rw [dps_len]; exact Nat.le_refl _), dps_len, Nat.sub_self]; rfl
theorem dl_end {t : List Nk} {i n : Nat} (h : i < n) : dl t i (dep t i) n = dps t (i + 1) ++ List.replicate (n - (i + 1)) 0 := by
  unfold dl
  rw [dps, List.append_assoc, show n - i - 1 = n - (i + 1) by omega]; rfl
theorem mx_step {D : List Int} {kids : List Int} {j : Nat} {k : Int} (h : kids[j]? = some k) : mx D (kids.take (j + 1)) 0 = max (mx D (kids.take j) 0) (D.getD k.toNat 0) := by
  rw [List.take_add_one, h]
  unfold mx
  rw [List.foldl_append]; rfl
theorem mx_le (t : List Nk) (i : Nat) (kids : List Int) : 0 ≤ mx (dps t i) kids 0 ∧ mx (dps t i) kids 0 ≤ i := mx_bound (dps_bound t i) kids 0 (by omega) (by omega)
theorem dep_eq {t : List Nk} {i : Nat} {u : Nk} (h : t[i]? = some u) : dep t i = mx (dps t i) u.kids 0 + 1 := by unfold dep kidsAt; rw [h]
theorem take_one {kids : List Int} {j : Nat} {k : Int} (h : kids[j]? = some k) : kids.take (j + 1) = kids.take j ++ [k] := by rw [List.take_add_one, h]; rfl
theorem us0 (t : List Nk) (n : Nat) : ins (us n (flat (t.take 0))) = List.replicate n (.int .i64 0) := us_nil n
theorem dps0 (t : List Nk) (n : Nat) : ins (dps t 0 ++ List.replicate (n - 0) 0) = List.replicate n (.int .i64 0) := ins_zero n
theorem tree_unf {t : List Nk} (h1 : t.length ≠ 0) (h2 : lastK t = 0) : treeE t = if errF t t 0 ≠ 0 then errF t t 0 else if ∀ i, i < t.length - 1 → (flat t).count (i : Int) = 1 then 0 else 3 := by
  unfold treeE; rw [if_neg (by rintro (h | h); exact h1 h; exact h h2)]
theorem node_bad {t : List Nk} {i : Nat} {u : Nk} {k : Int} (hk : k ∈ u.kids) (h : k < 0 ∨ (i : Int) ≤ k) : nodeE t i u = 3 := by
  unfold nodeE
  rw [if_pos]
  refine List.any_eq_true.2 ⟨k, hk, ?_⟩
  unfold badKid
  simpa using h
theorem kids_fine {i : Nat} {kids : List Int} (h : ∀ k ∈ kids, 0 ≤ k ∧ k < (i : Int)) : kids.any (badKid i) = false := by
  rw [Bool.eq_false_iff]
  intro h2
  obtain ⟨k, hk, hb⟩ := List.any_eq_true.1 h2
  have := h k hk
  unfold badKid at hb
  simp at hb
  omega
theorem nodeE_kind {t : List Nk} {i : Nat} {u : Nk} (hk : ∀ k ∈ u.kids, 0 ≤ k ∧ k < (i : Int)) (h : kindE t i u = true) : nodeE t i u = 3 := by
  unfold nodeE; rw [kids_fine hk, if_neg (by simp), if_pos h]
theorem nodeE_form {t : List Nk} {i : Nat} {u : Nk} (hk : ∀ k ∈ u.kids, 0 ≤ k ∧ k < (i : Int)) (h1 : kindE t i u = false) (h : formE t u = true) : nodeE t i u = 3 := by
  unfold nodeE; rw [kids_fine hk, if_neg (by simp), h1, if_neg (by simp), if_pos h]
theorem nodeE_dep {t : List Nk} {i : Nat} {u : Nk} (hk : ∀ k ∈ u.kids, 0 ≤ k ∧ k < (i : Int)) (h1 : kindE t i u = false) (h2 : formE t u = false) (h : 400 < dep t i) : nodeE t i u = 2 := by
  unfold nodeE; rw [kids_fine hk, if_neg (by simp), h1, if_neg (by simp), h2, if_neg (by simp), if_pos h]
theorem nodeE_rng {t : List Nk} {i : Nat} {u : Nk} (hk : ∀ k ∈ u.kids, 0 ≤ k ∧ k < (i : Int)) (h1 : kindE t i u = false) (h2 : formE t u = false) (h3 : ¬ 400 < dep t i) : nodeE t i u = if rngE u then 4 else 0 := by
  unfold nodeE; rw [kids_fine hk, if_neg (by simp), h1, if_neg (by simp), h2, if_neg (by simp), if_neg h3]
theorem kind_no {t : List Nk} {i : Nat} {u : Nk} (h : kindE t i u = false) : 0 ≤ u.kind ∧ u.kind ≤ 38 := by
  unfold kindE at h; simp only [Bool.or_eq_false_iff, decide_eq_false_iff_not] at h; omega
theorem take_all {l : List Int} : l.take l.length = l := List.take_length
end Go.Pk
