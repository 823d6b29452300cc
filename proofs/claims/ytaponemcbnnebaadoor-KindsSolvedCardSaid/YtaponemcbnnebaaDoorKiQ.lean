/- Plain: the kinds of the roots are those on which all solutions agree. No program in sight. No condition. -/
import Derived.Test.YtaponemcbnnebaaDoorKiI
namespace Go.Ki
open Go.Eng Go.RowKit
set_option linter.unusedVariables false
set_option linter.unusedSimpArgs false
/-- an assignment by a list of kinds -/
def fOf (flat : List Int) (i : Nat) : Int := if i < 3 then (i : Int) else flat.getD (i - 3) 0
def Flat (m : Nat) (flat : List Int) : Prop := flat.length = m ∧ ∀ v ∈ flat, 0 ≤ v ∧ v ≤ 2
theorem digs_flat (m x : Nat) : Flat m (digs m x) := ⟨digs_length m x, fun v hv => by
  simp only [digs, List.mem_map] at hv
  obtain ⟨k, _, rfl⟩ := hv
  omega⟩
theorem digs_all : ∀ (m : Nat) (flat : List Int), Flat m flat → ∃ x, x < p3 m ∧ digs m x = flat := by
  intro m
  induction m with
  | zero =>
    rintro flat ⟨h, _⟩
    rw [List.length_eq_zero_iff.1 h]
    exact ⟨0, by decide, rfl⟩
  | succ m ih =>
    rintro flat ⟨h, hr⟩
    have hd : flat = flat.take m ++ [flat.getD m 0] := by
      have h1 : flat.take (m + 1) = flat := List.take_of_length_le (by omega)
      conv => lhs; rw [← h1]
      rw [List.take_add_one, List.getElem?_eq_getElem (by omega)]
      simp [List.getD, List.getElem?_eq_getElem (show m < flat.length by omega)]
    obtain ⟨x, hx, hdx⟩ := ih (flat.take m) ⟨by simp [h], fun v hv => hr v (List.mem_of_mem_take hv)⟩
    have hv := hr (flat.getD m 0) (by
      simp only [List.getD, List.getElem?_eq_getElem (show m < flat.length by omega), Option.getD_some]
      exact List.getElem_mem _)
    generalize flat.getD m 0 = v at hd hv
    obtain ⟨n, rfl⟩ := Int.eq_ofNat_of_zero_le hv.1
    have hp : 0 < p3 m := Nat.pos_of_ne_zero (by unfold p3; simp)
    refine ⟨x + p3 m * n, ?_, ?_⟩
    · rw [p3_succ]
      have : p3 m * n ≤ p3 m * 2 := Nat.mul_le_mul_left _ (by omega)
      omega
    · rw [digs_succ, hd, ← hdx]
      congr 1
      · unfold digs
        refine List.map_congr_left fun k hk => ?_
        have hkm : k < m := List.mem_range.1 hk
        congr 1
        have e : p3 m = p3 k * (3 * 3 ^ (m - k - 1)) := by
          unfold p3
          rw [← Nat.pow_succ', ← Nat.pow_add]
          congr 1
          omega
        rw [e, Nat.mul_assoc, Nat.add_mul_div_left _ _ (Nat.pos_of_ne_zero (by unfold p3; simp)), Nat.mul_assoc, Nat.add_mul_mod_self_left]
      · congr 2
        rw [Nat.add_mul_div_left _ _ hp, Nat.div_eq_of_lt hx]
        omega
open Classical in
noncomputable def rootOf (σ : Sol) (i : Nat) : Nat := if h : ∃ r d, Rt σ.up d i r then Classical.choose h else 0
theorem rootOf_eq {σ : Sol} {d i r : Nat} (h : Rt σ.up d i r) : rootOf σ i = r := by
  have hx : ∃ r d, Rt σ.up d i r := ⟨r, d, h⟩
  unfold rootOf
  rw [dif_pos hx]
  obtain ⟨d', h'⟩ := Classical.choose_spec hx
  exact h'.uniq h
/-- the solution that gives v to the open class of r0, and 0 to all other open ones -/
noncomputable def solF (σ : Sol) (r0 : Nat) (v : Int) (i : Nat) : Int :=
  if i < σ.up.length then (if σ.kind.getD (rootOf σ i) 0 = -1 then (if rootOf σ i = r0 then v else 0) else σ.kind.getD (rootOf σ i) 0) else 0
theorem solF_at {σ : Sol} {r0 d i r : Nat} {v k : Int} (hr : Rt σ.up d i r) (hk : σ.kind[r]? = some k) : solF σ r0 v i = if k = -1 then (if r = r0 then v else 0) else k := by
  unfold solF
  rw [if_pos hr.lt.1, rootOf_eq hr]
  simp [List.getD, hk]
theorem solF_sat {σ : Sol} (hv : Inv σ) (r0 : Nat) {v : Int} (h : 0 ≤ v ∧ v ≤ 2) : Sat σ (solF σ r0 v) := by
  refine ⟨fun i j hij => ?_, fun i k hi hk hne => ?_, fun i => ?_⟩
  · have hil := (List.getElem?_eq_some_iff.1 hij).1
    obtain ⟨d, r, hr⟩ := hv.rt i hil
    obtain ⟨k, hk⟩ := hv.kind hr
    have hjr : ∃ d', Rt σ.up d' j r := by
      cases hr with
      | here h1 =>
        rw [hij] at h1
        obtain rfl := Option.some.inj h1
        exact ⟨0, .here hij⟩
      | step h1 hne t =>
        rw [hij] at h1
        obtain rfl := Option.some.inj h1
        exact ⟨_, t⟩
    obtain ⟨d', hr'⟩ := hjr
    rw [solF_at hr hk, solF_at hr' hk]
  · rw [solF_at (.here hi) hk, if_neg hne]
  · by_cases hil : i < σ.up.length
    · obtain ⟨d, r, hr⟩ := hv.rt i hil
      obtain ⟨k, hk⟩ := hv.kind hr
      have := hv.rng _ _ hk
      rw [solF_at hr hk]
      split
      · split <;> omega
      · omega
    · unfold solF
      rw [if_neg hil]
      omega
/-- the flat list of an assignment -/
def flatOf (m : Nat) (f : Nat → Int) : List Int := (List.range m).map fun p => f (3 + p)
theorem fOf_flatOf {m : Nat} {f : Nat → Int} (h3 : ∀ c, c < 3 → f c = c) (hm : ∀ i, 3 + m ≤ i → f i = 0) : fOf (flatOf m f) = f := by
  funext i
  unfold fOf
  by_cases h : i < 3
  · rw [if_pos h, h3 i h]
  · rw [if_neg h]
    by_cases h2 : i < 3 + m
    · simp only [flatOf, List.getD, List.getElem?_map, List.getElem?_range (show i - 3 < m by omega), Option.map_some, Option.getD_some]
      congr 1
      omega
    · rw [hm i (by omega)]
      simp [flatOf, List.getD, List.getElem?_map, List.getElem?_eq_none (show (List.range m).length ≤ i - 3 by simp; omega)]
theorem flatOf_flat {m : Nat} {f : Nat → Int} (h : ∀ i, 0 ≤ f i ∧ f i ≤ 2) : Flat m (flatOf m f) := ⟨by simp [flatOf], fun v hv => by
  simp only [flatOf, List.mem_map] at hv
  obtain ⟨p, _, rfl⟩ := hv
  exact h _⟩
theorem flatOf_get {m p : Nat} {f : Nat → Int} (h : p < m) : (flatOf m f).getD p 0 = f (3 + p) := by simp [flatOf, List.getD, h]
theorem fOf_get {m p : Nat} {flat : List Int} (h : p < m) : fOf flat (3 + p) = flat.getD p 0 := by
  unfold fOf
  rw [if_neg (by omega)]
  congr 1
  omega
def foundB (m : Nat) (ok : List Int → Bool) : List (List Int) := ((List.range (p3 m)).map (digs m)).filter ok
theorem mem_found {m : Nat} {ok : List Int → Bool} {flat : List Int} : flat ∈ foundB m ok ↔ Flat m flat ∧ ok flat = true := by
  unfold foundB
  rw [List.mem_filter, List.mem_map]
  constructor
  · rintro ⟨⟨x, _, rfl⟩, h⟩
    exact ⟨digs_flat m x, h⟩
  · rintro ⟨h1, h2⟩
    obtain ⟨x, hx, he⟩ := digs_all m flat h1
    exact ⟨⟨x, List.mem_range.2 hx, he⟩, h2⟩
theorem none_found {m : Nat} {ok : List Int → Bool} (h : ∀ flat, Flat m flat → ok flat = false) : foundB m ok = [] := by
  refine List.eq_nil_iff_forall_not_mem.2 fun flat hf => ?_
  obtain ⟨h1, h2⟩ := mem_found.1 hf
  rw [h flat h1] at h2
  cases h2
section
variable {m : Nat} {σ : Sol} {ok : List Int → Bool}
theorem sol_found (hv : Inv σ) (hl : σ.up.length = 3 + m) (hS : ∀ flat, Flat m flat → (Sat σ (fOf flat) ↔ ok flat = true)) (r0 : Nat) {v : Int} (h : 0 ≤ v ∧ v ≤ 2) : flatOf m (solF σ r0 v) ∈ foundB m ok := by
  have hs := solF_sat hv r0 h
  have hF : Flat m (flatOf m (solF σ r0 v)) := flatOf_flat hs.rng
  refine mem_found.2 ⟨hF, (hS _ hF).1 ?_⟩
  rw [fOf_flatOf (fun c hc => hs.base hv hc) (fun i hi => by unfold solF; rw [if_neg (by omega)])]
  exact hs
theorem found_some (hv : Inv σ) (hl : σ.up.length = 3 + m) (hS : ∀ flat, Flat m flat → (Sat σ (fOf flat) ↔ ok flat = true)) : foundB m ok ≠ [] := fun e => by
  have := sol_found hv hl hS 0 (v := 0) (by omega)
  rw [e] at this
  cases this
/-- the kind of the root is that on which all agree -/
theorem agree_root (hv : Inv σ) (hl : σ.up.length = 3 + m) (hS : ∀ flat, Flat m flat → (Sat σ (fOf flat) ↔ ok flat = true)) {p d r : Nat} {k : Int} (hp : p < m) (hr : Rt σ.up d (3 + p) r) (hk : σ.kind[r]? = some k) : agree (foundB m ok) p = max 0 k := by
  have hrng := hv.rng _ _ hk
  by_cases h : k = -1
  · subst h
    have h0 := sol_found hv hl hS r (v := 0) (by omega)
    have h1 := sol_found hv hl hS r (v := 1) (by omega)
    have e0 : (flatOf m (solF σ r 0)).getD p 0 = 0 := by rw [flatOf_get hp, solF_at hr hk]; simp
    have e1 : (flatOf m (solF σ r 1)).getD p 0 = 1 := by rw [flatOf_get hp, solF_at hr hk]; simp
    unfold agree
    split
    · rename_i ha
      rw [List.all_eq_true] at ha
      have a0 := of_decide_eq_true (ha _ h0)
      have a1 := of_decide_eq_true (ha _ h1)
      omega
    · rfl
  · have hall : ∀ flat ∈ foundB m ok, flat.getD p 0 = k := fun flat hf => by
      obtain ⟨h1, h2⟩ := mem_found.1 hf
      have hs := (hS flat h1).2 h2
      rw [← fOf_get hp, hs.root hr]
      exact hs.kn r k hr.top hk h
    have hne := found_some hv hl hS
    obtain ⟨f0, FO, he⟩ := List.exists_cons_of_ne_nil hne
    rw [he] at hall ⊢
    rw [agree_yes (fun j f hj => by rw [hall f (List.mem_of_getElem? hj), hall f0 (.head _)]), hall f0 (.head _)]
    omega
end
end Go.Ki
