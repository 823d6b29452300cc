/- Trees: nodes, their errors, depths and counts. No program in sight. No condition. -/
import Derived.Test.YtlcclcakdfmgkaaPkQ
namespace Go.Pk
open Go.Eng Go.RowKit
set_option linter.unusedVariables false
set_option linter.unusedSimpArgs false

structure Nk where
  kind : Int
  text : ByteArray
  n : Int
  kids : List Int
  q : Option Addr
  cap : Nat
  line : Int
  col : Int
/-- a node's cells -/
def nc (u : Nk) : List Value := [.int .i64 u.kind, .string u.text, .int .i64 u.n, .slice u.q u.kids.length u.cap, .int .i64 u.line, .int .i64 u.col]
theorem nlen (u : Nk) : (nc u).length = 6 := rfl
def ins (l : List Int) : List Value := l.map (Value.int .i64)
theorem ins_length (l : List Int) : (ins l).length = l.length := by simp [ins]
theorem ins_get {l : List Int} {i : Nat} {k : Int} (h : l[i]? = some k) : (ins l)[i]? = some (.int .i64 k) := by simp [ins, h]
theorem ins_append (a b : List Int) : ins (a ++ b) = ins a ++ ins b := by simp [ins]
theorem SlAt.int {w : World} {B : Nat} {q : Option Addr} {l : List Int} (h : SlAt w B q (ins l)) {i : Nat} (hi : i < l.length) :
    ∃ a k, q = some a ∧ a.block < B ∧ l[i]? = some k ∧ w.cell? (a.add (i * 1)) = some (.int .i64 k) := by
  obtain ⟨a, rfl, hab, hc⟩ := h (by rw [ins_length]; omega)
  have hs : l[i]? = some l[i] := List.getElem?_eq_getElem hi
  exact ⟨a, l[i], rfl, hab, hs, by rw [Nat.mul_one]; exact hc i _ (ins_get hs)⟩
/-- the nodes t in a slice -/
structure NodesAt (w : World) (q : Option Addr) (t : List Nk) : Prop where
  at_ : SlAt w w.heap.size q (cat nc t)
  kid : ∀ u ∈ t, u.kids.length * 8 ≤ 140737488351232 ∧ SlAt w w.heap.size u.q (ins u.kids)
theorem NodesAt.ext {w w' : World} {q : Option Addr} {t : List Nk} (h : NodesAt w q t) (hx : Ext w w') : NodesAt w' q t :=
  ⟨h.at_.ext hx (Nat.le_refl _), fun u hu => ⟨(h.kid u hu).1, (h.kid u hu).2.ext hx (Nat.le_refl _)⟩⟩

/-! kinds of kids -/
def kd (t : List Nk) (k : Int) : Int := match t[k.toNat]? with | some u => u.kind | none => 0
theorem kd_get {t : List Nk} {k : Int} {u : Nk} (h : t[k.toNat]? = some u) : kd t k = u.kind := by unfold kd; rw [h]
def kk (t : List Nk) (u : Nk) : List Int := u.kids.map (kd t)
/-- the kind of a kid's first kid -/
def k0 (t : List Nk) (k : Int) : Int := match t[k.toNat]? with | some u => kd t (u.kids.getD 0 0) | none => 0
theorem k0_get {t : List Nk} {k : Int} {u : Nk} (h : t[k.toNat]? = some u) : k0 t k = kd t (u.kids.getD 0 0) := by unfold k0; rw [h]
def badKid (i : Nat) (k : Int) : Bool := decide (k < 0) || decide ((i : Int) ≤ k)
def fieldP (t : List Nk) (u : Nk) (k : Int) : Bool := decide (kd t k = 19) && (inL typeL (k0 t k) != decide (u.kind = 17))
def fieldR (t : List Nk) (u : Nk) (k : Int) : Bool := (decide (kd t k = 19) && decide (u.kind = 17) && !inL typeL (k0 t k)) || (decide (kd t k = 19) && decide (u.kind = 29) && !inL exprL (k0 t k))
def impE (u : Nk) : Bool := decide (u.kind = 1) && (decide (u.n < 0) || decide (1 < u.n) || decide (u.n = 0) && decide (0 < u.kids.length))
def rngE (u : Nk) : Bool := (decide (u.kind = 21) || decide (u.kind = 37)) && (decide (u.n < 0) || decide (1073741823 < u.n)) || decide (u.kind = 4) && (decide (u.n < 0) || decide (29 < u.n))
def kindE (t : List Nk) (i : Nat) (u : Nk) : Bool := decide (u.kind < 0) || decide (38 < u.kind) || (decide (u.kind = 0) != decide (i + 1 = t.length))
def formE (t : List Nk) (u : Nk) : Bool := !fitR u.kind (kk t u) || u.kids.any (fieldR t u) || impE u
def formE' (t : List Nk) (u : Nk) : Bool := !fitP u.kind (kk t u) || u.kids.any (fieldP t u) || impE u

/-! depths -/
def mx (D : List Int) (kids : List Int) (m : Int) : Int := kids.foldl (fun m k => max m (D.getD k.toNat 0)) m
def kidsAt (t : List Nk) (i : Nat) : List Int := match t[i]? with | some u => u.kids | none => []
def dps (t : List Nk) : Nat → List Int
  | 0 => []
  | i + 1 => dps t i ++ [mx (dps t i) (kidsAt t i) 0 + 1]
theorem dps_len (t : List Nk) : ∀ i, (dps t i).length = i
  | 0 => rfl
  | i + 1 => by rw [dps, List.length_append, dps_len t i]; rfl
theorem mx_bound {D : List Int} {B : Int} (hD : ∀ j, 0 ≤ D.getD j 0 ∧ D.getD j 0 ≤ B) : ∀ (kids : List Int) (m : Int), 0 ≤ m → m ≤ B → 0 ≤ mx D kids m ∧ mx D kids m ≤ B
  | [], m, h0, h1 => ⟨h0, h1⟩
  | k :: kids, m, h0, h1 => by
    have := hD k.toNat
    exact mx_bound hD kids (max m (D.getD k.toNat 0)) (by omega) (by omega)
theorem dps_bound (t : List Nk) : ∀ i j, 0 ≤ (dps t i).getD j 0 ∧ (dps t i).getD j 0 ≤ i
  | 0, j => by simp [dps]
  | i + 1, j => by
    rw [dps]
    rcases Nat.lt_trichotomy j i with h | h | h
    · have := dps_bound t i j
      rw [List.getD_eq_getElem?_getD, List.getElem?_append_left (by rw [dps_len]; exact h), ← List.getD_eq_getElem?_getD]
      omega
    · subst h
      rw [List.getD_eq_getElem?_getD, List.getElem?_append_right (by rw [dps_len]; exact Nat.le_refl _), dps_len, Nat.sub_self]
      have := mx_bound (dps_bound t j) (kidsAt t j) 0 (by omega) (by omega)
      simp only [List.getElem?_cons_zero, Option.getD_some]
      omega
    · rw [List.getD_eq_getElem?_getD, List.getElem?_append_right (by rw [dps_len]; omega), dps_len, List.getElem?_eq_none (by simp; omega)]
      simp only [Option.getD_none]
      omega
/-- the depth of a node -/
def dep (t : List Nk) (i : Nat) : Int := mx (dps t i) (kidsAt t i) 0 + 1
theorem dep_bound (t : List Nk) (i : Nat) : 1 ≤ dep t i ∧ dep t i ≤ i + 1 := by
  have := mx_bound (dps_bound t i) (kidsAt t i) 0 (by omega) (by omega)
  unfold dep; omega

/-! errors -/
def nodeE (t : List Nk) (i : Nat) (u : Nk) : Int :=
  if u.kids.any (badKid i) then 3 else if kindE t i u then 3 else if formE t u then 3 else if 400 < dep t i then 2 else if rngE u then 4 else 0
def errF (t : List Nk) : List Nk → Nat → Int
  | [], _ => 0
  | u :: l, i => if nodeE t i u = 0 then errF t l (i + 1) else nodeE t i u
theorem errF_get {t l : List Nk} {i k : Nat} {u : Nk} (h : l[i]? = some u) : errF t (l.drop i) k = if nodeE t k u = 0 then errF t (l.drop (i + 1)) (k + 1) else nodeE t k u := by
  have hi := (List.getElem?_eq_some_iff.1 h).1
  rw [List.drop_eq_getElem_cons hi, errF]
  rw [List.getElem?_eq_getElem hi] at h
  rw [Option.some.inj h]
theorem errF_end {t l : List Nk} {i k : Nat} (h : l.length ≤ i) : errF t (l.drop i) k = 0 := by
  rw [List.drop_eq_nil_of_le h]; rfl
def flat (l : List Nk) : List Int := l.flatMap Nk.kids
def lastK (t : List Nk) : Int := kd t ((t.length : Int) - 1)
def treeE (t : List Nk) : Int :=
  if t.length = 0 ∨ lastK t ≠ 0 then 3 else if errF t t 0 ≠ 0 then errF t t 0 else if ∀ i, i < t.length - 1 → (flat t).count (i : Int) = 1 then 0 else 3
/-- all nodes before i are right -/
def GoodN (t : List Nk) (i : Nat) : Prop := ∀ j u, j < i → t[j]? = some u → nodeE t j u = 0
theorem GoodN.zero (t : List Nk) : GoodN t 0 := fun j u h => by omega
theorem GoodN.step {t : List Nk} {i : Nat} {u : Nk} (h : GoodN t i) (hu : t[i]? = some u) (he : nodeE t i u = 0) : GoodN t (i + 1) := fun j v hj hv => by
  by_cases e : j = i
  · subst e; rw [hu] at hv; cases hv; exact he
  · exact h j v (by omega) hv

/-- what a right node gives -/
theorem node_ok {t : List Nk} {i : Nat} {u : Nk} (h : nodeE t i u = 0) : (∀ k ∈ u.kids, 0 ≤ k ∧ k < i) ∧ 0 ≤ u.kind ∧ u.kind ≤ 38 ∧ fitR u.kind (kk t u) = true := by
  unfold nodeE at h
  split at h
  · cases h
  rename_i h1
  split at h
  · cases h
  rename_i h2
  split at h
  · cases h
  rename_i h3
  refine ⟨fun k hk => ?_, ?_, ?_, ?_⟩
  · simp only [List.any_eq_true, not_exists, not_and] at h1
    have := h1 k hk
    unfold badKid at this
    simp at this
    exact this
  · unfold kindE at h2
    simp at h2
    exact h2.1.1
  · unfold kindE at h2
    simp at h2
    exact h2.1.2
  · unfold formE at h3
    simp at h3
    exact h3.1.1
theorem opsP_mem {l : List Int} (h : opsP l = true) : ∀ x ∈ l, x = 3 ∨ x ∈ exprL := by
  unfold opsP at h
  simp only [Bool.and_eq_true] at h
  have h2 := h.2
  clear h
  have go : ∀ (l : List Int) (i : Nat), allI opAt l i = true → ∀ x ∈ l, x = 3 ∨ x ∈ exprL := fun l => by
    induction l with
    | nil => intro i _ x hx; simp at hx
    | cons y l ih =>
      intro i hi x hx
      simp only [allI, Bool.and_eq_true] at hi
      rcases List.mem_cons.1 hx with rfl | hx
      · have := hi.1
        unfold opAt at this
        simp only [Bool.or_eq_true, Bool.and_eq_true, decide_eq_true_eq, inL_iff] at this
        rcases this with h | h
        · exact .inl h.2
        · exact .inr h.2
      · exact ih _ hi.2 x hx
  exact go l 0 h2
theorem mt_mem : ∀ (n : Nat) (r : Sh) (l : List Int), r.length + l.length ≤ n → mt r l = true → ∀ x ∈ l, ∃ p ∈ r, x ∈ clsOf p.1
  | n, r, [], _, _, x, hx => by simp at hx
  | n, [], y :: l, _, hm, x, hx => by simp [mt] at hm
  | 0, (c, m) :: r, y :: l, h, _, _, _ => by simp at h
  | n + 1, (c, .one) :: r, y :: l, h, hm, x, hx => by
    simp only [mt, Bool.and_eq_true, P1_iff] at hm
    simp only [List.length_cons] at h
    rcases List.mem_cons.1 hx with rfl | hx
    · exact ⟨_, .head _, hm.1⟩
    · obtain ⟨p, hp, hq⟩ := mt_mem n r l (by omega) hm.2 x hx
      exact ⟨p, .tail _ hp, hq⟩
  | n + 1, (c, .plus) :: r, y :: l, h, hm, x, hx => by
    simp only [mt, Bool.and_eq_true, P1_iff] at hm
    simp only [List.length_cons] at h
    rcases List.mem_cons.1 hx with rfl | hx
    · exact ⟨_, .head _, hm.1⟩
    · obtain ⟨p, hp, hq⟩ := mt_mem n ((c, .star) :: r) l (by simp only [List.length_cons]; omega) hm.2 x hx
      rcases List.mem_cons.1 hp with rfl | hp
      · exact ⟨_, .head _, hq⟩
      · exact ⟨p, .tail _ hp, hq⟩
  | n + 1, (c, .opt) :: r, y :: l, h, hm, x, hx => by
    simp only [mt, Bool.or_eq_true, Bool.and_eq_true, P1_iff] at hm
    simp only [List.length_cons] at h
    rcases hm with hm | hm
    · obtain ⟨p, hp, hq⟩ := mt_mem n r (y :: l) (by simp only [List.length_cons]; omega) hm x hx
      exact ⟨p, .tail _ hp, hq⟩
    · rcases List.mem_cons.1 hx with rfl | hx
      · exact ⟨_, .head _, hm.1⟩
      · obtain ⟨p, hp, hq⟩ := mt_mem n r l (by omega) hm.2 x hx
        exact ⟨p, .tail _ hp, hq⟩
  | n + 1, (c, .star) :: r, y :: l, h, hm, x, hx => by
    simp only [mt, Bool.or_eq_true, Bool.and_eq_true, P1_iff] at hm
    simp only [List.length_cons] at h
    rcases hm with hm | hm
    · obtain ⟨p, hp, hq⟩ := mt_mem n r (y :: l) (by simp only [List.length_cons]; omega) hm x hx
      exact ⟨p, .tail _ hp, hq⟩
    · rcases List.mem_cons.1 hx with rfl | hx
      · exact ⟨_, .head _, hm.1⟩
      · obtain ⟨p, hp, hq⟩ := mt_mem n ((c, .star) :: r) l (by simp only [List.length_cons]; omega) hm.2 x hx
        rcases List.mem_cons.1 hp with rfl | hp
        · exact ⟨_, .head _, hq⟩
        · exact ⟨p, .tail _ hp, hq⟩
/-- a field stands in a record alone -/
theorem field_in {k : Int} {l : List Int} (h0 : 0 ≤ k) (h1 : k ≤ 38) (h : fitR k l = true) (hm : (19 : Int) ∈ l) : k = 17 ∨ k = 29 := by
  unfold fitR at h
  split at h
  · have := opsP_mem h 19 hm
    simp [exprL] at this
  · obtain ⟨p, hp, hq⟩ := mt_mem _ _ l (Nat.le_refl _) h 19 hm
    have hc : ((shapeR k).any fun p => (clsOf p.1).contains 19) = true := List.any_eq_true.2 ⟨p, hp, by simpa using hq⟩
    have h : k = 0 ∨ k = 1 ∨ k = 2 ∨ k = 3 ∨ k = 4 ∨ k = 5 ∨ k = 6 ∨ k = 7 ∨ k = 8 ∨ k = 9 ∨ k = 10 ∨ k = 11 ∨ k = 12 ∨ k = 13 ∨ k = 14 ∨ k = 15 ∨ k = 16 ∨ k = 17 ∨ k = 18 ∨ k = 19 ∨ k = 20 ∨ k = 21 ∨ k = 22 ∨ k = 23 ∨ k = 24 ∨ k = 25 ∨ k = 26 ∨ k = 27 ∨ k = 28 ∨ k = 29 ∨ k = 30 ∨ k = 31 ∨ k = 32 ∨ k = 33 ∨ k = 34 ∨ k = 35 ∨ k = 36 ∨ k = 37 ∨ k = 38 := by omega
    rcases h with rfl | rfl | rfl | rfl | rfl | rfl | rfl | rfl | rfl | rfl | rfl | rfl | rfl | rfl | rfl | rfl | rfl | rfl | rfl | rfl | rfl | rfl | rfl | rfl | rfl | rfl | rfl | rfl | rfl | rfl | rfl | rfl | rfl | rfl | rfl | rfl | rfl | rfl | rfl <;> first | (exfalso; revert hc; decide) | decide
/-- a right field has one kid, a type or an expression -/
theorem field_kid {t : List Nk} {j : Nat} {u : Nk} (h : nodeE t j u = 0) (hk : u.kind = 19) : ∃ k, u.kids = [k] ∧ 0 ≤ k ∧ k < j ∧ (kd t k ∈ typeL ∨ kd t k ∈ exprL) := by
  obtain ⟨h1, _, _, h4⟩ := node_ok h
  rw [hk] at h4
  have e : fitR 19 (kk t u) = zipA [typeL ++ exprL] (kk t u) := mt_ones [88] _
  rw [e] at h4
  have hl := zipA_len h4
  unfold kk at hl h4
  cases hu : u.kids with
  | nil => rw [hu] at hl; simp at hl
  | cons k r =>
    rw [hu] at hl h4
    simp only [List.length_map, List.length_cons, List.length_nil] at hl
    obtain rfl : r = [] := List.eq_nil_of_length_eq_zero (by omega)
    have hb := h1 k (by rw [hu]; exact .head _)
    refine ⟨k, rfl, hb.1, hb.2, ?_⟩
    simp only [List.map_cons, List.map_nil, zipA, Bool.and_true, inL_iff, List.mem_append] at h4
    exact h4
theorem type_expr {k : Int} (h : k ∈ typeL ∨ k ∈ exprL) : inL exprL k = !inL typeL k := by
  rw [Bool.eq_iff_iff, inL_iff, Bool.not_eq_true', Bool.eq_false_iff, Ne, inL_iff]
  simp only [typeL, exprL, List.mem_cons, List.not_mem_nil, or_false] at h ⊢
  omega
/-- the two ways to look at a node's form agree -/
theorem form_eq {t : List Nk} {i : Nat} {u : Nk} (hg : GoodN t i) (hi : i ≤ t.length) (hk : ∀ k ∈ u.kids, 0 ≤ k ∧ k < i) (h0 : 0 ≤ u.kind) (h1 : u.kind ≤ 38) : formE' t u = formE t u := by
  unfold formE' formE
  rw [fit_eq _ h0 h1]
  cases hf : fitR u.kind (kk t u) with
  | false => simp
  | true =>
    have : ∀ k ∈ u.kids, fieldP t u k = fieldR t u k := fun k hk' => by
      unfold fieldP fieldR
      by_cases h19 : kd t k = 19
      · have hin := field_in h0 h1 hf (List.mem_map.2 ⟨k, hk', h19⟩)
        have hb := hk k hk'
        obtain ⟨v, hv⟩ : ∃ v, t[k.toNat]? = some v := ⟨_, List.getElem?_eq_getElem (by omega)⟩
        obtain ⟨k2, e2, _, _, h3⟩ := field_kid (hg k.toNat v (by omega) hv) (by rw [← kd_get hv]; exact h19)
        have e0 : k0 t k = kd t k2 := by rw [k0_get hv, e2]; rfl
        rw [e0, type_expr h3]
        rcases hin with e | e <;> simp [e, h19]
      · simp [h19]
    rw [show u.kids.any (fieldP t u) = u.kids.any (fieldR t u) from by
      rw [Bool.eq_iff_iff, List.any_eq_true, List.any_eq_true]
      exact ⟨fun ⟨k, h, e⟩ => ⟨k, h, by rw [← this k h]; exact e⟩, fun ⟨k, h, e⟩ => ⟨k, h, by rw [this k h]; exact e⟩⟩]
end Go.Pk
