/- Texts of the proof of UsageSays, part 2: rules of a calculus for walking, plain laws, and walks of the functions that the law reaches. No condition. -/
import Derived.Test.YtlboppiogeaicaaDoorProg
import Derived.MapKept
import Derived.LaidEqlPtr
import Derived.Lib.Builder
import Derived.Laws.Pointers
import Derived.Maps.RangeRun
import Derived.Test.YtlboppiogeaicaaDoorUsageSays1
/- Plain: the arrays of the check of trees. No program in sight. No condition. -/
namespace Go.Co
open Go.Eng Go.RowKit
set_option linter.unusedVariables false
set_option linter.unusedSimpArgs false
theorem highs_append : ∀ (a b : List Tr), highs (a ++ b) = max (highs a) (highs b)
  | [], b => by simp [highs]
  | t :: r, b => by rw [List.cons_append, highs, highs, highs_append r b, Nat.max_assoc]
/-- the greatest height of the first kids -/
def mx (e : List Ex) (x : Ex) (j : Nat) : Nat := highs ((x.kids.take j).map fun k => grow e k.toNat)
theorem mx_zero (e : List Ex) (x : Ex) : mx e x 0 = 0 := by simp [mx, highs]
theorem mx_succ {e : List Ex} {x : Ex} {j : Nat} {k : Int} (h : x.kids[j]? = some k) : mx e x (j + 1) = max (mx e x j) (high (grow e k.toNat)) := by
  unfold mx
  rw [List.take_add_one, h]
  simp [highs_append, highs]
theorem grow_eqU {e : List Ex} {i : Nat} {x : Ex} (hx : e[i]? = some x) (h : ∀ k ∈ x.kids, 0 ≤ k ∧ k < (i : Int)) : grow e i = .mk x.op x.n x.binds (x.kids.map fun k => grow e k.toNat) x.alts := by
  rw [grow, hx]
  simp only [Tr.mk.injEq, true_and, and_true]
  refine List.map_congr_left fun k hk => ?_
  have := h k hk
  rw [dif_pos (by omega)]
theorem high_eq {e : List Ex} {i : Nat} {x : Ex} (hx : e[i]? = some x) (h : ∀ k ∈ x.kids, 0 ≤ k ∧ k < (i : Int)) : high (grow e i) = mx e x x.kids.length + 1 := by
  rw [grow_eqU hx h, high, mx, List.take_length]
theorem highs_le {B : Nat} : ∀ {l : List Tr}, (∀ t ∈ l, high t ≤ B) → highs l ≤ B
  | [], _ => by simp [highs]
  | t :: r, h => by
    rw [highs]
    exact Nat.max_le.2 ⟨h t (.head _), highs_le fun u hu => h u (.tail _ hu)⟩
theorem mx_le {e : List Ex} {x : Ex} {i j : Nat} (hk : ∀ k ∈ x.kids.take j, 0 ≤ k ∧ k < (i : Int)) (h : ∀ k, k < i → high (grow e k) ≤ k + 1) : mx e x j ≤ i := by
  refine highs_le fun t ht => ?_
  obtain ⟨k, hk2, rfl⟩ := List.mem_map.1 ht
  have h1 := hk k hk2
  have h2 := h k.toNat (by omega)
  omega
theorem high_le {e : List Ex} {n : Nat} (h : ∀ (j : Nat) (x : Ex), j < n → e[j]? = some x → ∀ k ∈ x.kids, 0 ≤ k ∧ k < (j : Int)) : ∀ k, k < n → k < e.length → high (grow e k) ≤ k + 1 := by
  intro k
  induction k using Nat.strongRecOn with
  | _ k ih =>
    intro hk hl
    have hx : e[k]? = some e[k] := List.getElem?_eq_getElem hl
    have hks := h k _ hk hx
    rw [high_eq hx hks]
    have := mx_le (e := e) (x := e[k]) (i := k) (j := e[k].kids.length) (fun c hc => hks c (List.mem_of_mem_take hc)) (fun c hc => ih c hc (by omega) (by omega))
    omega
theorem maxIf (a b : Nat) : (if (a : Int) < (b : Int) then (b : Int) else (a : Int)) = ((max a b : Nat) : Int) := by rw [Nat.max_def]; split <;> split <;> omega
def dl (e : List Ex) (i m : Nat) : List Int := (List.range e.length).map fun k => if k < i then (high (grow e k) : Int) else if k = i then (m : Int) else 0
def pl (e : List Ex) (l : List Int) : List Int := (List.range e.length).map fun (k : Nat) => (l.count (k : Int) : Int)
theorem dl_length (e : List Ex) (i m : Nat) : (dl e i m).length = e.length := by simp [dl]
theorem pl_length (e : List Ex) (l : List Int) : (pl e l).length = e.length := by simp [pl]
theorem ints_set (l : List Int) (o : Nat) (v : Int) : (ints l).set o (.int .i64 v) = ints (l.set o v) := by simp [ints, List.map_set]
theorem dl_zero (e : List Ex) : List.replicate e.length (Value.int .i64 0) = ints (dl e 0 0) := by
  refine List.ext_getElem? fun k => ?_
  by_cases h : k < e.length
  · simp [ints, dl, List.getElem?_replicate, h]
  · simp [ints, dl, List.getElem?_replicate, h]
theorem pl_zero (e : List Ex) : List.replicate e.length (Value.int .i64 0) = ints (pl e []) := by
  refine List.ext_getElem? fun k => ?_
  by_cases h : k < e.length
  · simp [ints, pl, List.getElem?_replicate, h]
  · simp [ints, pl, List.getElem?_replicate, h]
theorem dl_low {e : List Ex} {i m k : Nat} (hk : k < i) (hi : k < e.length) : (dl e i m)[k]? = some (high (grow e k) : Int) := by
  simp [dl, hi, hk]
theorem dl_at {e : List Ex} {i m : Nat} (hi : i < e.length) : (dl e i m)[i]? = some (m : Int) := by simp [dl, hi]
theorem dl_set {e : List Ex} {i m m' : Nat} (hi : i < e.length) : (dl e i m).set i (m' : Int) = dl e i m' := by
  refine List.ext_getElem? fun k => ?_
  rw [List.getElem?_set]
  by_cases h : i = k
  · subst h
    rw [if_pos rfl, dl_length, if_pos hi, dl_at hi]
  · rw [if_neg h]
    have h2 : ¬ k = i := fun e => h e.symm
    by_cases hk : k < e.length
    · simp [dl, hk, h2]
    · rw [List.getElem?_eq_none (by rw [dl_length]; omega), List.getElem?_eq_none (by rw [dl_length]; omega)]
theorem dl_next {e : List Ex} {i m : Nat} (hi : i < e.length) (h : high (grow e i) = m) : dl e i m = dl e (i + 1) 0 := by
  unfold dl
  refine List.map_congr_left fun k hk => ?_
  by_cases h1 : k < i
  · rw [if_pos h1, if_pos (by omega)]
  · rw [if_neg h1]
    by_cases h2 : k = i
    · subst h2
      rw [if_pos rfl, if_pos (by omega), h]
    · rw [if_neg h2, if_neg (by omega)]
      split <;> rfl
theorem pl_at {e : List Ex} {l : List Int} {k : Nat} (hk : k < e.length) : (pl e l)[k]? = some (l.count (k : Int) : Int) := by simp [pl, hk]
theorem pl_set {e : List Ex} {l : List Int} {k : Nat} (hk : k < e.length) : (pl e l).set k ((l.count (k : Int) : Int) + 1) = pl e (l ++ [(k : Int)]) := by
  refine List.ext_getElem? fun m => ?_
  rw [List.getElem?_set]
  by_cases h : k = m
  · subst h
    rw [if_pos rfl, pl_length, if_pos hk, pl_at hk, List.count_append]
    simp
  · rw [if_neg h]
    by_cases hm : m < e.length
    · rw [pl_at hm, pl_at hm, List.count_append]
      have : ¬ (k : Int) = (m : Int) := by omega
      simp [List.count_singleton, this]
    · rw [List.getElem?_eq_none (by rw [pl_length]; omega), List.getElem?_eq_none (by rw [pl_length]; omega)]
theorem treeE_big {e : List Ex} (h : 4096 < e.length) : treeE e = 2 := by unfold treeE; rw [if_pos h]
theorem treeE_bad {e : List Ex} (h : e.length ≤ 4096) (hb : ¬ (0 < e.length ∧ Down e ∧ ∀ i : Nat, i + 1 < e.length → (kidsAll e).count (i : Int) = 1)) : treeE e = 3 := by
  unfold treeE
  rw [if_neg (by omega), if_neg hb]
theorem treeE_ok {e : List Ex} (h : e.length ≤ 4096) (h0 : 0 < e.length) (hd : Down e) (h1 : ∀ i : Nat, i + 1 < e.length → (kidsAll e).count (i : Int) = 1) : treeE e = if 400 < high (grow e (e.length - 1)) then 2 else 0 := by
  unfold treeE
  rw [if_neg (by omega), if_pos ⟨h0, hd, h1⟩]
theorem treeE_zero {e : List Ex} (h : treeE e = 0) : e.length ≤ 4096 ∧ 0 < e.length ∧ IsTree e ∧ high (grow e (e.length - 1)) ≤ 400 := by
  unfold treeE at h
  split at h
  · cases h
  rename_i h1
  split at h
  · rename_i h2
    split at h
    · cases h
    · exact ⟨by omega, h2.1, isTree_of h2.2.1 h2.2.2, by omega⟩
  · cases h
theorem kidsAll_length {B : Nat} : ∀ {l : List Ex}, (∀ x ∈ l, x.kids.length ≤ B) → (kidsAll l).length ≤ l.length * B
  | [], _ => by simp [kidsAll]
  | x :: r, h => by
    have h1 := h x (.head _)
    have h2 := kidsAll_length (l := r) fun y hy => h y (.tail _ hy)
    have e1 : kidsAll (x :: r) = x.kids ++ kidsAll r := by simp [kidsAll]
    rw [e1, List.length_append, List.length_cons, Nat.succ_mul]
    omega
theorem kidsTo_length {B : Nat} {e : List Ex} {i j : Nat} (h : ∀ x ∈ e, x.kids.length ≤ B) (hi : i < e.length) : (kidsTo e i j).length ≤ (i + 1) * B := by
  have h1 := kidsAll_length (B := B) (l := e.take i) fun x hx => h x (List.mem_of_mem_take hx)
  have h2 := h _ (List.getElem_mem hi)
  have hx : e[i]? = some e[i] := List.getElem?_eq_getElem hi
  have h3 : (((e[i]?.map Ex.kids).getD []).take j).length ≤ B := by
    rw [hx]
    simp only [Option.map_some, Option.getD_some, List.length_take]
    omega
  have h4 : (e.take i).length ≤ i := by simp; omega
  have h5 : (e.take i).length * B ≤ i * B := Nat.mul_le_mul_right _ h4
  rw [kidsTo, List.length_append, Nat.succ_mul]
  omega
theorem count_le_length (l : List Int) (k : Int) : l.count k ≤ l.length := List.count_le_length
end Go.Co

/- Plain: parents, depths and binders as the reference finds them. No program in sight. No condition. -/
namespace Go.Co
set_option linter.unusedVariables false
set_option linter.unusedSimpArgs false
/-- a tree, as both checks ask it -/
def TreeP (e : List Ex) : Prop := 0 < e.length ∧ Down e ∧ ∀ i : Nat, i + 1 < e.length → (kidsAll e).count (i : Int) = 1
theorem TreeP.tree {e : List Ex} (h : TreeP e) : IsTree e := isTree_of h.2.1 h.2.2
theorem kidsTo_all {e : List Ex} {i j : Nat} {x : Ex} (hx : e[i]? = some x) : ∃ r, kidsAll e = kidsTo e i j ++ r := by
  have hl := (List.getElem?_eq_some_iff.1 hx)
  obtain ⟨hl, rfl⟩ := hl
  refine ⟨(e[i].kids).drop j ++ kidsAll (e.drop (i + 1)), ?_⟩
  have h2 : kidsAll e = kidsAll (e.take i ++ e[i] :: e.drop (i + 1)) := by rw [← List.drop_eq_getElem_cons hl, List.take_append_drop]
  rw [h2]
  simp only [kidsTo, kidsAll, hx, Option.map_some, Option.getD_some, List.flatMap_append, List.flatMap_cons]
  rw [List.append_assoc, ← List.append_assoc (List.take j _), List.take_append_drop]
/-- the parents found so far -/
structure PI (e : List Ex) (P : List Int) (i j : Nat) : Prop where
  len : P.length = e.length
  nd : (kidsTo e i j).Nodup
  val : ∀ (k : Nat) (v : Int), P[k]? = some v → (v = -1 ∧ ¬ (k : Int) ∈ kidsTo e i j) ∨ (0 ≤ v ∧ (k : Int) ∈ kidsTo e i j ∧ ∃ m, Par e k v.toNat m)
  dn : ∀ (a : Nat) (x : Ex), a < i → e[a]? = some x → ∀ k ∈ x.kids, 0 ≤ k ∧ k < (a : Int)
theorem PI.start (e : List Ex) : PI e (List.replicate e.length (-1)) 0 0 where
  len := by simp
  nd := by rw [kidsTo_zero]; simp
  val := fun k v h => by
    rw [List.getElem?_replicate] at h
    split at h
    · exact .inl ⟨(Option.some.inj h).symm, by rw [kidsTo_zero]; simp⟩
    · cases h
  dn := fun a x h => by omega
theorem PI.step {e : List Ex} {P : List Int} {i j : Nat} {x : Ex} {k : Int} (h : PI e P i j) (hx : e[i]? = some x) (hk : x.kids[j]? = some k) (h0 : 0 ≤ k) (hi : k < (i : Int)) {v : Int} (hv : P[k.toNat]? = some v) (hv0 : v < 0) : PI e (P.set k.toNat (i : Int)) i (j + 1) := by
  have hkk : ((k.toNat : Nat) : Int) = k := by omega
  have hnot : ¬ k ∈ kidsTo e i j := by
    rcases h.val _ _ hv with ⟨_, h1⟩ | ⟨h1, _⟩
    · rwa [hkk] at h1
    · omega
  have hst := kidsTo_step hx hk
  refine ⟨by rw [List.length_set, h.len], ?_, fun m u hm => ?_, h.dn⟩
  · rw [hst]
    refine List.nodup_append.2 ⟨h.nd, by simp, fun a ha b hb => ?_⟩
    obtain rfl := List.mem_singleton.1 hb
    exact fun e => hnot (e ▸ ha)
  · rw [List.getElem?_set] at hm
    rw [hst]
    by_cases e1 : k.toNat = m
    · rw [if_pos e1] at hm
      split at hm
      · obtain rfl := Option.some.inj hm
        refine .inr ⟨by omega, by rw [← e1, hkk]; simp, ?_⟩
        refine ⟨j, x, by simpa using hx, by rw [← e1, hkk]; exact hk⟩
      · cases hm
    · rw [if_neg e1] at hm
      rcases h.val m u hm with ⟨h1, h2⟩ | ⟨h1, h2, h3⟩
      · refine .inl ⟨h1, fun h4 => ?_⟩
        rcases List.mem_append.1 h4 with h4 | h4
        · exact h2 h4
        · have := List.mem_singleton.1 h4
          omega
      · exact .inr ⟨h1, List.mem_append.2 (.inl h2), h3⟩
theorem PI.next {e : List Ex} {P : List Int} {i : Nat} {x : Ex} (h : PI e P i x.kids.length) (hx : e[i]? = some x) (hd : ∀ k ∈ x.kids, 0 ≤ k ∧ k < (i : Int)) : PI e P (i + 1) 0 where
  len := h.len
  nd := by rw [kidsTo_next hx]; exact h.nd
  val := by rw [kidsTo_next hx]; exact h.val
  dn := fun a y ha hy => by
    by_cases e1 : a = i
    · subst e1
      rw [hx] at hy
      obtain rfl := Option.some.inj hy
      exact hd
    · exact h.dn a y (by omega) hy
/-- a kid that already has a parent: no tree -/
theorem PI.twice {e : List Ex} {P : List Int} {i j : Nat} {x : Ex} {k : Int} (h : PI e P i j) (hx : e[i]? = some x) (hk : x.kids[j]? = some k) (h0 : 0 ≤ k) (hi : k < (i : Int)) {v : Int} (hv : P[k.toNat]? = some v) (hv0 : 0 ≤ v) : ¬ TreeP e := fun hg => by
  have hkk : ((k.toNat : Nat) : Int) = k := by omega
  have hin : k ∈ kidsTo e i j := by
    rcases h.val _ _ hv with ⟨h1, _⟩ | ⟨_, h1, _⟩
    · omega
    · rwa [hkk] at h1
  have hil := (List.getElem?_eq_some_iff.1 hx).1
  have h1 := hg.2.2 k.toNat (by omega)
  rw [hkk] at h1
  obtain ⟨r, hr⟩ := kidsTo_all (j := j + 1) hx
  rw [hr, kidsTo_step hx hk, List.count_append, List.count_append] at h1
  have := List.count_pos_iff.2 hin
  simp at h1
  omega
theorem PI.all {e : List Ex} {P : List Int} (h : PI e P e.length 0) : Down e := fun i x hx => h.dn i x (List.getElem?_eq_some_iff.1 hx).1 hx
theorem PI.good {e : List Ex} {P : List Int} (h : PI e P e.length 0) (h0 : 0 < e.length) (hp : ∀ (k : Nat) (v : Int), k + 1 < e.length → P[k]? = some v → 0 ≤ v) : TreeP e := by
  refine ⟨h0, h.all, fun i hi => ?_⟩
  obtain ⟨v, hv⟩ : ∃ v, P[i]? = some v := ⟨_, List.getElem?_eq_getElem (by rw [h.len]; omega)⟩
  have h1 := hp i v hi hv
  have hnd := h.nd
  rcases h.val i v hv with ⟨h2, _⟩ | ⟨_, h2, _⟩
  · omega
  · rw [kidsTo_end] at h2 hnd
    have h3 := List.count_pos_iff.2 h2
    have h4 := (List.nodup_iff_count.1 hnd) (i : Int)
    omega
theorem PI.bad {e : List Ex} {P : List Int} (h : PI e P e.length 0) {k : Nat} {v : Int} (hk : k + 1 < e.length) (hv : P[k]? = some v) (h0 : v < 0) : ¬ TreeP e := fun hg => by
  rcases h.val k v hv with ⟨_, h2⟩ | ⟨h2, _⟩
  · rw [kidsTo_end] at h2
    have h3 := hg.2.2 k hk
    have := List.count_eq_zero.2 h2
    omega
  · omega
/-- the list of the parents -/
structure Parents (e : List Ex) (P : List Int) : Prop where
  len : P.length = e.length
  par : ∀ k p m, Par e k p m → P[k]? = some (p : Int)
  root : P[e.length - 1]? = some (-1)
theorem PI.parents {e : List Ex} {P : List Int} (h : PI e P e.length 0) (hg : TreeP e) : Parents e P where
  len := h.len
  par := fun k p m hp => by
    have hl := hp.lt hg.2.1
    obtain ⟨v, hv⟩ : ∃ v, P[k]? = some v := ⟨_, List.getElem?_eq_getElem (by rw [h.len]; omega)⟩
    obtain ⟨x, hx, hk⟩ := hp
    rcases h.val k v hv with ⟨_, h2⟩ | ⟨h1, _, m', hp'⟩
    · rw [kidsTo_end] at h2
      exact absurd (mem_kidsAll.2 ⟨p, x, hx, List.mem_of_getElem? hk⟩) h2
    · obtain ⟨e1, e2⟩ := hg.tree.uniq k p m v.toNat m' ⟨x, hx, hk⟩ hp'
      rw [hv]
      congr 1
      omega
  root := by
    have h0 := hg.1
    obtain ⟨v, hv⟩ : ∃ v, P[e.length - 1]? = some v := ⟨_, List.getElem?_eq_getElem (by rw [h.len]; omega)⟩
    rcases h.val _ v hv with ⟨h1, _⟩ | ⟨_, _, m, hp⟩
    · rw [hv, h1]
    · have := hp.lt hg.2.1
      omega

/-! ### depths -/
inductive UnderN (e : List Ex) : Nat → Nat → Nat → Prop where
  | here {i : Nat} : UnderN e i i 0
  | up {i p m j d : Nat} (hp : Par e i p m) (h : UnderN e p j d) : UnderN e i j (d + 1)
theorem UnderN.le {e : List Ex} (hd : Down e) {i j d : Nat} (h : UnderN e i j d) : i + d ≤ j := by
  induction h with
  | here => omega
  | up hp _ ih => have := hp.lt hd; omega
theorem UnderN.down {e : List Ex} {i k j m d : Nat} (h : UnderN e i k d) (hp : Par e k j m) : UnderN e i j (d + 1) := by
  induction h with
  | here => exact .up hp .here
  | up hp' _ ih => exact .up hp' (ih hp)
theorem UnderN.uniq {e : List Ex} (ht : IsTree e) {i j d d' : Nat} (h : UnderN e i j d) (h' : UnderN e i j d') : d = d' := by
  induction h generalizing d' with
  | here =>
    cases h' with
    | here => rfl
    | up hp h2 => have := h2.le ht.down; have := (hp.lt ht.down).1; omega
  | up hp h ih =>
    cases h' with
    | here => have := h.le ht.down; have := (hp.lt ht.down).1; omega
    | up hp2 h2 =>
      obtain ⟨rfl, rfl⟩ := ht.uniq _ _ _ _ _ hp hp2
      rw [ih h2]
theorem high_kid {e : List Ex} (hd : Down e) {i p m : Nat} (hp : Par e i p m) : high (grow e i) + 1 ≤ high (grow e p) := by
  obtain ⟨x, hx, hk⟩ := hp
  rw [high_eq hx (hd p x hx)]
  have h1 : mx e x (m + 1) ≤ mx e x x.kids.length := by
    unfold mx
    have : (x.kids.take x.kids.length).map (fun k => grow e k.toNat) = (x.kids.take (m + 1)).map (fun k => grow e k.toNat) ++ ((x.kids.take x.kids.length).drop (m + 1)).map fun k => grow e k.toNat := by
      rw [← List.map_append]
      congr 1
      rw [List.take_length, List.take_append_drop]
    rw [this, highs_append]
    omega
  rw [mx_succ hk] at h1
  simp at h1
  omega
theorem high_ge {e : List Ex} (hd : Down e) {i j d : Nat} (h : UnderN e i j d) : high (grow e i) + d ≤ high (grow e j) := by
  induction h with
  | here => omega
  | up hp _ ih => have := high_kid hd hp; omega
theorem highs_ex : ∀ {l : List Tr}, highs l = 0 ∨ ∃ (m : Nat) (t : Tr), l[m]? = some t ∧ high t = highs l
  | [] => .inl rfl
  | t :: r => by
    rw [highs]
    rcases highs_ex (l := r) with h | ⟨m, u, h1, h2⟩
    · right
      exact ⟨0, t, rfl, by omega⟩
    · by_cases hc : highs r ≤ high t
      · exact .inr ⟨0, t, rfl, by omega⟩
      · exact .inr ⟨m + 1, u, by simpa using h1, by omega⟩
theorem high_ex {e : List Ex} (hd : Down e) : ∀ (i : Nat), i < e.length → ∃ j d, j < e.length ∧ UnderN e j i d ∧ d + 1 = high (grow e i) := by
  intro i
  induction i using Nat.strongRecOn with
  | _ i ih =>
    intro hi
    have hx : e[i]? = some e[i] := List.getElem?_eq_getElem hi
    have hks := hd i _ hx
    rw [high_eq hx hks]
    unfold mx
    rw [List.take_length]
    rcases highs_ex (l := e[i].kids.map fun k => grow e k.toNat) with h | ⟨m, t, h1, h2⟩
    · exact ⟨i, 0, hi, .here, by omega⟩
    · rw [List.getElem?_map] at h1
      cases hk : (e[i].kids)[m]? with
      | none => simp [hk] at h1
      | some k =>
        simp only [hk, Option.map_some, Option.some.injEq] at h1
        subst h1
        have hlt := hks k (List.mem_of_getElem? hk)
        have hkn : ((k.toNat : Nat) : Int) = k := by omega
        obtain ⟨j, d, hj, hu, hh⟩ := ih k.toNat (by omega) (by omega)
        exact ⟨j, d + 1, hj, hu.down ⟨_, hx, by rw [hkn]; exact hk⟩, by omega⟩
/-- the length of the way up -/
def dep (e : List Ex) (P : List Int) (i : Nat) : Nat :=
  match P[i]? with
  | some p => if h : 0 ≤ p ∧ i < p.toNat ∧ p.toNat < e.length then dep e P p.toNat + 1 else 1
  | none => 1
termination_by e.length - i
theorem dep_root {e : List Ex} {P : List Int} {i : Nat} (h : P[i]? = some (-1)) : dep e P i = 1 := by
  rw [dep, h]
  simp
theorem dep_up {e : List Ex} {P : List Int} {i : Nat} {p : Int} (h : P[i]? = some p) (h0 : 0 ≤ p ∧ i < p.toNat ∧ p.toNat < e.length) : dep e P i = dep e P p.toNat + 1 := by
  rw [dep, h]
  simp only [h0, and_self, dif_pos]
def depths (e : List Ex) (P : List Int) (n : Nat) : Nat := (List.range n).foldl (fun m i => max m (dep e P i)) 0
theorem depths_succ (e : List Ex) (P : List Int) (n : Nat) : depths e P (n + 1) = max (depths e P n) (dep e P n) := by
  unfold depths
  rw [List.range_succ, List.foldl_append]
  rfl
theorem dep_under {e : List Ex} {P : List Int} (ht : IsTree e) (hP : Parents e P) : ∀ {i : Nat}, i < e.length → ∃ d, UnderN e i (e.length - 1) d ∧ dep e P i = d + 1 := by
  intro i hi
  induction hm : e.length - i using Nat.strongRecOn generalizing i with
  | _ m ih =>
    by_cases hl : i + 1 < e.length
    · obtain ⟨p, q, hp⟩ := ht.one i hl
      have hlt := hp.lt ht.down
      obtain ⟨d, hu, hd⟩ := ih (e.length - p) (by omega) hlt.2 rfl
      refine ⟨d + 1, .up hp hu, ?_⟩
      rw [dep_up (hP.par i p q hp) (by omega)]
      simp only [Int.toNat_natCast]
      rw [hd]
    · have hi1 : i = e.length - 1 := by omega
      rw [hi1]
      exact ⟨0, .here, dep_root hP.root⟩
theorem depths_le {e : List Ex} {P : List Int} (ht : IsTree e) (hP : Parents e P) (h0 : 0 < e.length) : ∀ {n : Nat}, n ≤ e.length → depths e P n ≤ high (grow e (e.length - 1))
  | 0, _ => Nat.zero_le _
  | n + 1, h => by
    rw [depths_succ]
    have h1 := depths_le ht hP h0 (n := n) (by omega)
    obtain ⟨d, hu, hd⟩ := dep_under ht hP (i := n) (by omega)
    have h2 := high_ge ht.down hu
    have h3 : 0 < high (grow e n) := by
      have hx : e[n]? = some e[n] := List.getElem?_eq_getElem (by omega)
      rw [high_eq hx (ht.down n _ hx)]
      omega
    omega
theorem depths_ge {e : List Ex} {P : List Int} : ∀ {n i : Nat}, i < n → dep e P i ≤ depths e P n
  | n + 1, i, h => by
    rw [depths_succ]
    by_cases e1 : i = n
    · subst e1
      omega
    · have := depths_ge (e := e) (P := P) (n := n) (i := i) (by omega)
      omega
theorem depths_high {e : List Ex} {P : List Int} (ht : IsTree e) (hP : Parents e P) (h0 : 0 < e.length) : depths e P e.length = high (grow e (e.length - 1)) := by
  have h1 := depths_le ht hP h0 (Nat.le_refl _)
  obtain ⟨j, d, hj, hu, hh⟩ := high_ex ht.down (e.length - 1) (by omega)
  obtain ⟨d', hu', hd'⟩ := dep_under ht hP hj
  have := UnderN.uniq ht hu hu'
  have := depths_ge (e := e) (P := P) hj
  omega

/-! ### binders -/
def hitK (x : Ex) (i : Nat) (n : Int) (m : Nat) : Bool := decide (x.kids[m]? = some (i : Int)) && decide (n ∈ scopeX x m)
def hit (x : Ex) (i : Nat) (n : Int) : Bool := (List.range x.kids.length).any (hitK x i n)
def bnd (e : List Ex) (P : List Int) (n : Int) (i : Nat) : Int :=
  match P[i]? with
  | some p => if h : 0 ≤ p ∧ i < p.toNat ∧ p.toNat < e.length then (if hit (e.getD p.toNat ⟨0, 0, [], [], []⟩) i n then p else bnd e P n p.toNat) else -1
  | none => -1
termination_by e.length - i
theorem bnd_root {e : List Ex} {P : List Int} {n : Int} {i : Nat} (h : P[i]? = some (-1)) : bnd e P n i = -1 := by
  rw [bnd, h]
  simp
theorem bnd_up {e : List Ex} {P : List Int} {n : Int} {i p : Nat} {x : Ex} (h : P[i]? = some (p : Int)) (h0 : i < p) (hx : e[p]? = some x) : bnd e P n i = if hit x i n then (p : Int) else bnd e P n p := by
  have hl := (List.getElem?_eq_some_iff.1 hx).1
  rw [bnd, h]
  simp only [Int.toNat_natCast]
  rw [dif_pos ⟨by omega, h0, hl⟩]
  simp only [List.getD, hx, Option.getD_some]
theorem hit_par {e : List Ex} (ht : IsTree e) {i p m : Nat} {x : Ex} (hp : Par e i p m) (hx : e[p]? = some x) (n : Int) : hit x i n = true ↔ n ∈ scopeX x m := by
  obtain ⟨x', hx', hk⟩ := hp
  rw [hx] at hx'
  obtain rfl := Option.some.inj hx'
  unfold hit
  rw [List.any_eq_true]
  constructor
  · rintro ⟨m', hm', hh⟩
    unfold hitK at hh
    simp only [Bool.and_eq_true, decide_eq_true_eq] at hh
    obtain ⟨_, rfl⟩ := ht.uniq i p m p m' ⟨x, hx, hk⟩ ⟨x, hx, hh.1⟩
    exact hh.2
  · intro h
    refine ⟨m, List.mem_range.2 (List.getElem?_eq_some_iff.1 hk).1, ?_⟩
    unfold hitK
    simp only [Bool.and_eq_true, decide_eq_true_eq]
    exact ⟨hk, h⟩
/-- what the way up finds -/
theorem bnd_spec {e : List Ex} {P : List Int} (ht : IsTree e) (hP : Parents e P) (n : Int) : ∀ {i : Nat}, i < e.length →
    (bnd e P n i = -1 ∧ ∀ sc, Under e i (e.length - 1) sc → ¬ n ∈ sc) ∨ ∃ (k p m : Nat) (x : Ex) (sc : List Int), bnd e P n i = (p : Int) ∧ Under e i k sc ∧ ¬ n ∈ sc ∧ Par e k p m ∧ e[p]? = some x ∧ n ∈ scopeX x m := by
  intro i hi
  induction hm : e.length - i using Nat.strongRecOn generalizing i with
  | _ N ih =>
    by_cases hl : i + 1 < e.length
    · obtain ⟨p, m, hp⟩ := ht.one i hl
      have hlt := hp.lt ht.down
      obtain ⟨x, hx, hk⟩ := hp
      have hp : Par e i p m := ⟨x, hx, hk⟩
      rw [bnd_up (hP.par i p m hp) hlt.1 hx]
      by_cases hh : hit x i n = true
      · rw [if_pos hh]
        exact .inr ⟨i, p, m, x, [], rfl, .here, by simp, hp, hx, (hit_par ht hp hx n).1 hh⟩
      · rw [if_neg hh]
        have hns : ¬ n ∈ scopeX x m := fun h => hh ((hit_par ht hp hx n).2 h)
        rcases ih (e.length - p) (by omega) hlt.2 rfl with ⟨h1, h2⟩ | ⟨k, p', m', x', sc, h1, h2, h3, h4, h5, h6⟩
        · refine .inl ⟨h1, fun sc hu => ?_⟩
          cases hu with
          | here => simp
          | up hp2 hx2 hu2 =>
            obtain ⟨rfl, rfl⟩ := ht.uniq _ _ _ _ _ hp hp2
            rw [hx] at hx2
            obtain rfl := Option.some.inj hx2
            rw [List.mem_append]
            rintro (h | h)
            · exact hns h
            · exact h2 _ hu2 h
        · refine .inr ⟨k, p', m', x', scopeX x m ++ sc, h1, .up hp hx h2, ?_, h4, h5, h6⟩
          rw [List.mem_append]
          rintro (h | h)
          · exact hns h
          · exact h3 h
    · have hi1 : i = e.length - 1 := by omega
      rw [hi1]
      refine .inl ⟨bnd_root hP.root, fun sc hu => ?_⟩
      cases hu with
      | here => simp
      | up hp2 hx2 hu2 =>
        have := hu2.le ht.down
        have := hp2.lt ht.down
        omega
theorem Under.append {e : List Ex} {i j k : Nat} {sc sc' : List Int} (h : Under e i j sc) (h' : Under e j k sc') : Under e i k (sc ++ sc') := by
  induction h with
  | here => simpa using h'
  | up hp hx _ ih =>
    have := Under.up hp hx (ih h')
    simpa [List.append_assoc] using this
theorem bnd_neg {e : List Ex} {P : List Int} (ht : IsTree e) (hP : Parents e P) (n : Int) {i : Nat} (hi : i < e.length) : bnd e P n i < 0 ↔ ∀ sc, Under e i (e.length - 1) sc → ¬ n ∈ sc := by
  rcases bnd_spec ht hP n hi with ⟨h1, h2⟩ | ⟨k, p, m, x, sc, h1, h2, h3, h4, h5, h6⟩
  · rw [h1]
    exact ⟨fun _ => h2, fun _ => by omega⟩
  · rw [h1]
    constructor
    · intro h
      omega
    · intro h
      obtain ⟨sc', hu⟩ := ht.root (h4.lt ht.down).2
      have h7 := h _ (h2.append (.up h4 h5 hu))
      exact absurd (by simp [h6]) h7
end Go.Co

/- Plain: what stands at or below a node, and how many. No program in sight. No condition. -/
namespace Go.Co
set_option linter.unusedVariables false
set_option linter.unusedSimpArgs false
def Bel (e : List Ex) (at_ i : Nat) : Prop := ∃ sc, Under e i at_ sc
theorem Bel.le {e : List Ex} (hd : Down e) {a i : Nat} (h : Bel e a i) : i ≤ a := h.choose_spec.le hd
theorem Bel.cases {e : List Ex} {a i : Nat} : Bel e a i ↔ i = a ∨ ∃ p m, Par e i p m ∧ Bel e a p := by
  constructor
  · rintro ⟨sc, h⟩
    cases h with
    | here => exact .inl rfl
    | up hp hx h => exact .inr ⟨_, _, hp, _, h⟩
  · rintro (rfl | ⟨p, m, hp, sc, h⟩)
    · exact ⟨[], .here⟩
    · obtain ⟨x, hx, hk⟩ := hp
      exact ⟨_, .up ⟨x, hx, hk⟩ hx h⟩
/-- the marks so far: nodes c and above are done, and j kids of node c - 1 -/
def BelS (e : List Ex) (a c j k : Nat) : Prop := k = a ∨ ∃ p m, Par e k p m ∧ (c ≤ p ∨ (p + 1 = c ∧ m < j)) ∧ Bel e a p
structure BI (e : List Ex) (a : Nat) (B : List Bool) (c j : Nat) : Prop where
  len : B.length = e.length
  val : ∀ k : Nat, k < e.length → (B[k]? = some true ↔ BelS e a c j k)
theorem BelS.at {e : List Ex} (hd : Down e) {a i j : Nat} : BelS e a (i + 1) j i ↔ Bel e a i := by
  rw [Bel.cases]
  refine or_congr Iff.rfl ⟨fun ⟨p, m, h1, _, h3⟩ => ⟨p, m, h1, h3⟩, fun ⟨p, m, h1, h3⟩ => ⟨p, m, h1, .inl ?_, h3⟩⟩
  have := h1.lt hd
  omega
theorem BI.start {e : List Ex} (hd : Down e) {a : Nat} (ha : a < e.length) : BI e a ((List.replicate e.length false).set a true) (a + 1) 0 where
  len := by simp
  val := fun k hk => by
    rw [List.getElem?_set, List.length_replicate]
    by_cases e1 : a = k
    · subst e1
      simp [ha, BelS]
    · rw [if_neg e1, List.getElem?_replicate, if_pos hk]
      refine ⟨fun h => by simp at h, fun h => ?_⟩
      rcases h with h | ⟨p, m, _, h2, h3⟩
      · omega
      · have := h3.le hd
        omega
theorem BI.at {e : List Ex} (hd : Down e) {a i j : Nat} {B : List Bool} (h : BI e a B (i + 1) j) (hi : i < e.length) : B[i]? = some true ↔ Bel e a i := (h.val i hi).trans (BelS.at hd)
theorem BI.step {e : List Ex} (hd : Down e) {a i j : Nat} {B : List Bool} (h : BI e a B (i + 1) j) {x : Ex} {k : Nat} {u v : Bool} (hx : e[i]? = some x) (hk : x.kids[j]? = some (k : Int)) (hu : B[k]? = some u) (hv : B[i]? = some v) : BI e a (B.set k (u || v)) (i + 1) (j + 1) where
  len := by rw [List.length_set, h.len]
  val := fun n hn => by
    have hi := (List.getElem?_eq_some_iff.1 hx).1
    have hp : Par e k i j := ⟨x, hx, hk⟩
    have hki := hp.lt hd
    rw [List.getElem?_set]
    have hmono : BelS e a (i + 1) j n → BelS e a (i + 1) (j + 1) n := by
      rintro (h1 | ⟨p, m, h1, h2, h3⟩)
      · exact .inl h1
      · exact .inr ⟨p, m, h1, by omega, h3⟩
    by_cases e1 : k = n
    · subst e1
      rw [if_pos rfl, if_pos (by rw [h.len]; exact hn)]
      have h1 := h.val k hn
      have h2 := h.at hd hi
      rw [hu] at h1
      rw [hv] at h2
      constructor
      · intro h3
        simp only [Option.some.injEq, Bool.or_eq_true] at h3
        rcases h3 with rfl | rfl
        · exact hmono (h1.1 rfl)
        · exact .inr ⟨i, j, hp, .inr ⟨rfl, by omega⟩, h2.1 rfl⟩
      · intro h3
        simp only [Option.some.injEq, Bool.or_eq_true]
        rcases h3 with h3 | ⟨p, m, h3, h4, h5⟩
        · exact .inl (Option.some.inj (h1.2 (.inl h3)))
        · by_cases e2 : p = i ∧ m = j
          · obtain ⟨rfl, rfl⟩ := e2
            exact .inr (Option.some.inj (h2.2 h5))
          · exact .inl (Option.some.inj (h1.2 (.inr ⟨p, m, h3, by omega, h5⟩)))
    · rw [if_neg e1, h.val n hn]
      refine ⟨hmono, ?_⟩
      rintro (h1 | ⟨p, m, h1, h2, h3⟩)
      · exact .inl h1
      · refine .inr ⟨p, m, h1, ?_, h3⟩
        by_cases e2 : p = i ∧ m = j
        · obtain ⟨rfl, rfl⟩ := e2
          obtain ⟨x', h4, h5⟩ := h1
          rw [hx] at h4
          obtain rfl := Option.some.inj h4
          rw [hk] at h5
          exact absurd (by simp at h5; omega) e1
        · omega
theorem BI.next {e : List Ex} {a i : Nat} {B : List Bool} {x : Ex} (hx : e[i]? = some x) (h : BI e a B (i + 1) x.kids.length) : BI e a B i 0 where
  len := h.len
  val := fun n hn => by
    rw [h.val n hn]
    refine or_congr Iff.rfl ⟨fun ⟨p, m, h1, h2, h3⟩ => ⟨p, m, h1, by omega, h3⟩, fun ⟨p, m, h1, h2, h3⟩ => ⟨p, m, h1, ?_, h3⟩⟩
    by_cases e1 : p = i
    · subst e1
      obtain ⟨x', h4, h5⟩ := h1
      rw [hx] at h4
      obtain rfl := Option.some.inj h4
      exact .inr ⟨rfl, (List.getElem?_eq_some_iff.1 h5).1⟩
    · omega
theorem BI.end_ {e : List Ex} {a : Nat} {B : List Bool} (h : BI e a B 0 0) {n : Nat} (hn : n < e.length) : B[n]? = some true ↔ Bel e a n := by
  rw [h.val n hn, Bel.cases]
  exact or_congr Iff.rfl ⟨fun ⟨p, m, h1, _, h3⟩ => ⟨p, m, h1, h3⟩, fun ⟨p, m, h1, h3⟩ => ⟨p, m, h1, .inl (by omega), h3⟩⟩
/-! ### how many -/
def ids (e : List Ex) (i : Nat) : List Nat := i :: (match e[i]? with
  | none => []
  | some x => x.kids.flatMap fun k => if h : k.toNat < i then ids e k.toNat else [])
theorem ids_eq {e : List Ex} (h : Down e) {i : Nat} {x : Ex} (hx : e[i]? = some x) : ids e i = i :: x.kids.flatMap fun k => ids e k.toNat := by
  rw [ids, hx]
  simp only [List.cons.injEq, true_and]
  have hk : ∀ k ∈ x.kids, (if h : k.toNat < i then ids e k.toNat else []) = ids e k.toNat := fun k hk => by
    have := h i x hx k hk
    rw [dif_pos (by omega)]
  generalize x.kids = l at hk
  induction l with
  | nil => rfl
  | cons a r ih =>
    rw [List.flatMap_cons, List.flatMap_cons, hk a (.head _), ih fun k hm => hk k (.tail _ hm)]
theorem under_lin {e : List Ex} (ht : IsTree e) {x k : Nat} {sc : List Int} (h : Under e x k sc) : ∀ {k' : Nat} {sc' : List Int}, Under e x k' sc' → k ≤ k' → Bel e k' k := by
  induction h with
  | here => exact fun h2 _ => ⟨_, h2⟩
  | up hp hx h ih =>
    intro k' sc' h2 hle
    cases h2 with
    | here =>
      have := h.le ht.down
      have := hp.lt ht.down
      omega
    | up hp2 hx2 h2 =>
      obtain ⟨rfl, rfl⟩ := ht.uniq _ _ _ _ _ hp hp2
      exact ih h2 hle
theorem not_both {e : List Ex} (ht : IsTree e) {x i k k' m m' : Nat} (h : Bel e k x) (h' : Bel e k' x) (hp : Par e k i m) (hp' : Par e k' i m') (hlt : k < k') : False := by
  obtain ⟨sc, h⟩ := h
  obtain ⟨sc', h'⟩ := h'
  have h1 := under_lin ht h h' (by omega)
  rcases Bel.cases.1 h1 with h2 | ⟨p, q, h2, h3⟩
  · omega
  · obtain ⟨rfl, rfl⟩ := ht.uniq _ _ _ _ _ hp h2
    have := h3.le ht.down
    have := hp'.lt ht.down
    omega
theorem mem_ids {e : List Ex} (ht : IsTree e) : ∀ {i : Nat}, i < e.length → ∀ {n : Nat}, n ∈ ids e i ↔ Bel e i n := by
  intro i
  induction i using Nat.strongRecOn with
  | _ i ih =>
    intro hi n
    have hx : e[i]? = some e[i] := List.getElem?_eq_getElem hi
    rw [ids_eq ht.down hx, List.mem_cons, List.mem_flatMap]
    constructor
    · rintro (rfl | ⟨k, hk, hn⟩)
      · exact ⟨[], .here⟩
      · have hr := ht.down i _ hx k hk
        obtain ⟨sc, h⟩ := (ih k.toNat (by omega) (by omega)).1 hn
        obtain ⟨m, hm⟩ := List.getElem?_of_mem hk
        exact ⟨_, h.down ⟨_, hx, by rw [show ((k.toNat : Nat) : Int) = k by omega]; exact hm⟩ hx⟩
    · rintro ⟨sc, h⟩
      rcases h.split with ⟨h1, _⟩ | ⟨k, m, x, sc', h1, h2, h3, _⟩
      · exact .inl h1
      · right
        obtain ⟨y, h4, h5⟩ := h2
        rw [hx] at h4
        obtain rfl := Option.some.inj h4
        have hr := ht.down i _ hx k (List.mem_of_getElem? h5)
        refine ⟨k, List.mem_of_getElem? h5, ?_⟩
        rw [Int.toNat_natCast]
        exact (ih k (by omega) (by omega)).2 ⟨_, h1⟩
theorem kids_nodup2 {e : List Ex} (ht : IsTree e) {i : Nat} {x : Ex} (hx : e[i]? = some x) : x.kids.Nodup := by
  refine List.pairwise_iff_getElem.2 fun a b ha hb hab he => ?_
  have h1 := ht.down i x hx x.kids[a] (List.getElem_mem ha)
  have e1 : x.kids[a]? = some ((x.kids[a].toNat : Nat) : Int) := by rw [List.getElem?_eq_getElem ha]; congr 1; omega
  have e2 : x.kids[b]? = some ((x.kids[a].toNat : Nat) : Int) := by rw [List.getElem?_eq_getElem hb, ← he]; congr 1; omega
  have := ht.uniq _ i a i b ⟨x, hx, e1⟩ ⟨x, hx, e2⟩
  omega
theorem ids_nodup {e : List Ex} (ht : IsTree e) : ∀ {i : Nat}, i < e.length → (ids e i).Nodup := by
  intro i
  induction i using Nat.strongRecOn with
  | _ i ih =>
    intro hi
    have hx : e[i]? = some e[i] := List.getElem?_eq_getElem hi
    have hd := ht.down i _ hx
    rw [ids_eq ht.down hx, List.nodup_cons]
    refine ⟨fun h => ?_, ?_⟩
    · obtain ⟨k, hk, hn⟩ := List.mem_flatMap.1 h
      have hr := hd k hk
      have := ((mem_ids ht (by omega)).1 hn).le ht.down
      omega
    · refine List.pairwise_flatMap.2 ⟨fun k hk => ?_, ?_⟩
      · have hr := hd k hk
        exact ih k.toNat (by omega) (by omega)
      · refine List.pairwise_iff_getElem.2 fun a b ha hb hab n hn n' hn' he => ?_
        subst he
        have hra := hd _ (List.getElem_mem ha)
        have hrb := hd _ (List.getElem_mem hb)
        have h1 := (mem_ids ht (by omega)).1 hn
        have h2 := (mem_ids ht (by omega)).1 hn'
        have hpa : Par e (e[i].kids[a]).toNat i a := ⟨_, hx, by rw [List.getElem?_eq_getElem ha]; congr 1; omega⟩
        have hpb : Par e (e[i].kids[b]).toNat i b := ⟨_, hx, by rw [List.getElem?_eq_getElem hb]; congr 1; omega⟩
        rcases Nat.lt_trichotomy (e[i].kids[a]).toNat (e[i].kids[b]).toNat with h3 | h3 | h3
        · exact not_both ht h1 h2 hpa hpb h3
        · have := List.pairwise_iff_getElem.1 (kids_nodup2 ht hx) a b ha hb hab
          omega
        · exact not_both ht h2 h1 hpb hpa h3
/-- the places of the marks -/
def posT : List Bool → Nat → List Nat
  | [], _ => []
  | true :: r, i => i :: posT r (i + 1)
  | false :: r, i => posT r (i + 1)
theorem posT_len : ∀ (B : List Bool) (i : Nat), (posT B i).length = B.count true
  | [], _ => rfl
  | true :: r, i => by simp [posT, posT_len r]
  | false :: r, i => by simp [posT, posT_len r]
theorem mem_posT {n : Nat} : ∀ {B : List Bool} {i : Nat}, n ∈ posT B i ↔ i ≤ n ∧ B[n - i]? = some true
  | [], i => by simp [posT]
  | b :: r, i => by
    have h2 : (i ≤ n ∧ (b :: r)[n - i]? = some true) ↔ (n = i ∧ b = true) ∨ (i + 1 ≤ n ∧ r[n - (i + 1)]? = some true) := by
      by_cases h : n = i
      · subst h
        simp
        omega
      · by_cases h3 : i < n
        · rw [show n - i = (n - (i + 1)) + 1 by omega]
          simp only [List.getElem?_cons_succ]
          constructor
          · exact fun h4 => .inr ⟨by omega, h4.2⟩
          · rintro (h4 | h4)
            · exact absurd h4.1 h
            · exact ⟨by omega, h4.2⟩
        · constructor
          · exact fun h4 => by omega
          · rintro (h4 | h4) <;> omega
    rw [h2]
    cases b with
    | true => simp [posT, mem_posT (B := r) (i := i + 1)]
    | false => simp [posT, mem_posT (B := r) (i := i + 1)]
theorem posT_nodup : ∀ (B : List Bool) (i : Nat), (posT B i).Nodup
  | [], _ => by simp [posT]
  | true :: r, i => by
    rw [posT, List.nodup_cons]
    exact ⟨fun h => by have := (mem_posT.1 h).1; omega, posT_nodup r _⟩
  | false :: r, i => by rw [posT]; exact posT_nodup r _
theorem nodup_le_ {α : Type} : ∀ {l m : List α}, l.Nodup → (∀ x ∈ l, x ∈ m) → l.length ≤ m.length
  | [], _, _, _ => by simp
  | x :: r, m, hn, hs => by
    have hx := hs x (.head _)
    obtain ⟨m1, m2, rfl⟩ := List.append_of_mem hx
    rw [List.nodup_cons] at hn
    have := nodup_le_ (l := r) (m := m1 ++ m2) hn.2 (fun y hy => by
      have h1 := hs y (.tail _ hy)
      have h2 : y ≠ x := fun e => hn.1 (e ▸ hy)
      simp at h1 ⊢
      rcases h1 with h1 | h1 | h1
      · exact .inl h1
      · exact absurd h1 h2
      · exact .inr h1)
    simp at this ⊢
    omega
theorem count_ids {e : List Ex} (ht : IsTree e) {a : Nat} {B : List Bool} (ha : a < e.length) (h : BI e a B 0 0) : B.count true = (ids e a).length := by
  rw [← posT_len B 0]
  have hm : ∀ n, n ∈ posT B 0 ↔ n ∈ ids e a := fun n => by
    rw [mem_posT, mem_ids ht ha]
    simp only [Nat.zero_le, true_and, Nat.sub_zero]
    by_cases hn : n < e.length
    · exact h.end_ hn
    · rw [List.getElem?_eq_none (by rw [h.len]; omega)]
      refine ⟨fun h => (by cases h), fun h1 => ?_⟩
      have := h1.le ht.down
      omega
  have h1 := nodup_le_ (posT_nodup B 0) fun n hn => (hm n).1 hn
  have h2 := nodup_le_ (ids_nodup ht ha) fun n hn => (hm n).2 hn
  omega
end Go.Co

/- Plain: the free identifiers below a node, as the reference finds them. No program in sight. No condition. -/
namespace Go.Co
set_option linter.unusedVariables false
set_option linter.unusedSimpArgs false
/-- a number's place in a sorted list -/
def insN (n : Int) (l : List Int) : List Int := l.takeWhile (fun x => decide (x < n)) ++ n :: l.dropWhile (fun x => decide (x < n))
theorem mem_insN {n k : Int} {l : List Int} : k ∈ insN n l ↔ k = n ∨ k ∈ l := by
  unfold insN
  have h : k ∈ l ↔ k ∈ l.takeWhile (fun x => decide (x < n)) ++ l.dropWhile (fun x => decide (x < n)) := by rw [List.takeWhile_append_dropWhile]
  rw [h, List.mem_append, List.mem_append, List.mem_cons]
  constructor
  · rintro (h | h | h)
    · exact .inr (.inl h)
    · exact .inl h
    · exact .inr (.inr h)
  · rintro (h | h | h)
    · exact .inr (.inl h)
    · exact .inl h
    · exact .inr (.inr h)
theorem lt_takeWhile {n k : Int} : ∀ {l : List Int}, k ∈ l.takeWhile (fun x => decide (x < n)) → k < n
  | [], h => by simp at h
  | a :: r, h => by
    rw [List.takeWhile_cons] at h
    split at h
    · rename_i h1
      rcases List.mem_cons.1 h with rfl | h
      · simpa using h1
      · exact lt_takeWhile h
    · cases h
theorem ge_dropWhile {n k : Int} : ∀ {l : List Int}, l.Pairwise (· < ·) → k ∈ l.dropWhile (fun x => decide (x < n)) → n ≤ k
  | [], _, h => by simp at h
  | a :: r, hs, h => by
    rw [List.pairwise_cons] at hs
    rw [List.dropWhile_cons] at h
    split at h
    · exact ge_dropWhile hs.2 h
    · rename_i h1
      simp at h1
      rcases List.mem_cons.1 h with rfl | h
      · exact h1
      · have := hs.1 k h
        omega
theorem insN_sorted {n : Int} {l : List Int} (hs : l.Pairwise (· < ·)) (hn : ¬ n ∈ l) : (insN n l).Pairwise (· < ·) := by
  have h1 : (l.takeWhile (fun x => decide (x < n)) ++ l.dropWhile (fun x => decide (x < n))).Pairwise (· < ·) := by rw [List.takeWhile_append_dropWhile]; exact hs
  rw [List.pairwise_append] at h1
  unfold insN
  rw [List.pairwise_append, List.pairwise_cons]
  refine ⟨h1.1, ⟨fun k hk => ?_, h1.2.1⟩, fun a ha b hb => ?_⟩
  · have h2 := ge_dropWhile hs hk
    have h3 : k ∈ l := by rw [← List.takeWhile_append_dropWhile (p := fun x => decide (x < n)) (l := l)]; exact List.mem_append.2 (.inr hk)
    by_cases e : n = k
    · exact absurd (e ▸ h3) hn
    · omega
  · rcases List.mem_cons.1 hb with rfl | hb
    · exact lt_takeWhile ha
    · exact h1.2.2 a ha b hb
theorem insN_len (n : Int) (l : List Int) : (insN n l).length = l.length + 1 := by
  have := congrArg List.length (List.takeWhile_append_dropWhile (p := fun x => decide (x < n)) (l := l))
  rw [List.length_append] at this
  unfold insN
  rw [List.length_append, List.length_cons]
  omega
/-- strictly sorted lists with the same members are equal -/
theorem sorted_eq : ∀ {l m : List Int}, l.Pairwise (· < ·) → m.Pairwise (· < ·) → (∀ n, n ∈ l ↔ n ∈ m) → l = m
  | [], [], _, _, _ => rfl
  | [], b :: r, _, _, h => by have := (h b).2 (.head _); cases this
  | a :: r, [], _, _, h => by have := (h a).1 (.head _); cases this
  | a :: r, b :: s, h1, h2, h => by
    rw [List.pairwise_cons] at h1 h2
    have ha := (h a).1 (.head _)
    have hb := (h b).2 (.head _)
    have hab : a = b := by
      rcases List.mem_cons.1 ha with e | ha
      · exact e
      · rcases List.mem_cons.1 hb with e | hb
        · exact e.symm
        · have := h1.1 b hb
          have := h2.1 a ha
          omega
    subst hab
    rw [sorted_eq h1.2 h2.2 fun n => ?_]
    have hn := h n
    rw [List.mem_cons, List.mem_cons] at hn
    constructor
    · intro hr
      rcases hn.1 (.inr hr) with rfl | h3
      · have := h1.1 n hr; omega
      · exact h3
    · intro hr
      rcases hn.2 (.inr hr) with rfl | h3
      · have := h2.1 n hr; omega
      · exact h3
/-- an occurrence that nothing binds on the way up to a node: as the way up tells it -/
theorem free_at {e : List Ex} {P : List Int} (ht : IsTree e) (hP : Parents e P) (n : Int) {a i : Nat} {sc : List Int} (hi : i < e.length) (ha : a < e.length) (hu : Under e i a sc) : n ∈ sc ↔ 0 ≤ bnd e P n i ∧ Bel e a (bnd e P n i).toNat := by
  obtain ⟨sr, hr⟩ := ht.root ha
  rcases bnd_spec ht hP n hi with ⟨h1, h2⟩ | ⟨k, p, m, x, sc2, h1, h2, h3, h4, h5, h6⟩
  · rw [h1]
    constructor
    · intro h
      exact absurd (List.mem_append.2 (.inl h)) (h2 _ (hu.append hr))
    · intro h
      omega
  · rw [h1]
    simp only [Int.toNat_natCast]
    constructor
    · intro h
      refine ⟨by omega, ?_⟩
      by_cases hka : k ≤ a
      · have h7 := under_lin ht h2 hu hka
        rcases Bel.cases.1 h7 with rfl | ⟨p', m', h8, h9⟩
        · exact absurd ((Under.uniq ht hu h2) ▸ h) h3
        · obtain ⟨rfl, rfl⟩ := ht.uniq _ _ _ _ _ h4 h8
          exact h9
      · obtain ⟨sc3, h7⟩ := under_lin ht hu h2 (by omega)
        have := Under.uniq ht h2 (hu.append h7)
        exact absurd (by rw [this]; exact List.mem_append.2 (.inl h)) h3
    · rintro ⟨_, sc3, h7⟩
      have h8 := h2.append (Under.up h4 h5 h7)
      rw [Under.uniq ht hu h8]
      simp [h6]
/-- what the reference collects -/
structure FI (e : List Ex) (P : List Int) (a : Nat) (l : List Int) (i : Nat) : Prop where
  sorted : l.Pairwise (· < ·)
  mem : ∀ n, n ∈ l ↔ ∃ j x, j < i ∧ e[j]? = some x ∧ Bel e a j ∧ x.op = 0 ∧ x.n = n ∧ ¬ (0 ≤ bnd e P n j ∧ Bel e a (bnd e P n j).toNat)
theorem FI.start (e : List Ex) (P : List Int) (a : Nat) : FI e P a [] 0 where
  sorted := List.Pairwise.nil
  mem := fun n => by
    refine ⟨fun h => (by cases h), ?_⟩
    rintro ⟨j, x, h, _⟩
    omega
theorem FI.skip {e : List Ex} {P : List Int} {a i : Nat} {l : List Int} {x : Ex} (h : FI e P a l i) (hx : e[i]? = some x) (hs : ¬ Bel e a i ∨ x.op ≠ 0 ∨ (0 ≤ bnd e P x.n i ∧ Bel e a (bnd e P x.n i).toNat) ∨ x.n ∈ l) : FI e P a l (i + 1) where
  sorted := h.sorted
  mem := fun n => by
    constructor
    · intro hn
      obtain ⟨j, y, h1, h2⟩ := (h.mem n).1 hn
      exact ⟨j, y, by omega, h2⟩
    · rintro ⟨j, y, h1, h2, h3, h4, h5, h6⟩
      by_cases e1 : j = i
      · subst e1
        rw [hx] at h2
        obtain rfl := Option.some.inj h2
        subst h5
        rcases hs with hs | hs | hs | hs
        · exact absurd h3 hs
        · exact absurd h4 hs
        · exact absurd hs h6
        · exact hs
      · exact (h.mem n).2 ⟨j, y, by omega, h2, h3, h4, h5, h6⟩
theorem FI.step {e : List Ex} {P : List Int} {a i : Nat} {l : List Int} {x : Ex} (h : FI e P a l i) (hx : e[i]? = some x) (h1 : Bel e a i) (h2 : x.op = 0) (h3 : ¬ (0 ≤ bnd e P x.n i ∧ Bel e a (bnd e P x.n i).toNat)) (h4 : ¬ x.n ∈ l) : FI e P a (insN x.n l) (i + 1) where
  sorted := insN_sorted h.sorted h4
  mem := fun n => by
    rw [mem_insN]
    constructor
    · rintro (rfl | hn)
      · exact ⟨i, x, by omega, hx, h1, h2, rfl, h3⟩
      · obtain ⟨j, y, g1, g2⟩ := (h.mem n).1 hn
        exact ⟨j, y, by omega, g2⟩
    · rintro ⟨j, y, g1, g2, g3, g4, g5, g6⟩
      by_cases e1 : j = i
      · subst e1
        rw [hx] at g2
        obtain rfl := Option.some.inj g2
        exact .inl g5.symm
      · exact .inr ((h.mem n).2 ⟨j, y, by omega, g2, g3, g4, g5, g6⟩)
theorem FI.done {e : List Ex} {P : List Int} (ht : IsTree e) (hP : Parents e P) {a : Nat} (ha : a < e.length) {l m : List Int} (h : FI e P a l e.length) (h1 : m.Pairwise (· ≤ ·)) (h2 : m.Nodup) (h3 : ∀ n, n ∈ m ↔ n ∈ fv (grow e a) []) : m = l := by
  refine sorted_eq ?_ h.sorted fun n => ?_
  · refine (h1.and h2).imp fun h => ?_
    obtain ⟨h4, h5⟩ := h
    omega
  · rw [h3, mem_fv ht.down a ha [], h.mem]
    constructor
    · rintro ⟨j, x, sc, g1, g2, g3, g4, g5⟩
      have hj := (List.getElem?_eq_some_iff.1 g1).1
      refine ⟨j, x, hj, g1, ⟨sc, g4⟩, g2, g3, fun hb => ?_⟩
      rw [List.append_nil] at g5
      exact g5 ((free_at ht hP n hj ha g4).2 hb)
    · rintro ⟨j, x, hj, g1, ⟨sc, g4⟩, g2, g3, g5⟩
      refine ⟨j, x, sc, g1, g2, g3, g4, ?_⟩
      rw [List.append_nil]
      exact fun hb => g5 ((free_at ht hP n hj ha g4).1 hb)
end Go.Co

/- A region that draws its order, whose pure operations come first, whatever its other ones wait for, and whose other ones then follow one behind another. General. No condition. -/
namespace Go.Eng
open Go.RowKit
set_option linter.unusedVariables false
set_option linter.unusedSimpArgs false

/-- an operation that makes nothing and writes nothing -/
def pureB (o : Oper) : Bool := match o.op with
  | .move _ => true
  | .assign _ => true
  | .pick .. => true
  | .build .. => true
  | .load .. => true
  | .nilCheck _ => true
  | .binOp .. => true
  | .unOp .. => true
  | .convert .. => true
  | .makeFunc .. => true
  | .slice .. => true
  | .fieldAddr .. => true
  | .field .. => true
  | .indexAddr .. => true
  | .index .. => true
  | .lookup .. => true
  | .extract .. => true
  | .call c => match c.callee with
    | .builtin .len => true
    | .builtin .min => true
    | .builtin .max => true
    | _ => false
  | _ => false
/-- an operation that looks at memory -/
def depB (o : Oper) : Bool := match o.op with
  | .load .. => true
  | .lookup .. => true
  | .index .. => true
  | .convert .. => true
  | _ => false

section
variable {P : Program} {ops : Array Oper} {C0 : World → Prop}
theorem value_only {M : Sem Value} {w : World} {n : Next} {w' : World} (h : (do pure (.value (← M)) : Sem Next).run P w = .ok n w') : ∃ u, n = .value u := by
  rw [Sem.run_bind] at h
  generalize M.run P w = r at h
  cases r with
  | ok v w1 => simp [Result.andThen] at h; exact ⟨v, h.1.symm⟩
  | halt x w1 => simp [Result.andThen] at h
theorem value_bind {α : Type} {M : Sem α} {f : α → Sem Next} (hf : ∀ x w n w', (f x).run P w = .ok n w' → ∃ u, n = .value u) (w : World) (n : Next) (w' : World) (h : (M >>= f).run P w = .ok n w') : ∃ u, n = .value u := by
  rw [Sem.run_bind] at h
  generalize M.run P w = r at h
  cases r with
  | ok v w1 => exact hf _ _ _ _ h
  | halt x w1 => simp [Result.andThen] at h
theorem pure_value {o : Oper} {ρ : Operand → Value} {w : World} {n : Next} {w' : World} (hp : pureB o = true) (h : (execOp ρ o).run P w = .ok n w') : ∃ u, n = .value u := by
  obtain ⟨dst, op, type, pos, after, guard⟩ := o
  cases op <;> simp only [pureB, Bool.false_eq_true] at hp <;> simp only [execOp] at h <;> try (exact value_only h)
  case move x => simp at h; exact ⟨_, h.1.symm⟩
  case assign x => simp at h; exact ⟨_, h.1.symm⟩
  case pick c a b =>
    rw [Sem.run_bind] at h
    generalize (asBool (ρ c)).run P w = r at h
    cases r with
    | ok v w1 => simp [Result.andThen] at h; exact ⟨_, h.1.symm⟩
    | halt x w1 => simp [Result.andThen] at h
  case nilCheck x =>
    split at h
    · simp [runtimePanic] at h
    · simp [runtimePanic] at h
    · simp [runtimePanic] at h
    · split at h
      · simp [runtimePanic] at h
      · refine value_bind (fun p => value_bind (fun q => ?_)) _ _ _ h
        intro w n w' h
        split at h
        · simp only [unsupported, Sem.run_bind] at h
          simp at h
        · simp at h; exact ⟨_, h.1.symm⟩
      · simp at h; exact ⟨_, h.1.symm⟩
    · simp at h; exact ⟨_, h.1.symm⟩
  case call c =>
    obtain ⟨callee, args, ats⟩ := c
    cases callee with
    | builtin b =>
      cases b <;> simp only [Bool.false_eq_true] at hp <;> simp only [resolve, invoke, builtin, Sem.run_bind, Sem.run_pure, Result.andThen_ok] at h
      case len =>
        generalize (Builtin.len_ ats type (Array.map ρ args)).run P w = r at h
        cases r with
        | ok v w1 => simp [Result.andThen] at h; exact ⟨v, h.1.symm⟩
        | halt x w1 => simp [Result.andThen] at h
      case min =>
        generalize (Builtin.min_ ats type (Array.map ρ args)).run P w = r at h
        cases r with
        | ok v w1 => simp [Result.andThen] at h; exact ⟨v, h.1.symm⟩
        | halt x w1 => simp [Result.andThen] at h
      case max =>
        generalize (Builtin.max_ ats type (Array.map ρ args)).run P w = r at h
        cases r with
        | ok v w1 => simp [Result.andThen] at h; exact ⟨v, h.1.symm⟩
        | halt x w1 => simp [Result.andThen] at h
    | value f => simp at hp
    | invoke r m => simp at hp
theorem still_of {D : World → Prop} {o : Oper} {ρ : Operand → Value} {w : World} {v : Value} (hp : pureB o = true) (h : Oper.quietUpon P D w v ((execOp ρ o).run P w)) : (execOp ρ o).run P w = .ok (.value v) w := by
  cases hr : (execOp ρ o).run P w with
  | ok n w' =>
    obtain ⟨u, rfl⟩ := pure_value hp hr
    rw [hr] at h
    simp only [Oper.quietUpon] at h
    rw [h.1, h.2]
  | halt x w' => rw [hr] at h; simp only [Oper.quietUpon] at h

/-! ### What one operation yields, where the class is asked of operations that look at memory alone -/
def YieldsZ (P : Program) (ops : Array Oper) (C0 : World → Prop) (o : Oper) (v : Value) (a : Act) : Prop :=
  (Region.wanted o (yielded ops a.tmps) = true ∧ ∀ w, (depB o = true → C0 w) → (execOp a.eval o).run P w = .ok (.value v) w) ∨
  (Region.wanted o (yielded ops a.tmps) = false ∧ v = undef)
theorem YieldsZ.of_same {o : Oper} {v : Value} {a a' : Act} (hy : YieldsZ P ops C0 o v a) (he : execOp a'.eval o = execOp a.eval o)
    (hw : Region.wanted o (yielded ops a'.tmps) = Region.wanted o (yielded ops a.tmps)) : YieldsZ P ops C0 o v a' := by
  unfold YieldsZ at *
  rw [he, hw]
  exact hy
variable {Q : Exit → Act → World → Prop}
theorem YieldsZ.wpOp {i : Nat} {o : Oper} {v : Value} {a : Act} (hi : ops[i]? = some o) (hy : YieldsZ P ops C0 o v a) {K : Act → World → Prop} {w : World} (hw0 : depB o = true → C0 w) (h : K (a.put o.dst v) w) : wpOp P ops Q i K a w := by
  unfold Go.wpOp
  simp only [hi]
  rcases hy with ⟨hw, hv⟩ | ⟨hw, rfl⟩
  · simp only [hw, if_true, Oper.wp, hv w hw0, Oper.upon]; exact .inl h
  · simp only [hw, Bool.false_eq_true, if_false]; exact h
theorem wpOp_putZ {j : Nat} {oi oj : Oper} {v : Value} (hj : ops[j]? = some oj) (hap : oi.apart ops oj = true)
    (hsi : ∀ cs b, oi.op ≠ .select cs b) (hsj : ∀ cs b, oj.op ≠ .select cs b) (hQ : ∀ c a w, ¬ Q (.panic c) a w) {K : Act → World → Prop} {a : Act} {w : World}
    (hy : YieldsZ P ops C0 oi v a) (h : wpOp P ops Q j K (a.put oi.dst v) w) :
    wpOp P ops Q j (fun a' w' => YieldsZ P ops C0 oi v a' ∧ K (a'.put oi.dst v) w') a w := by
  obtain ⟨h1, h2, h3⟩ := Oper.apart_spec hap
  have keep : ∀ (a : Act), YieldsZ P ops C0 oi v a → ∀ u, YieldsZ P ops C0 oi v (a.put oj.dst u) := fun a hy u =>
    hy.of_same (execOp_put oi hsi a oj.dst u h3) (wanted_put oi a oj.dst u h3)
  have keepD : ∀ d, YieldsZ P ops C0 oi v { a with defers := d :: a.defers } := fun d => hy.of_same rfl rfl
  unfold Go.wpOp at *
  simp only [hj] at *
  rw [wanted_put oj a oi.dst v h1] at h
  split
  · rename_i hw
    simp only [hw, if_true] at h
    rcases h with h | ⟨hasks, hlets⟩
    case inr => exact .inr ⟨by unfold Oper.asks at *; rw [execOp_put oj hsj a oi.dst v h1] at hasks; exact hasks, hlets⟩
    refine .inl ?_
    unfold Oper.wp at *
    rw [execOp_put oj hsj a oi.dst v h1] at h
    generalize (execOp a.eval oj).run P w = r at *
    cases r with
    | ok n w' =>
      cases n <;> simp only [Oper.upon] at h ⊢
      case value u => exact ⟨keep a hy u, by rw [← Act.put_comm a v u h2]; exact h⟩
      case skip => exact ⟨keep a hy _, by rw [← Act.put_comm a v undef h2]; exact h⟩
      case defer d =>
        refine ⟨keep _ (keepD d) _, ?_⟩
        rw [← Act.put_comm _ v undef h2, ← Act.put_defers]
        exact h
      case enter f args =>
        refine Calls.mono h fun e w'' he => ?_
        cases e with
        | returned u => exact ⟨keep a hy u, by rw [← Act.put_comm a v u h2]; exact he⟩
        | panicked c => exact absurd he (hQ _ _ _)
        | outgrown => exact he
      case row row args => exact Rows.mono h fun u w'' he => ⟨keep a hy u, by rw [← Act.put_comm a v u h2]; exact he⟩
    | halt x w' =>
      cases x <;> simp only [Oper.upon] at h ⊢
      case panic u => exact absurd h (hQ _ _ _)
  · rename_i hw
    simp only [hw] at h
    exact ⟨keep a hy _, by rw [← Act.put_comm a v undef h2]; exact h⟩

/-! ### Whatever order: what some operations keep is told -/
def wpZ (P : Program) (ops : Array Oper) (C0 : World → Prop) (need : Nat → Bool) (Q : Exit → Act → World → Prop) : Nat → Array Bool → Act → World → Prop
  | 0, li, a, w => Region.ready .any ops li = [] ∧ Q .normal a w
  | f + 1, li, a, w => (Region.ready .any ops li = [] → Q .normal a w) ∧ ∀ i ∈ Region.ready .any ops li, wpOp P ops Q i (fun a' w' => (need i = true → C0 w → C0 w') ∧ wpZ P ops C0 need Q f (li.setIfInBounds i true) a' w') a w
theorem wpAny_of_Z {need : Nat → Bool} : ∀ (f : Nat) (li : Array Bool) (a : Act) (w : World), wpZ P ops C0 need Q f li a w → wpAny P .any ops Q f li a w
  | 0, _, _, _, h => h
  | f + 1, li, a, w, h => ⟨h.1, fun i hi => wpOp_mono (fun a' w' h' => wpAny_of_Z f _ a' w' h'.2) (h.2 i hi)⟩

theorem wpZ_first {need : Nat → Bool} {i : Nat} {oi : Oper} {v : Value} (hi : ops[i]? = some oi) (hsel : ∀ (j : Nat) (o : Oper) cs b, ops[j]? = some o → o.op ≠ .select cs b) (hQ : ∀ c a w, ¬ Q (.panic c) a w) :
    ∀ (fuel : Nat) (li : Array Bool) (a : Act) (w : World), Dn ops li →
      (∀ j oj, ops[j]? = some oj → j ≠ i → li.getD j true = false → waitsB ops ops.size j i = false → oi.apart ops oj = true ∧ (depB oi = true → need j = true)) →
      i ∈ Region.ready .any ops li → YieldsZ P ops C0 oi v a → (depB oi = true → C0 w) →
      wpZ P ops C0 need Q fuel (li.setIfInBounds i true) (a.put oi.dst v) w → wpZ P ops C0 need Q (fuel + 1) li a w := by
  intro fuel
  induction fuel with
  | zero =>
    intro li a w hD _ hr hy hC H
    refine ⟨fun h => (by rw [h] at hr; cases hr), fun j hj => ?_⟩
    by_cases hji : j = i
    · subst hji; exact hy.wpOp hi hC ⟨fun _ h => h, H⟩
    · have := ready_mono hj hji
      rw [H.1] at this
      cases this
  | succ fuel ih =>
    intro li a w hD hfree hr hy hC H
    refine ⟨fun h => (by rw [h] at hr; cases hr), fun j hj => ?_⟩
    by_cases hji : j = i
    · subst hji; exact hy.wpOp hi hC ⟨fun _ h => h, H⟩
    · have h1 := H.2 j (ready_mono hj hji)
      obtain ⟨hjun, oj, hoj, hall⟩ := mem_ready.1 hj
      have hnw : waitsB ops ops.size j i = false := by
        cases hw : waitsB ops ops.size j i with
        | false => rfl
        | true =>
          have h2 := waits_done hD _ j oj hoj hall hw
          rw [getD_ft (mem_ready.1 hr).1] at h2
          cases h2
      obtain ⟨hap, hn⟩ := hfree j oj hoj hji hjun hnw
      have h2 := wpOp_putZ hoj hap (fun cs b => hsel i oi cs b hi) (fun cs b => hsel j oj cs b hoj) hQ hy h1
      have hfree' : ∀ k ok, ops[k]? = some ok → k ≠ i → (li.setIfInBounds j true).getD k true = false → waitsB ops ops.size k i = false → oi.apart ops ok = true ∧ (depB oi = true → need k = true) := fun k ok hk hki hun hno => by
        refine hfree k ok hk hki ?_ hno
        by_cases hjk : j = k
        · subst hjk; exact hjun
        · rw [getD_set_ne true hjk] at hun; exact hun
      refine wpOp_mono (fun a' w' h3 => ⟨h3.2.1, ih (li.setIfInBounds j true) a' w' (hD.set hj) hfree' (ready_mono hr (Ne.symm hji)) h3.1 (fun hd => h3.2.1 (hn hd) (hC hd)) ?_⟩) h2
      rw [Array.setIfInBounds_comm _ _ hji]
      exact h3.2.2

/-! ### The pure ones first -/
def freeZ (ops : Array Oper) (li : Array Bool) (i : Nat) : Bool :=
  match ops[i]? with
  | none => false
  | some oi => (List.range ops.size).all fun j => Nat.beq j i || (li.getD j true || (waitsB ops ops.size j i || (match ops[j]? with
      | some oj => oi.apart ops oj
      | none => true)))
/-- must operation k keep the class for one of the pure ones? -/
def needZ (ops : Array Oper) (xi : List Nat) (k : Nat) : Bool := xi.any fun i => (match ops[i]? with | some o => depB o | none => false) && !waitsB ops ops.size k i
theorem freeZ_spec {i : Nat} {oi : Oper} {li : Array Bool} {xi : List Nat} (hi : ops[i]? = some oi) (hx : i ∈ xi) (h : freeZ ops li i = true) (j : Nat) (oj : Oper) (hj : ops[j]? = some oj) (hne : j ≠ i) (hun : li.getD j true = false) (hno : waitsB ops ops.size j i = false) :
    oi.apart ops oj = true ∧ (depB oi = true → needZ ops xi j = true) := by
  simp only [freeZ, hi, List.all_eq_true, List.mem_range] at h
  have h1 := h j (Array.getElem?_eq_some_iff.1 hj).1
  have hb : Nat.beq j i = false := by
    rw [Bool.eq_false_iff]; intro hb; exact hne (Nat.eq_of_beq_eq_true hb)
  simp only [hj, hun, hno, hb, Bool.false_or] at h1
  refine ⟨h1, fun hd => List.any_eq_true.2 ⟨i, hx, ?_⟩⟩
  simp [hi, hd, hno]
def preZ (ops : Array Oper) : List Nat → Array Bool → Bool
  | [], _ => true
  | i :: r, li => (Region.ready .any ops li).contains i && (freeZ ops li i && preZ ops r (li.setIfInBounds i true))
def runZ : List Nat → Array Bool → Array Bool
  | [], li => li
  | i :: r, li => runZ r (li.setIfInBounds i true)
def seqZ (ops : Array Oper) : List Nat → Array Bool → Bool
  | [], li => (Region.ready .any ops li).isEmpty
  | k :: t, li => (Region.ready .any ops li == [k]) && seqZ ops t (li.setIfInBounds k true)
def wpZL (P : Program) (ops : Array Oper) (C0 : World → Prop) (K : Act → Prop) : List Oper → Act → Prop
  | [], a => K a
  | o :: r, a => if Region.wanted o (yielded ops a.tmps) then ∃ v, (∀ w, (depB o = true → C0 w) → (execOp a.eval o).run P w = .ok (.value v) w) ∧ wpZL P ops C0 K r (a.put o.dst v) else wpZL P ops C0 K r (a.put o.dst undef)
def wpT (P : Program) (ops : Array Oper) (C0 : World → Prop) (need : Nat → Bool) (Q : Exit → Act → World → Prop) : List (Nat × Oper) → Act → World → Prop
  | [], a, w => Q .normal a w
  | (k, _) :: r, a, w => wpOp P ops Q k (fun a' w' => (need k = true → C0 w') ∧ wpT P ops C0 need Q r a' w') a w
theorem wpZ_seq {need : Nat → Bool} : ∀ (y : List (Nat × Oper)) (li : Array Bool) (a : Act) (w : World), seqZ ops (y.map (·.1)) li = true → wpT P ops C0 need Q y a w → wpZ P ops C0 need Q y.length li a w
  | [], li, a, w, hB, h => ⟨by simpa [seqZ] using hB, h⟩
  | (k, o) :: r, li, a, w, hB, h => by
    simp only [List.map_cons, seqZ, Bool.and_eq_true, beq_iff_eq] at hB
    refine ⟨fun h' => (by rw [hB.1] at h'; cases h'), fun i hi => ?_⟩
    rw [hB.1, List.mem_singleton] at hi
    subst hi
    exact wpOp_mono (fun a' w' h3 => ⟨fun hn _ => h3.1 hn, wpZ_seq r _ a' w' hB.2 h3.2⟩) h
theorem wpZ_pre {xi0 : List Nat} (hs : Region.noSelect ops = true) (hQ : ∀ c a w, ¬ Q (.panic c) a w) {K : Act → Prop} {f : Nat} {w : World} (hw : C0 w) : ∀ (x : List (Nat × Oper)) (li : Array Bool) (a : Act), (∀ p ∈ x, p.1 ∈ xi0 ∧ ops[p.1]? = some p.2) → Dn ops li →
    preZ ops (x.map (·.1)) li = true → wpZL P ops C0 K (x.map (·.2)) a → (∀ a, K a → wpZ P ops C0 (needZ ops xi0) Q f (runZ (x.map (·.1)) li) a w) → wpZ P ops C0 (needZ ops xi0) Q (x.length + f) li a w
  | [], li, a, _, _, _, h, hK => by
    rw [List.length_nil, Nat.zero_add]; exact hK a h
  | (i, o) :: r, li, a, hx, hD, hB, h, hK => by
    obtain ⟨hmem, hi⟩ := hx _ (.head _)
    simp only [List.map_cons, preZ, Bool.and_eq_true] at hB
    obtain ⟨hr, hf, hB'⟩ := hB
    have hr' : i ∈ Region.ready .any ops li := by simpa using hr
    have key : ∃ v, YieldsZ P ops C0 o v a ∧ wpZL P ops C0 K (r.map (·.2)) (a.put o.dst v) := by
      simp only [List.map_cons, wpZL] at h
      split at h
      · rename_i hw
        obtain ⟨v, h1, h2⟩ := h
        exact ⟨v, .inl ⟨hw, h1⟩, h2⟩
      · rename_i hw
        exact ⟨undef, .inr ⟨by simpa using hw, rfl⟩, h⟩
    obtain ⟨v, hy, h2⟩ := key
    rw [List.length_cons, show r.length + 1 + f = (r.length + f) + 1 by omega]
    exact wpZ_first hi (Region.noSelect_spec hs) hQ _ li a w hD (freeZ_spec hi hmem hf) hr' hy (fun _ => hw)
      (wpZ_pre hs hQ hw r _ _ (fun p hp => hx p (.tail _ hp)) (hD.set hr') hB' h2 hK)

def NoPanic (Q : Exit → Act → World → Prop) : Exit → Act → World → Prop := fun e a w => match e with
  | .panic _ => False
  | e => Q e a w
theorem wpOp_np {i : Nat} {K : Act → World → Prop} {a : Act} {w : World} (h : wpOp P ops (NoPanic Q) i K a w) : wpOp P ops Q i K a w := by
  have hp : ∀ e a w, e ≠ .normal → NoPanic Q e a w → Q e a w := fun e a w _ h => by
    cases e <;> first | exact h | exact h.elim
  unfold wpOp at *
  split
  · rename_i ho; simp only [ho] at h; exact h
  · rename_i o ho
    simp only [ho] at h
    split
    · rename_i hw
      rw [if_pos hw] at h
      rcases h with h | ⟨h, a', w', hq⟩
      · refine .inl ?_
        unfold Oper.wp at h ⊢
        exact upon_Q hp h
      · exact .inr ⟨h, a', w', hq⟩
    · rename_i hw
      rw [if_neg hw] at h
      exact h
theorem wpAny_np : ∀ (f : Nat) (li : Array Bool) (a : Act) (w : World), wpAny P .any ops (NoPanic Q) f li a w → wpAny P .any ops Q f li a w
  | 0, _, _, _, h => h
  | f + 1, li, a, w, h => ⟨h.1, fun i hi => wpOp_np (wpOp_mono (fun a' w' h' => wpAny_np f _ a' w' h') (h.2 i hi))⟩
end

/-- the pure operations that wait for none of the others, and the others -/
inductive ZSplit : Nat → List Nat → List Oper → List (Nat × Oper) → List (Nat × Oper) → Prop where
  | nil {k : Nat} {tl : List Nat} : ZSplit k tl [] [] []
  | pure {k : Nat} {tl : List Nat} {o : Oper} {r : List Oper} {x y : List (Nat × Oper)} (hp : (pureB o && o.after.toList.all fun e => tl.all fun t => !Nat.beq t e.on) = true) (h : ZSplit (k + 1) tl r x y) : ZSplit k tl (o :: r) ((k, o) :: x) y
  | tail {k : Nat} {tl : List Nat} {o : Oper} {r : List Oper} {x y : List (Nat × Oper)} (h : ZSplit (k + 1) (k :: tl) r x y) : ZSplit k tl (o :: r) x ((k, o) :: y)
theorem ZSplit.spec {k : Nat} {tl : List Nat} {l : List Oper} {x y : List (Nat × Oper)} (h : ZSplit k tl l x y) : (∀ p ∈ x, k ≤ p.1 ∧ l[p.1 - k]? = some p.2 ∧ pureB p.2 = true) ∧ (∀ p ∈ y, k ≤ p.1 ∧ l[p.1 - k]? = some p.2) ∧ x.length + y.length = l.length := by
  induction h with
  | nil => simp
  | @pure k tl o r x y hp h ih =>
    simp only [Bool.and_eq_true] at hp
    refine ⟨fun p hpm => ?_, fun p hpm => ?_, by simp only [List.length_cons]; omega⟩
    · rcases List.mem_cons.1 hpm with rfl | hpm
      · exact ⟨Nat.le_refl _, by simp, hp.1⟩
      · obtain ⟨h1, h2, h3⟩ := ih.1 p hpm
        exact ⟨by omega, by rw [show p.1 - k = (p.1 - (k + 1)) + 1 by omega, List.getElem?_cons_succ]; exact h2, h3⟩
    · obtain ⟨h1, h2⟩ := ih.2.1 p hpm
      exact ⟨by omega, by rw [show p.1 - k = (p.1 - (k + 1)) + 1 by omega, List.getElem?_cons_succ]; exact h2⟩
  | @tail k tl o r x y h ih =>
    refine ⟨fun p hpm => ?_, fun p hpm => ?_, by simp only [List.length_cons]; omega⟩
    · obtain ⟨h1, h2, h3⟩ := ih.1 p hpm
      exact ⟨by omega, by rw [show p.1 - k = (p.1 - (k + 1)) + 1 by omega, List.getElem?_cons_succ]; exact h2, h3⟩
    · rcases List.mem_cons.1 hpm with rfl | hpm
      · exact ⟨Nat.le_refl _, by simp⟩
      · obtain ⟨h1, h2⟩ := ih.2.1 p hpm
        exact ⟨by omega, by rw [show p.1 - k = (p.1 - (k + 1)) + 1 by omega, List.getElem?_cons_succ]; exact h2⟩

structure ZL (P : Program) (n : Nat) (ops : Array Oper) (C0 : World → Prop) (K : Act → Prop) (rest : List (Nat × Oper)) (l : Env) : Prop where
  run : ∀ a, Sees n l a → wpZL P ops C0 K (rest.map (·.2)) a
structure TL (P : Program) (n : Nat) (ops : Array Oper) (C0 : World → Prop) (need : Nat → Bool) (Q : Exit → Act → World → Prop) (y : List (Nat × Oper)) (l : Env) (C : World → Prop) : Prop where
  run : ∀ a w, Sees n l a → C w → wpT P ops C0 need Q y a w
def TQ (P : Program) (ops : Array Oper) (C0 : World → Prop) (need : Nat → Bool) (k : Nat) (r : List (Nat × Oper)) (Q : Exit → Act → World → Prop) : Exit → Act → World → Prop := fun e a w => match e with
  | .normal => (need k = true → C0 w) ∧ wpT P ops C0 need Q r a w
  | e => Q e a w
def zB (ops : Array Oper) (xi yi : List Nat) : Bool := Region.noSelect ops && (preZ ops xi (Array.replicate ops.size false) && seqZ ops yi (runZ xi (Array.replicate ops.size false)))

section
variable {P : Program} {n : Nat} {l : Env} {C C0 : World → Prop} {ops : Array Oper} {Q : Exit → Act → World → Prop} {K : Act → Prop} {o : Oper} {k : Nat} {x y r : List (Nat × Oper)} {need : Nat → Bool}
theorem W.regz {id : Nat} {l0 : List Oper} (hs : ZSplit 0 [] l0 x y) (hm : P.follows .mixedOrders = true) (hB : zB l0.toArray (x.map (·.1)) (y.map (·.1)) = true) (hC : ∀ w, C w → C { w with drawn := w.drawn + 1 })
    (h : ZL P n l0.toArray C (fun a' => ∀ w', C w' → wpT P l0.toArray C (needZ l0.toArray (x.map (·.1))) (NoPanic Q) y a' w') x l) : W P n (.region id l0.toArray true) Q l C := ⟨fun a w hs' hc => by
  simp only [zB, Bool.and_eq_true] at hB
  obtain ⟨h1, h2, h3⟩ := hB
  obtain ⟨hx, hy, hlen⟩ := hs.spec
  refine wp_region_any hm (wpAny_np _ _ _ _ (wpAny_of_Z (C0 := C) (need := needZ l0.toArray (x.map (·.1))) _ _ _ _ ?_))
  have key := wpZ_pre (P := P) (ops := l0.toArray) (C0 := C) (Q := NoPanic Q) (xi0 := x.map (·.1)) (f := y.length) (w := { w with drawn := w.drawn + 1 }) h1 (fun _ _ _ h => h) (hC w hc) x (Array.replicate l0.toArray.size false) a
    (fun p hp => ⟨List.mem_map.2 ⟨p, hp, rfl⟩, by have := (hx p hp).2.1; simpa using this⟩) (fun j o _ hj => by rw [getD_rep] at hj; cases hj) h2 (h.run a hs')
    (fun a' hK => wpZ_seq y _ a' _ h3 (hK _ (hC w hc)))
  have e : x.length + y.length = l0.toArray.size := by simpa using hlen
  exact (congrArg (fun s => wpZ P l0.toArray C (needZ l0.toArray (x.map (·.1))) (NoPanic Q) s (Array.replicate l0.toArray.size false) a { w with drawn := w.drawn + 1 }) e).mp key⟩
theorem ZL.nil (h : TL P n ops C0 need Q y l C0) : ZL P n ops C0 (fun a' => ∀ w', C0 w' → wpT P ops C0 need Q y a' w') [] l := ⟨fun a hs w hc => h.run a w hs hc⟩
theorem ZL.step {d : Nat} {c : Bool} {v : Value} (hp : pureB o = true) (hg : Guard l ops o.guard c) (hd : o.dst = some d) (hn : Nat.ble (d + 1) n = true) (hv : Pev P n l (fun w => depB o = true → C0 w) o c v)
    (kk : ZL P n ops C0 K r ((d, c, v) :: l)) : ZL P n ops C0 K ((k, o) :: r) l := by
  have hn' := Nat.le_of_ble_eq_true hn
  refine ⟨fun a hs => ?_⟩
  show wpZL P ops C0 K (o :: r.map (·.2)) a
  unfold wpZL
  rw [hg.wanted hs]
  cases c with
  | true => exact ⟨v, fun w hw => still_of hp (hv.run rfl a w hs hw), by rw [hd]; exact kk.run _ (hs.put hn' true v)⟩
  | false => rw [hd]; exact kk.run _ (hs.put hn' false v)
theorem ZL.op {d : Nat} {c : Bool} {v : Value} (hb : (pureB o && !depB o) = true) (hg : Guard l ops o.guard c) (hd : o.dst = some d) (hn : Nat.ble (d + 1) n = true) (hv : Pev P n l (fun _ => True) o c v)
    (kk : ZL P n ops C0 K r ((d, c, v) :: l)) : ZL P n ops C0 K ((k, o) :: r) l := by
  simp only [Bool.and_eq_true, Bool.not_eq_true'] at hb
  exact ZL.step hb.1 hg hd hn ⟨fun hc a w hs hw => by
    have := hv.run hc a w hs trivial
    rw [still_of hb.1 this]; exact ⟨rfl, rfl⟩⟩ kk
theorem ZL.ld {d : Nat} {c : Bool} {v : Value} (hb : (pureB o && depB o) = true) (hg : Guard l ops o.guard c) (hd : o.dst = some d) (hn : Nat.ble (d + 1) n = true) (hv : Pev P n l C0 o c v)
    (kk : ZL P n ops C0 K r ((d, c, v) :: l)) : ZL P n ops C0 K ((k, o) :: r) l := by
  simp only [Bool.and_eq_true] at hb
  exact ZL.step hb.1 hg hd hn ⟨fun hc a w hs hw => by
    have := hv.run hc a w hs (hw hb.2)
    rw [still_of hb.1 this]; exact ⟨rfl, rfl⟩⟩ kk
theorem TL.nil (h : At n Q .normal l C) : TL P n ops C0 need Q [] l C := ⟨fun a w hs hc => h.run a w hs hc⟩
theorem TL.one (hi : ops[k]? = some o) (h : OL P n ops (TQ P ops C0 need k r Q) [o] l C) : TL P n ops C0 need Q ((k, o) :: r) l C := ⟨fun a w hs hc => by
  have hp : ∀ ex a w, ex ≠ .normal → TQ P ops C0 need k r Q ex a w → Q ex a w := fun ex a w hne h => by
    cases ex <;> first | exact h | exact absurd rfl hne
  have h := h.run a w hs hc
  show wpOp P ops Q k _ a w
  unfold wpOp
  simp only [hi]
  unfold wpList at h
  split
  · rename_i hw
    rw [if_pos hw] at h
    rcases h with h | ⟨h, a', w', hq⟩
    · refine .inl ?_
      unfold Oper.wp at h ⊢
      exact upon_Q hp h
    · exact .inr ⟨h, a', w', hp _ _ _ (by simp) hq⟩
  · rename_i hw
    rw [if_neg hw] at h
    exact h⟩
theorem At.tn (hk : need k = false) (h : TL P n ops C0 need Q r l C) : At n (TQ P ops C0 need k r Q) .normal l C := ⟨fun a w hs hc => ⟨fun h' => (by rw [hk] at h'; cases h'), h.run a w hs hc⟩⟩
theorem At.tk (hk : ∀ w, C w → C0 w) (h : TL P n ops C0 need Q r l C) : At n (TQ P ops C0 need k r Q) .normal l C := ⟨fun a w hs hc => ⟨fun _ => hk w hc, h.run a w hs hc⟩⟩
theorem At.np (h : At n Q .normal l C) : At n (NoPanic Q) .normal l C := ⟨h.run⟩
end

/-! a guard that is known, among the quiet operations -/
section
variable {P : Program} {n : Nat} {l : Env} {C : World → Prop} {c : Bool} {d : Option Nat} {op : Op} {ty : TypeId} {pos : String} {af : Array Edge} {g : Option (Nat × Bool)} {ops : Array Oper} {K : Act → Prop} {rest : List Oper}
theorem QL.gateOff {dd : Nat} (hg : Guard l ops g c) (hc : c = false) (hn : Nat.ble (dd + 1) n = true) (h : QL P n ops C K rest ((dd, false, undef) :: l)) : QL P n ops C K (⟨some dd, op, ty, pos, af, g⟩ :: rest) l := by
  have hn' := Nat.le_of_ble_eq_true hn
  refine ⟨fun a hs => ?_⟩
  unfold wpQuiet
  rw [hg.wanted hs]
  subst hc
  exact h.run _ (hs.put hn' false undef)
end
end Go.Eng

/- The walks of core's between, flatOnly, coreOnly, alts, with slices.ContainsFunc at alternatives. Conditions: none. -/
namespace Go.Co
open Go.Eng Go.RowKit
set_option linter.unusedVariables false
set_option linter.unusedSimpArgs false
def idxA (f : Al → Bool) : List (Al × Sc) → Nat → Int
  | [], _ => -1
  | p :: r, i => if f p.1 then (i : Int) else idxA f r (i + 1)
theorem idxA_drop {f : Al → Bool} {ps : List (Al × Sc)} {i : Nat} {p : Al × Sc} (h : ps[i]? = some p) : idxA f (ps.drop i) i = if f p.1 then (i : Int) else idxA f (ps.drop (i + 1)) (i + 1) := by
  obtain ⟨h1, rfl⟩ := List.getElem?_eq_some_iff.1 h
  rw [List.drop_eq_getElem_cons h1, idxA]
theorem idxA_any (f : Al → Bool) : ∀ (ps : List (Al × Sc)) (i : Nat), decide (0 ≤ idxA f ps i) = ps.any fun p => f p.1
  | [], i => rfl
  | p :: r, i => by
    rw [idxA, List.any_cons]
    split
    · rename_i h
      rw [h, Bool.true_or]
      simp
    · rename_i h
      rw [idxA_any f r (i + 1), Bool.eq_false_iff.2 h, Bool.false_or]
theorem all_range {n : Nat} {f : Nat → Bool} (h : ∀ i, i < n → f i = true) : (List.range n).all f = true := by
  rw [List.all_eq_true]
  intro i hi
  exact h i (List.mem_range.1 hi)
theorem not_all_range {n i : Nat} {f : Nat → Bool} (hi : i < n) (h : f i = false) : (List.range n).all f = false := by
  rw [List.all_eq_false]
  exact ⟨i, List.mem_range.2 hi, by simp [h]⟩
end Go.Co
namespace Go.Proofs.YtlboppiogeaicaaDoor.co
open Go.RowKit Go.Eng Go.Co
set_option linter.unusedVariables false
set_option linter.unusedSimpArgs false
set_option maxRecDepth 100000
theorem between_calls (n lo hi : Int) (w : World) : Calls Tryd.prog 125 [.int .i64 n, .int .i64 lo, .int .i64 hi].toArray w fun e w' => e = .returned (.bool (decide (lo ≤ n) && decide (n ≤ hi))) ∧ Ext w w' := by
  refine enter Tryd.func125 rfl Tryd.ntmps125 rfl (Cls.start w) ?_
  (simp only [argEnv, Nat.zero_add, Nat.reduceAdd])
  apply W.sr
  apply oas; rfl; rfl
  apply OL.nsr
  apply omv; rfl; rfl
  apply omv; rfl; rfl
  apply obn; rfl; rfl; rfl; apply Bin.geq
  apply omv; rfl; rfl
  apply oy; rfl; rfl; rfl; apply Pev.move; rfl; exact yes
  apply oy; rfl; rfl; rfl; apply Pev.move; rfl; exact yes
  apply oy; rfl; rfl; rfl; apply Pev.bin; rfl; exact fun h => h; rfl; exact fun h => h; intro hcond; apply Bin.leq
  apply oop; rfl; apply Pev.pick_and; rfl; exact yes; rfl; exact fun h => h
  apply oas; rfl; rfl
  apply OL.nx
  apply W.ret
  ((with_reducible apply At.fin1); rfl; rfl; intro w' hw')
  exact ⟨by simp, by (exact hw'.fr)⟩
theorem flatOnly_calls (op : Int) (w : World) : Calls Tryd.prog 66 [.int .i64 op].toArray w fun e w' => e = .returned (.bool (decide (op = 14) || decide (op = 15) || decide (op = 16))) ∧ Ext w w' := by
  refine enter Tryd.func66 rfl Tryd.ntmps66 rfl (Cls.start w) ?_
  (simp only [argEnv, Nat.zero_add, Nat.reduceAdd])
  apply W.sr
  apply oas; rfl; rfl
  apply OL.nsr
  apply omv; rfl; rfl
  apply obn; rfl; rfl; rfl; apply Bin.eql
  apply omv; rfl; rfl
  apply ono; rfl; rfl; rfl; apply Pev.move; rfl; exact yes
  apply ono; rfl; rfl; rfl; apply Pev.bin; rfl; exact fun h => h; rfl; exact yes; intro hcond; apply Bin.eql
  apply oop; rfl; apply Pev.pick_or; rfl; exact yes; rfl; exact fun h => h
  apply omv; rfl; rfl
  apply ono; rfl; rfl; rfl; apply Pev.move; rfl; exact yes
  apply ono; rfl; rfl; rfl; apply Pev.bin; rfl; exact fun h => h; rfl; exact yes; intro hcond; apply Bin.eql
  apply oop; rfl; apply Pev.pick_or; rfl; exact yes; rfl; exact fun h => h
  apply oas; rfl; rfl
  apply OL.nx
  apply W.ret
  ((with_reducible apply At.fin1); rfl; rfl; intro w' hw')
  exact ⟨by simp, by (exact hw'.fr)⟩
theorem coreOnly_calls (op : Int) (w : World) : Calls Tryd.prog 65 [.int .i64 op].toArray w fun e w' => e = .returned (.bool (decide (op = 2) || decide (op = 5) || decide (op = 12) || decide (op = 13))) ∧ Ext w w' := by
  refine enter Tryd.func65 rfl Tryd.ntmps65 rfl (Cls.start w) ?_
  (simp only [argEnv, Nat.zero_add, Nat.reduceAdd])
  apply W.sr
  apply oas; rfl; rfl
  apply OL.nsr
  apply omv; rfl; rfl
  apply obn; rfl; rfl; rfl; apply Bin.eql
  apply omv; rfl; rfl
  apply ono; rfl; rfl; rfl; apply Pev.move; rfl; exact yes
  apply ono; rfl; rfl; rfl; apply Pev.bin; rfl; exact fun h => h; rfl; exact yes; intro hcond; apply Bin.eql
  apply oop; rfl; apply Pev.pick_or; rfl; exact yes; rfl; exact fun h => h
  apply omv; rfl; rfl
  apply ono; rfl; rfl; rfl; apply Pev.move; rfl; exact yes
  apply ono; rfl; rfl; rfl; apply Pev.bin; rfl; exact fun h => h; rfl; exact yes; intro hcond; apply Bin.eql
  apply oop; rfl; apply Pev.pick_or; rfl; exact yes; rfl; exact fun h => h
  apply omv; rfl; rfl
  apply ono; rfl; rfl; rfl; apply Pev.move; rfl; exact yes
  apply ono; rfl; rfl; rfl; apply Pev.bin; rfl; exact fun h => h; rfl; exact yes; intro hcond; apply Bin.eql
  apply oop; rfl; apply Pev.pick_or; rfl; exact yes; rfl; exact fun h => h
  apply oas; rfl; rfl
  apply OL.nx
  apply W.ret
  ((with_reducible apply At.fin1); rfl; rfl; intro w' hw')
  exact ⟨by simp, by (exact hw'.fr)⟩
theorem AIndexFunc_calls (q : Option Addr) (cap : Nat) (ps : List (Al × Sc)) (f : FuncId) (first caps : List Value) (p : Al → Bool) (w : World) (hlen : ps.length ≤ 9223372036854775807) (h : Arr altR_ w (low w) ps q)
    (hf : callable Tryd.prog f = true) (hp : ∀ s ∈ ps, ∀ w', Ext w w' → Calls Tryd.prog f (first ++ [Value.agg (altC s.1 s.2).toArray] ++ caps).toArray w' fun e w'' => e = .returned (.bool (p s.1)) ∧ Ext w' w'') :
    Calls Tryd.prog 147 #[.slice q ps.length cap, .func (.func f) first.toArray caps.toArray] w fun e w' => e = .returned (.int .i64 (idxA p ps 0)) ∧ Ext w w' := by
  refine enter Tryd.func147 rfl Tryd.ntmps147 rfl (Cls.start w) ?_
  (simp only [argEnv, Nat.zero_add, Nat.reduceAdd])
  apply W.sr
  apply oas; rfl; rfl
  apply OL.nx
  apply W.seq
  apply W.sr
  apply omv; rfl; rfl
  apply oop; rfl; apply Pev.len_slice; rfl; exact yes; rfl
  apply omv; rfl; rfl
  apply OL.nx
  apply W.block
  refine W.loop (G := Nat) (fun i => i ≤ ps.length ∧ idxA p (ps.drop i) i = idxA p ps 0) (fun i => ps.length - i)
    (fun i => [(8, true, .int .i64 (i : Int)), (7, true, .int .i64 (ps.length : Int)), (0, true, .slice q ps.length cap), (1, true, .func (.func f) first.toArray caps.toArray)])
    (fun i => Cls [] [w]) 0 ⟨by omega, rfl⟩ (by exact Sub.au) (fun w' hw' => hw') ?_
  rintro i ⟨hi, hrest⟩
  apply W.sr
  apply obn; rfl; rfl; rfl; apply Bin.lss
  apply OL.nx
  apply W.seq
  (refine W.cnd (fun hlt => ?_) (fun hlt => ?_)) <;> (try (exfalso; first | omega | exact hlt trivial | contradiction))
  · obtain ⟨a, u, rfl, hab, hu, hcell, hok⟩ := h.get (show i < ps.length by omega)
    have hab : a.block < w.heap.size := hab
    have hcell : CellsAt w (a.add (i * 2)) [.int .i64 u.1.tag, .slice u.2.1 u.1.binds.length u.2.2] := hcell
    have hpu := fun w3 => hp u (List.mem_of_getElem? hu) w3
    simp only [altC] at hpu
    rw [idxA_drop hu] at hrest
    apply W.sk
    apply W.sb
    apply W.sr
    apply omv; rfl; rfl
    apply oas; rfl; rfl
    apply OL.nsr
    apply omv; rfl; rfl
    apply omv; rfl; rfl
    apply omv; rfl; rfl
    apply oop; rfl; apply Pev.idx; rfl; exact yes; rfl; exact yes; rfl; rfl; intro hcond; omega
    apply oop; rfl; apply Pev.load_keptA; rfl; exact yes; exact .head _; rfl; intro hcond; assumption; rfl; intro hcond; (rw [add_block]; assumption); intro hcond; exact NotOwned.au
    (((first | (with_reducible apply OL.op) | (with_reducible apply QL.op)); (exact Guard.au); rfl; rfl); (apply Pev.callv (first := first) (cap := caps)); rfl; ((first | exact fun _ => rfl | exact fun h => h | (intro h; simp_all; done))); (exact hf); (exact Args.au); (exact (fun _ w2 hw2 => (hpu w2 (hw2.toExt (by exact mau) (fun k hk => by exact NotOwned.au))).mono (fun e w3 h => ⟨h.1, hw2.ext h.2⟩))))
    apply OL.nx
    refine W.cond rfl (fun heq => ?_) (fun heq => ?_)
    · rw [if_pos heq] at hrest
      apply W.sr
      apply omv; rfl; rfl
      apply oas; rfl; rfl
      apply OL.nx
      refine W.rt ?_
      ((with_reducible apply At.fin1); rfl; rfl; intro w' hw')
      exact ⟨by rw [hrest], by (exact hw'.fr)⟩
    · rw [if_neg (by simpa using heq)] at hrest
      apply W.skip
      with_reducible apply At.in_normal
      with_reducible apply At.next
      apply W.reg
      apply obn; rfl; rfl; rfl; apply Bin.add_in; omega
      apply omv; rfl; rfl
      apply OL.nil
      exact At.again (i + 1) ⟨by omega, hrest⟩ (by omega) (by exact Sub.au) (fun w' hw' => hw'.thin (by exact Thin.au))
  · rw [List.drop_eq_nil_of_le (by omega), idxA] at hrest
    refine W.xt ?_
    with_reducible apply At.next
    apply W.sr
    apply oas; rfl; rfl
    apply OL.nx
    apply W.ret
    ((with_reducible apply At.fin1); rfl; rfl; intro w' hw')
    exact ⟨by rw [← hrest], by (exact hw'.fr)⟩
theorem AContainsFunc_calls (q : Option Addr) (cap : Nat) (ps : List (Al × Sc)) (f : FuncId) (first caps : List Value) (p : Al → Bool) (w : World) (hlen : ps.length ≤ 9223372036854775807) (h : Arr altR_ w (low w) ps q)
    (hf : callable Tryd.prog f = true) (hp : ∀ s ∈ ps, ∀ w', Ext w w' → Calls Tryd.prog f (first ++ [Value.agg (altC s.1 s.2).toArray] ++ caps).toArray w' fun e w'' => e = .returned (.bool (p s.1)) ∧ Ext w' w'') :
    Calls Tryd.prog 141 #[.slice q ps.length cap, .func (.func f) first.toArray caps.toArray] w fun e w' => e = .returned (.bool (ps.any fun x => p x.1)) ∧ Ext w w' := by
  refine enter Tryd.func141 rfl Tryd.ntmps141 rfl (Cls.start w) ?_
  (simp only [argEnv, Nat.zero_add, Nat.reduceAdd])
  apply W.sr
  apply oas; rfl; rfl
  apply OL.nsr
  apply omv; rfl; rfl
  apply omv; rfl; rfl
  (((first | (with_reducible apply OL.op) | (with_reducible apply QL.op)); (exact Guard.au); rfl; rfl); (exact Pev.call rfl (by exact Args.au) (fun _ w2 hw2 => (AIndexFunc_calls q cap ps f first caps p w2 hlen (h.at hw2 (by exact mau) (fun k hk => by exact NotOwned.au)) hf (fun s hs w3 h3 => hp s hs w3 ((hw2.toExt (s := w) (by exact mau) (fun k hk => by exact NotOwned.au)).trans h3))).mono (fun e w3 h => ⟨h.1, hw2.ext h.2⟩))))
  apply obn; rfl; rfl; rfl; apply Bin.geq
  apply oas; rfl; rfl
  apply OL.nx
  apply W.ret
  ((with_reducible apply At.fin1); rfl; rfl; intro w' hw')
  exact ⟨by rw [← idxA_any p ps 0], by (exact hw'.fr)⟩
theorem alit_calls (a : Al) (y : Sc) (b : Nat) (tag : Int) (w : World) (hc : w.cell? ⟨b, 0, none⟩ = some (.int .i64 tag)) (hb : b < w.heap.size) :
    Calls Tryd.prog 142 [.agg (altC a y).toArray, .pointer (some ⟨b, 0, none⟩)].toArray w fun e w' => e = .returned (.bool (decide (a.tag = tag))) ∧ Ext w w' := by
  refine enter Tryd.func142 rfl Tryd.ntmps142 rfl (Cls.start w) ?_
  (simp only [argEnv, Nat.zero_add, Nat.reduceAdd])
  simp only [altC]
  apply W.sr
  apply OL.box; rfl; rfl; exact CellsL.agg; (intro bk hbk; simp only [AllLe, and_true] at hbk)
  apply oas; rfl; rfl
  apply OL.nsr
  apply ofa; rfl; rfl; rfl
  apply old; rfl; rfl; exact .head _; rfl; rfl
  apply ofa; rfl; rfl; rfl
  apply oop; rfl; apply Pev.load_kept; rfl; exact yes; exact .head _; rfl; intro hcond; assumption; intro hcond; assumption; intro hcond; exact NotOwned.au
  apply obn; rfl; rfl; rfl; apply Bin.eql
  apply oas; rfl; rfl
  apply OL.nx
  apply W.ret
  ((with_reducible apply At.fin1); rfl; rfl; intro w' hw')
  exact ⟨rfl, by (exact hw'.fr)⟩
theorem alts_calls (x : Ex) (y : ExY) (w : World) (h : ExOk w (low w) x y) :
    Calls Tryd.prog 124 [.agg (exC x y).toArray].toArray w fun e w' => e = .returned (.bool (altsB x)) ∧ Ext w w' := by
  obtain ⟨ps, hps, harr⟩ := h.alts
  have hpl : x.alts.length = ps.length := by rw [← hps, List.length_map]
  have hal := h.al
  have hkl := h.kl
  have hac := h.ac
  refine enter Tryd.func124 rfl Tryd.ntmps124 rfl (Cls.start w) ?_
  (simp only [argEnv, Nat.zero_add, Nat.reduceAdd])
  simp only [exC]
  apply W.sr
  apply OL.box; rfl; rfl; exact CellsL.agg; (intro bk hbk; simp only [AllLe, and_true] at hbk)
  apply oas; rfl; rfl
  apply OL.nx
  apply W.seq
  apply W.sr
  apply ofa; rfl; rfl; rfl
  apply old; rfl; rfl; exact .head _; rfl; rfl
  apply oop; rfl; apply Pev.len_slice; rfl; exact yes; rfl
  apply omv; rfl; rfl
  apply OL.nx
  apply W.block
  rw [hpl]
  refine W.loop (G := Nat) (fun i => i ≤ ps.length ∧ ∀ j, j < i → altOk x j (x.alts.getD j ⟨0, []⟩) = true) (fun i => ps.length - i)
    (fun i => [(1, true, .pointer (some ⟨bk, 0, none⟩)), (7, true, .slice y.a.1 ps.length y.a.2), (8, true, .int .i64 (ps.length : Int)), (9, true, .int .i64 (i : Int))])
    (fun i => Cls [blk bk 28 [.int .i64 x.op, .int .i64 x.n, .slice y.b.1 x.binds.length y.b.2, .slice y.k.1 x.kids.length y.k.2, .slice y.a.1 ps.length y.a.2]] [w]) 0 ⟨by omega, fun j hj => by omega⟩ (by exact Sub.au) (fun w' hw' => by first | exact hw' | (rw [hpl] at hw'; exact hw')) ?_
  rintro i ⟨hi, hall⟩
  apply W.sr
  apply obn; rfl; rfl; rfl; apply Bin.lss
  apply OL.nx
  apply W.seq
  (refine W.cnd (fun hlt => ?_) (fun hlt => ?_)) <;> (try (exfalso; first | omega | exact hlt trivial | contradiction))
  · have hil : i < ps.length := by omega
    obtain ⟨a, u, hq, hab, hu, hcell, hok⟩ := harr.get hil
    have hab : a.block < w.heap.size := hab
    have hcell : CellsAt w (a.add (i * 2)) [.int .i64 u.1.tag, .slice u.2.1 u.1.binds.length u.2.2] := hcell
    have hu2 : x.alts.getD i ⟨0, []⟩ = u.1 := by
      have : x.alts[i]? = some u.1 := by rw [← hps, List.getElem?_map, hu]; rfl
      simp [List.getD, this]
    have hbl := hok.2.1
    rw [hq]
    apply W.sk
    apply W.sb
    apply W.sr
    apply omv; rfl; rfl
    apply oop; rfl; apply Pev.idx; rfl; exact yes; rfl; exact yes; rfl; rfl; intro hcond; omega
    apply oop; rfl; apply Pev.load_keptA; rfl; exact yes; exact .head _; rfl; intro hcond; assumption; rfl; intro hcond; (rw [add_block]; assumption); intro hcond; exact NotOwned.au
    apply OL.alloc; rfl; rfl; exact CellsL.agg; (intro bk hbk; simp only [AllLe, and_true] at hbk)
    apply oas; rfl; rfl
    apply OL.storeB; rfl; rfl; exact CellsL.agg; rfl; rfl; rfl; exact Swap.au; exact Put.au
    apply OL.nsr
    apply ofa; rfl; rfl; rfl
    apply old; rfl; rfl; exact .tail _ (.head _); rfl; rfl
    apply omv; rfl; rfl
    apply oop; rfl; apply Pev.slice_hi; rfl; exact yes; rfl; exact yes; rfl; rfl; intro hcond; omega
    apply oop; rfl; apply Pev.makeFunc; exact Args.au; exact Args.au
    rename_i b0 hb0
    have hlT : (ps.take i).length = i := by simp; omega
    have hany : (ps.take i).any (fun z => decide (z.1.tag = u.1.tag)) = (x.alts.take i).any (fun b => decide (b.tag = u.1.tag)) := by
      rw [← hps, ← List.map_take, List.any_map]
      rfl
    (((first | (with_reducible apply OL.op) | (with_reducible apply QL.op)); (exact Guard.au); rfl; rfl); (refine Pev.call (v := .bool ((ps.take i).any (fun z => decide (z.1.tag = u.1.tag)))) (vs := [.slice (some a) i y.a.2, .func (.func 142) ([] : List Value).toArray [Value.pointer (some ⟨bk, 0, none⟩)].toArray]) rfl (by exact Args.au) (fun _ w2 hw2 => ?_)))
    · have hb : (blk bk 132 [.int .i64 u.1.tag, .slice u.2.1 u.1.binds.length u.2.2]).holds w2 := hw2.item (.head _)
      have hlt := hw2.lt _ (.head _) bk rfl
      have hc := AContainsFunc_calls (some a) y.a.2 (ps.take i) 142 [] [.pointer (some ⟨bk, 0, none⟩)] (fun z => decide (z.tag = u.1.tag)) w2 (by omega) ((hq ▸ harr.take i).at hw2 (by exact mau) (fun k hk => by exact NotOwned.au)) rfl (fun s hs w3 h3 => alit_calls s.1 s.2 bk u.1.tag w3 (by rw [cell_heap (w := w2) (h3.block bk hlt id), blk_cell hb]; rfl) (Nat.lt_of_lt_of_le hlt h3.size))
      rw [hlT] at hc
      exact hc.mono (fun e w3 h => ⟨h.1, hw2.ext h.2⟩)
    rw [hany]
    have hbad : altOk x i u.1 = false → altsB x = false := fun hf => by
      unfold altsB altsOk
      rw [not_all_range (i := i) (by omega) (by rw [hu2]; exact hf)]
      rfl
    have hoki : altOk x i u.1 = (!((x.alts.take i).any fun b => decide (b.tag = u.1.tag)) && decide (-1 ≤ u.1.tag) && !(decide (x.op = 7) && decide (u.1.tag = -1) && (decide (i + 1 < x.alts.length) || decide (0 < u.1.binds.length)))
      && !(decide (x.op = 13) && !(decide (i = 0) == decide (u.1.tag = -1))) && !(decide (x.op = 13) && !decide (u.1.binds.length = min (i + 1) 2))) := rfl
    generalize (x.alts.take i).any (fun b => decide (b.tag = u.1.tag)) = again at hoki
    rw [hpl] at hoki
    apply oas; rfl; rfl
    apply OL.nx
    apply W.block
    apply W.sr
    apply omv; rfl; rfl
    apply omv; rfl; rfl
    apply ono; rfl; rfl; rfl; apply Pev.fld; rfl; exact yes; rfl
    apply ono; rfl; rfl; rfl; apply Pev.load_blk; rfl; exact fun h => h; exact .head _; rfl; rfl
    apply ono; rfl; rfl; rfl; apply Pev.bin; rfl; exact fun h => h; rfl; exact yes; intro hcond; apply Bin.lss
    apply oop; rfl; apply Pev.pick_or; rfl; exact yes; rfl; exact fun h => h
    apply oas; rfl; rfl
    apply OL.nx
    refine W.cond rfl (fun hb => ?_) (fun hb => ?_)
    · apply W.sr
      apply oas; rfl; rfl
      apply OL.nx
      refine W.rt ?_
      ((with_reducible apply At.fin1); rfl; rfl; intro w' hw')
      refine ⟨by rw [hbad (by rw [hoki]; cases again <;> simp at hb ⊢; omega)], by (exact hw'.fr)⟩
    have hag : again = false := by cases again <;> simp at hb ⊢
    subst hag
    simp only [Bool.false_or, decide_eq_false_iff_not, Int.not_lt] at hb
    apply W.sr
    apply ofa; rfl; rfl; rfl
    apply old; rfl; rfl; exact .tail _ (.head _); rfl; rfl
    apply obn; rfl; rfl; rfl; apply Bin.eql
    apply omv; rfl; rfl
    apply oy; rfl; rfl; rfl; apply Pev.fld; rfl; exact yes; rfl
    apply oy; rfl; rfl; rfl; apply Pev.load_blk; rfl; exact fun h => h; exact .head _; rfl; rfl
    apply oy; rfl; rfl; rfl; apply Pev.bin; rfl; exact fun h => h; rfl; exact yes; intro hcond; apply Bin.eql
    apply oop; rfl; apply Pev.pick_and; rfl; exact yes; rfl; exact fun h => h
    apply omv; rfl; rfl
    apply oy; rfl; rfl; rfl; apply Pev.move; rfl; exact yes
    apply oy; rfl; rfl; rfl; apply Pev.fld; rfl; exact yes; rfl
    apply oy; rfl; rfl; rfl; apply Pev.load_blk; rfl; exact fun h => h; exact .tail _ (.head _); rfl; rfl
    apply oy; rfl; rfl; rfl; apply Pev.len_slice; rfl; exact fun h => h; rfl
    apply oy; rfl; rfl; rfl; apply Pev.bin; rfl; exact fun h => h; rfl; exact yes; intro hcond; apply Bin.sub_in; omega
    apply oy; rfl; rfl; rfl; apply Pev.bin; rfl; exact fun h => h; rfl; exact fun h => h; intro hcond; apply Bin.lss
    apply oy; rfl; rfl; rfl; apply Pev.move; rfl; exact fun h => h
    apply OL.op; exact Guard.cno rfl rfl; rfl; rfl; apply Pev.fld; rfl; exact yes; rfl
    apply OL.op; exact Guard.cno rfl rfl; rfl; rfl; apply Pev.load_blk; rfl; exact fun h => h; exact .head _; rfl; rfl
    apply OL.op; exact Guard.cno rfl rfl; rfl; rfl; apply Pev.len_slice; rfl; exact fun h => h; rfl
    apply OL.op; exact Guard.cno rfl rfl; rfl; rfl; apply Pev.bin; rfl; exact fun h => h; rfl; exact yes; intro hcond; apply Bin.gtr
    apply oy; rfl; rfl; rfl; apply Pev.pick_or; rfl; exact fun h => h; rfl; exact fun h => h
    apply oop; rfl; apply Pev.pick_and; rfl; exact yes; rfl; exact fun h => h
    apply oas; rfl; rfl
    apply OL.nx
    refine W.cond rfl (fun hb2 => ?_) (fun hb2 => ?_)
    · apply W.sr
      apply oas; rfl; rfl
      apply OL.nx
      refine W.rt ?_
      ((with_reducible apply At.fin1); rfl; rfl; intro w' hw')
      refine ⟨by rw [hbad (by rw [hoki]; simp at hb2; simp [hb2]; grind)], by (exact hw'.fr)⟩
    apply W.seq
    apply W.sr
    apply ofa; rfl; rfl; rfl
    apply old; rfl; rfl; exact .tail _ (.head _); rfl; rfl
    apply obn; rfl; rfl; rfl; apply Bin.eql
    apply omv; rfl; rfl
    apply oy; rfl; rfl; rfl; apply Pev.move; rfl; exact yes
    apply oy; rfl; rfl; rfl; apply Pev.bin; rfl; exact fun h => h; rfl; exact yes; intro hcond; apply Bin.eql
    apply oy; rfl; rfl; rfl; apply Pev.fld; rfl; exact yes; rfl
    apply oy; rfl; rfl; rfl; apply Pev.load_blk; rfl; exact fun h => h; exact .head _; rfl; rfl
    apply oy; rfl; rfl; rfl; apply Pev.bin; rfl; exact fun h => h; rfl; exact yes; intro hcond; apply Bin.eql
    apply oy; rfl; rfl; rfl; apply Pev.bin; rfl; exact fun h => h; rfl; exact fun h => h; intro hcond; apply Bin.bool_neq; rfl
    apply oop; rfl; apply Pev.pick_and; rfl; exact yes; rfl; exact fun h => h
    apply oas; rfl; rfl
    apply OL.nx
    refine W.cond rfl (fun hb3 => ?_) (fun hb3 => ?_)
    · apply W.sk
      refine W.cond rfl (fun _ => ?_) (fun hb4 => by rw [hb3] at hb4; cases hb4)
      apply W.sr
      apply oas; rfl; rfl
      apply OL.nx
      refine W.rt ?_
      ((with_reducible apply At.fin1); rfl; rfl; intro w' hw')
      refine ⟨by rw [hbad (by rw [hoki]; grind)], by (exact hw'.fr)⟩
    apply W.reg
    apply ofa; rfl; rfl; rfl
    apply old; rfl; rfl; exact .tail _ (.head _); rfl; rfl
    apply obn; rfl; rfl; rfl; apply Bin.eql
    apply omv; rfl; rfl
    apply oy; rfl; rfl; rfl; apply Pev.fld; rfl; exact yes; rfl
    apply oy; rfl; rfl; rfl; apply Pev.load_blk; rfl; exact fun h => h; exact .head _; rfl; rfl
    apply oy; rfl; rfl; rfl; apply Pev.len_slice; rfl; exact fun h => h; rfl
    apply oy; rfl; rfl; rfl; apply Pev.move; rfl; exact yes
    apply oy; rfl; rfl; rfl; apply Pev.bin; rfl; exact fun h => h; rfl; exact yes; intro hcond; apply Bin.add_in; omega
    apply oy; rfl; rfl; rfl; apply Pev.min2; rfl; exact fun h => h; rfl; exact yes
    apply oy; rfl; rfl; rfl; apply Pev.bin; rfl; exact fun h => h; rfl; exact fun h => h; intro hcond; apply Bin.neq
    apply oop; rfl; apply Pev.pick_and; rfl; exact yes; rfl; exact fun h => h
    apply oas; rfl; rfl
    apply OL.nx
    refine W.cond rfl (fun hb4 => ?_) (fun hb4 => ?_)
    · apply W.sr
      apply oas; rfl; rfl
      apply OL.nx
      refine W.rt ?_
      ((with_reducible apply At.fin1); rfl; rfl; intro w' hw')
      refine ⟨by rw [hbad (by rw [hoki]; grind)], by (exact hw'.fr)⟩
    apply W.skip
    with_reducible apply At.in_normal
    with_reducible apply At.in_normal
    with_reducible apply At.next
    apply W.reg
    apply obn; rfl; rfl; rfl; apply Bin.add_in; omega
    apply omv; rfl; rfl
    apply OL.nil
    refine At.again (i + 1) ⟨by omega, fun j hj => ?_⟩ (by omega) (by exact Sub.au) (fun w' hw' => hw'.thin (by exact Thin.au))
    by_cases e : j = i
    · subst e
      rw [hu2, hoki]
      grind
    · exact hall j (by omega)
  · obtain rfl : i = ps.length := by omega
    have hok : altsOk x = true := by
      unfold altsOk
      rw [hpl]
      exact all_range hall
    refine W.xt ?_
    with_reducible apply At.next
    apply W.sr
    apply ofa; rfl; rfl; rfl
    apply old; rfl; rfl; exact .head _; rfl; rfl
    apply oop; rfl; apply Pev.len_slice; rfl; exact yes; rfl
    apply ofa; rfl; rfl; rfl
    apply old; rfl; rfl; exact .head _; rfl; rfl
    apply oop; rfl; apply Pev.len_slice; rfl; exact yes; rfl
    apply obn; rfl; rfl; rfl; apply Bin.add_in; omega
    apply obn; rfl; rfl; rfl; apply Bin.eql
    apply omv; rfl; rfl
    apply oy; rfl; rfl; rfl; apply Pev.fld; rfl; exact yes; rfl
    apply oy; rfl; rfl; rfl; apply Pev.load_blk; rfl; exact fun h => h; exact .head _; rfl; rfl
    apply oy; rfl; rfl; rfl; apply Pev.bin; rfl; exact fun h => h; rfl; exact yes; intro hcond; apply Bin.eql
    apply oy; rfl; rfl; rfl; apply Pev.move; rfl; exact fun h => h
    apply OL.op; exact Guard.cno rfl rfl; rfl; rfl; apply Pev.fld; rfl; exact yes; rfl
    apply OL.op; exact Guard.cno rfl rfl; rfl; rfl; apply Pev.load_blk; rfl; exact fun h => h; exact .head _; rfl; rfl
    apply OL.op; exact Guard.cno rfl rfl; rfl; rfl; apply Pev.len_slice; rfl; exact fun h => h; rfl
    apply OL.op; exact Guard.cno rfl rfl; rfl; rfl; apply Pev.bin; rfl; exact fun h => h; rfl; exact yes; intro hcond; apply Bin.gtr
    apply oy; rfl; rfl; rfl; apply Pev.pick_or; rfl; exact fun h => h; rfl; exact fun h => h
    apply oop; rfl; apply Pev.pick_and; rfl; exact yes; rfl; exact fun h => h
    apply oas; rfl; rfl
    apply OL.nx
    apply W.ret
    ((with_reducible apply At.fin1); rfl; rfl; intro w' hw')
    refine ⟨congrArg (fun b => Ending.returned (Value.bool b)) ?_, by (exact hw'.fr)⟩
    unfold altsB
    rw [hok, hpl]
    grind
end Go.Proofs.YtlboppiogeaicaaDoor.co

/- The walks of core's shape and ranges. Conditions: none. (Printed by cob.py.) -/
namespace Go.Proofs.YtlboppiogeaicaaDoor.co
open Go.RowKit Go.Eng Go.Co
set_option linter.unusedVariables false
set_option linter.unusedSimpArgs false
set_option maxRecDepth 100000
/-- the table of the primitives' arities -/
def arityAt (w : World) : Prop := CellsAt w ⟨1, 0, none⟩ ([2, 2, 2, 2, 2, 2, 2, 1, 2, 1, 2, 3].map fun (z : Int) => Value.int .i64 z)
theorem arity_get {w : World} (h : arityAt w) {k : Int} (hk : 0 ≤ k ∧ k ≤ 11) : w.cell? ⟨1, 0 + k.toNat * 1, none⟩ = some (.int .i64 (primN k : Int)) := by
  have hv : (([2, 2, 2, 2, 2, 2, 2, 1, 2, 1, 2, 3] : List Int).map fun (z : Int) => Value.int .i64 z)[0 + k.toNat * 1]? = some (.int .i64 (primN k : Int)) := by
    have : k = 0 ∨ k = 1 ∨ k = 2 ∨ k = 3 ∨ k = 4 ∨ k = 5 ∨ k = 6 ∨ k = 7 ∨ k = 8 ∨ k = 9 ∨ k = 10 ∨ k = 11 := by omega
    rcases this with rfl | rfl | rfl | rfl | rfl | rfl | rfl | rfl | rfl | rfl | rfl | rfl <;> rfl
  have := h (0 + k.toNat * 1) _ hv
  rwa [add_mid, Nat.zero_add] at this
theorem arityAt.at {w w' : World} {H : List Eng.Item} {S : List World} (h : arityAt w) (hg : 1 < w.heap.size) (hw : Cls H S w') (hs : w ∈ S) (hno : ∀ k, k < w.heap.size → NotOwned H k) : arityAt w' :=
  cells_stab (hw.same hs hno _ hg) h
theorem shape_calls (x : Ex) (y : ExY) (w : World) (h : ExOk w (low w) x y) (hg : 1 < w.heap.size) (hs : arityAt w) :
    Calls Tryd.prog 101 [.agg (exC x y).toArray].toArray w fun e w' => e = .returned (.bool (shapeB x)) ∧ Ext w w' := by
  have hal := h.al
  have hkl := h.kl
  have hbl := h.bl
  refine enter Tryd.func101 rfl Tryd.ntmps101 rfl (Cls.start w) ?_
  (simp only [argEnv, Nat.zero_add, Nat.reduceAdd])
  simp only [exC]
  apply W.sr
  apply OL.box; rfl; rfl; exact CellsL.agg; (intro bk hbk; simp only [AllLe, and_true] at hbk)
  apply oas; rfl; rfl
  apply OL.nsr
  apply oas; rfl; rfl
  apply oas; rfl; rfl
  apply oas; rfl; rfl
  apply OL.nx
  apply W.seq
  apply W.sr
  apply ofa; rfl; rfl; rfl
  apply old; rfl; rfl; exact .head _; rfl; rfl
  apply OL.nx
  refine W.joinx (G := Nat × Nat × Bool) (fun g => sh x = some g ∧ ¬ (x.op = 7 ∨ x.op = 13)) (fun g => [(1, true, .pointer (some ⟨bk, 0, none⟩)), (3, true, .int .i64 (g.1 : Int)), (4, true, .int .i64 (g.2.1 : Int)), (5, true, .bool g.2.2)]) (fun _ => Cls [blk bk 28 [.int .i64 x.op, .int .i64 x.n, .slice y.b.1 x.binds.length y.b.2, .slice y.k.1 x.kids.length y.k.2, .slice y.a.1 x.alts.length y.a.2]] [w]) ?_ ?_
  · skip
    apply W.block
    apply W.seq
    apply W.sr
    apply obn; rfl; rfl; rfl; apply Bin.eql
    apply oas; rfl; rfl
    apply OL.nx
    (refine W.cnd (fun k1 => ?_) (fun k1 => ?_)) <;> (try (exfalso; first | omega | exact k1 trivial | contradiction))
    · apply W.sk
      (refine W.cnd (fun kb1 => ?_) (fun kb1 => ?_)) <;> (try (exfalso; first | omega | exact kb1 trivial | contradiction))
      apply W.reg
      apply oas; rfl; rfl
      apply OL.nil
      with_reducible apply At.in_normal
      refine At.joinedx (0, 0, true) ⟨?_, by omega⟩ (by exact Sub.au) (fun w' hw' => hw')
      unfold sh
      grind
    apply W.sr
    apply obn; rfl; rfl; rfl; apply Bin.eql
    apply oas; rfl; rfl
    apply OL.nx
    (refine W.cnd (fun k2 => ?_) (fun k2 => ?_)) <;> (try (exfalso; first | omega | exact k2 trivial | contradiction))
    · apply W.sk
      (refine W.cnd (fun kb2 => ?_) (fun kb2 => ?_)) <;> (try (exfalso; first | omega | exact kb2 trivial | contradiction))
      apply W.reg
      apply oas; rfl; rfl
      apply OL.nil
      with_reducible apply At.in_normal
      refine At.joinedx (0, 0, true) ⟨?_, by omega⟩ (by exact Sub.au) (fun w' hw' => hw')
      unfold sh
      grind
    apply W.reg
    apply obn; rfl; rfl; rfl; apply Bin.eql
    apply oas; rfl; rfl
    apply OL.nx
    (refine W.cnd (fun k3 => ?_) (fun k3 => ?_)) <;> (try (exfalso; first | omega | exact k3 trivial | contradiction))
    · apply W.reg
      apply oas; rfl; rfl
      apply OL.nil
      with_reducible apply At.in_normal
      refine At.joinedx (0, 0, true) ⟨?_, by omega⟩ (by exact Sub.au) (fun w' hw' => hw')
      unfold sh
      grind
    apply W.sr
    apply obn; rfl; rfl; rfl; apply Bin.eql
    apply oas; rfl; rfl
    apply OL.nx
    (refine W.cnd (fun k4 => ?_) (fun k4 => ?_)) <;> (try (exfalso; first | omega | exact k4 trivial | contradiction))
    · apply W.regd0; decide +kernel; kernel_rfl; decide +kernel; exact fun w hw => hw.drew
      apply qfa; rfl; rfl; rfl
      apply qld; rfl; rfl; exact .head _; rfl; rfl
      apply qop; rfl; apply Pev.len_slice; rfl; exact yes; rfl
      apply qas; rfl; rfl
      apply qas; rfl; rfl
      apply QL.nil
      with_reducible apply At.in_normal
      refine At.joinedx (1, x.binds.length, false) ⟨?_, by omega⟩ (by exact Sub.au) (fun w' hw' => hw')
      unfold sh
      grind
    apply W.sr
    apply obn; rfl; rfl; rfl; apply Bin.eql
    apply oas; rfl; rfl
    apply OL.nx
    (refine W.cnd (fun k5 => ?_) (fun k5 => ?_)) <;> (try (exfalso; first | omega | exact k5 trivial | contradiction))
    · apply W.reg
      apply ofa; rfl; rfl; rfl
      apply old; rfl; rfl; exact .head _; rfl; rfl
      apply oop; rfl; apply Pev.len_slice; rfl; exact yes; rfl
      apply oop; rfl; apply Pev.max2; rfl; exact yes; rfl; exact yes
      apply oas; rfl; rfl
      apply OL.nil
      with_reducible apply At.in_normal
      have em : (if (1 : Int) < (x.kids.length : Int) then (x.kids.length : Int) else 1) = ((max 1 x.kids.length : Nat) : Int) := by rw [Nat.max_def]; split <;> split <;> omega
      rw [em]
      refine At.joinedx (max 1 x.kids.length, 0, false) ⟨?_, by omega⟩ (by exact Sub.au) (fun w' hw' => hw')
      unfold sh
      grind
    apply W.sr
    apply obn; rfl; rfl; rfl; apply Bin.eql
    apply oas; rfl; rfl
    apply OL.nx
    (refine W.cnd (fun k6 => ?_) (fun k6 => ?_)) <;> (try (exfalso; first | omega | exact k6 trivial | contradiction))
    · apply W.reg
      apply oas; rfl; rfl
      apply oas; rfl; rfl
      apply OL.nil
      with_reducible apply At.in_normal
      refine At.joinedx (2, 1, false) ⟨?_, by omega⟩ (by exact Sub.au) (fun w' hw' => hw')
      unfold sh
      grind
    apply W.sr
    apply obn; rfl; rfl; rfl; apply Bin.eql
    apply oas; rfl; rfl
    apply OL.nx
    (refine W.cnd (fun k7 => ?_) (fun k7 => ?_)) <;> (try (exfalso; first | omega | exact k7 trivial | contradiction))
    · apply W.regd0; decide +kernel; kernel_rfl; decide +kernel; exact fun w hw => hw.drew
      apply qfa; rfl; rfl; rfl
      apply qld; rfl; rfl; exact .head _; rfl; rfl
      apply qop; rfl; apply Pev.len_slice; rfl; exact yes; rfl
      apply qbn; rfl; rfl; rfl; apply Bin.add_in; omega
      apply qfa; rfl; rfl; rfl
      apply qld; rfl; rfl; exact .head _; rfl; rfl
      apply qop; rfl; apply Pev.len_slice; rfl; exact yes; rfl
      apply qop; rfl; apply Pev.max2; rfl; exact yes; rfl; exact yes
      apply qas; rfl; rfl
      apply qas; rfl; rfl
      apply QL.nil
      with_reducible apply At.in_normal
      have em : (if (1 : Int) < (x.binds.length : Int) then (x.binds.length : Int) else 1) = ((max 1 x.binds.length : Nat) : Int) := by rw [Nat.max_def]; split <;> split <;> omega
      rw [em]
      refine At.joinedx (x.binds.length + 1, max 1 x.binds.length, false) ⟨?_, by omega⟩ (by exact Sub.au) (fun w' hw' => hw')
      unfold sh
      grind
    apply W.sr
    apply obn; rfl; rfl; rfl; apply Bin.eql
    apply oas; rfl; rfl
    apply OL.nx
    (refine W.cnd (fun k8 => ?_) (fun k8 => ?_)) <;> (try (exfalso; first | omega | exact k8 trivial | contradiction))
    · apply W.reg
      apply ofa; rfl; rfl; rfl
      apply old; rfl; rfl; exact .head _; rfl; rfl
      apply oop; rfl; apply Pev.len_slice; rfl; exact yes; rfl
      apply oas; rfl; rfl
      apply oas; rfl; rfl
      apply OL.nil
      with_reducible apply At.in_normal
      refine At.joinedx (x.kids.length, 0, true) ⟨?_, by omega⟩ (by exact Sub.au) (fun w' hw' => hw')
      unfold sh
      grind
    apply W.seq
    apply W.sr
    apply obn; rfl; rfl; rfl; apply Bin.eql
    apply oas; rfl; rfl
    apply OL.nx
    (refine W.cnd (fun k9 => ?_) (fun k9 => ?_)) <;> (try (exfalso; first | omega | exact k9 trivial | contradiction))
    · apply W.sk
      (refine W.cnd (fun kb9 => ?_) (fun kb9 => ?_)) <;> (try (exfalso; first | omega | exact kb9 trivial | contradiction))
      apply W.sr
      apply oop; rfl; apply Pev.load_blkA; rfl; exact yes; exact .head _; rfl; exact Take.au
      (((first | (with_reducible apply OL.op) | (with_reducible apply QL.op)); (exact Guard.au); rfl; rfl); (exact Pev.call rfl (by exact Args.au) (fun _ w2 hw2 => (alts_calls x y w2 (h.at hw2 (by exact mau) (fun k hk => by exact NotOwned.au))).mono (fun e w3 h => ⟨h.1, hw2.ext h.2⟩))))
      apply omv; rfl; rfl
      apply oy; rfl; rfl; rfl; apply Pev.fld; rfl; exact yes; rfl
      apply oy; rfl; rfl; rfl; apply Pev.load_blk; rfl; exact fun h => h; exact .head _; rfl; rfl
      apply oy; rfl; rfl; rfl; apply Pev.len_slice; rfl; exact fun h => h; rfl
      apply oy; rfl; rfl; rfl; apply Pev.bin; rfl; exact fun h => h; rfl; exact yes; intro hcond; apply Bin.eql
      apply oop; rfl; apply Pev.pick_and; rfl; exact yes; rfl; exact fun h => h
      apply omv; rfl; rfl
      apply oy; rfl; rfl; rfl; apply Pev.fld; rfl; exact yes; rfl
      apply oy; rfl; rfl; rfl; apply Pev.load_blk; rfl; exact fun h => h; exact .head _; rfl; rfl
      apply oy; rfl; rfl; rfl; apply Pev.bin; rfl; exact fun h => h; rfl; exact yes; intro hcond; apply Bin.eql
      apply oop; rfl; apply Pev.pick_and; rfl; exact yes; rfl; exact fun h => h
      apply oas; rfl; rfl
      apply OL.nx
      refine W.rt ?_
      ((with_reducible apply At.fin1); rfl; rfl; intro w' hw')
      refine ⟨congrArg (fun b => Ending.returned (Value.bool b)) ?_, by (exact hw'.fr)⟩
      unfold shapeB
      grind
    apply W.reg
    apply obn; rfl; rfl; rfl; apply Bin.eql
    apply oas; rfl; rfl
    apply OL.nx
    (refine W.cnd (fun k10 => ?_) (fun k10 => ?_)) <;> (try (exfalso; first | omega | exact k10 trivial | contradiction))
    · apply W.sr
      apply oop; rfl; apply Pev.load_blkA; rfl; exact yes; exact .head _; rfl; exact Take.au
      (((first | (with_reducible apply OL.op) | (with_reducible apply QL.op)); (exact Guard.au); rfl; rfl); (exact Pev.call rfl (by exact Args.au) (fun _ w2 hw2 => (alts_calls x y w2 (h.at hw2 (by exact mau) (fun k hk => by exact NotOwned.au))).mono (fun e w3 h => ⟨h.1, hw2.ext h.2⟩))))
      apply omv; rfl; rfl
      apply oy; rfl; rfl; rfl; apply Pev.fld; rfl; exact yes; rfl
      apply oy; rfl; rfl; rfl; apply Pev.load_blk; rfl; exact fun h => h; exact .head _; rfl; rfl
      apply oy; rfl; rfl; rfl; apply Pev.len_slice; rfl; exact fun h => h; rfl
      apply oy; rfl; rfl; rfl; apply Pev.bin; rfl; exact fun h => h; rfl; exact yes; intro hcond; apply Bin.eql
      apply oop; rfl; apply Pev.pick_and; rfl; exact yes; rfl; exact fun h => h
      apply omv; rfl; rfl
      apply oy; rfl; rfl; rfl; apply Pev.fld; rfl; exact yes; rfl
      apply oy; rfl; rfl; rfl; apply Pev.load_blk; rfl; exact fun h => h; exact .head _; rfl; rfl
      apply oy; rfl; rfl; rfl; apply Pev.bin; rfl; exact fun h => h; rfl; exact yes; intro hcond; apply Bin.eql
      apply oop; rfl; apply Pev.pick_and; rfl; exact yes; rfl; exact fun h => h
      apply oas; rfl; rfl
      apply OL.nx
      refine W.rt ?_
      ((with_reducible apply At.fin1); rfl; rfl; intro w' hw')
      refine ⟨congrArg (fun b => Ending.returned (Value.bool b)) ?_, by (exact hw'.fr)⟩
      unfold shapeB
      grind
    apply W.sr
    apply obn; rfl; rfl; rfl; apply Bin.eql
    apply oas; rfl; rfl
    apply OL.nx
    (refine W.cnd (fun k11 => ?_) (fun k11 => ?_)) <;> (try (exfalso; first | omega | exact k11 trivial | contradiction))
    · apply W.seq
      apply W.sr
      apply ofa; rfl; rfl; rfl
      apply old; rfl; rfl; exact .head _; rfl; rfl
      (((first | (with_reducible apply OL.op) | (with_reducible apply QL.op)); (exact Guard.au); rfl; rfl); (exact Pev.call rfl (by exact Args.au) (fun _ w2 hw2 => (between_calls x.n 0 11 w2).mono (fun e w3 h => ⟨h.1, hw2.ext h.2⟩))))
      apply oop; rfl; apply Pev.not; rfl; exact yes
      apply OL.nx
      (refine W.cnd (fun hp => ?_) (fun hp => ?_)) <;> (try (exfalso; first | omega | exact hp trivial | contradiction))
      · apply W.sr
        apply oas; rfl; rfl
        apply OL.nx
        refine W.rt ?_
        ((with_reducible apply At.fin1); rfl; rfl; intro w' hw')
        refine ⟨congrArg (fun b => Ending.returned (Value.bool b)) ?_, by (exact hw'.fr)⟩
        unfold shapeB sh
        grind
      have hpn : 0 ≤ x.n ∧ x.n ≤ 11 := by omega
      have har := arity_get hs hpn
      apply W.sk
      apply W.reg
      apply ofa; rfl; rfl; rfl
      apply old; rfl; rfl; exact .head _; rfl; rfl
      apply oop; rfl; apply Pev.idxArr; rfl; exact yes; rfl; exact yes; rfl; intro hcond; omega; rfl
      apply oop; rfl; apply Pev.load_kept; rfl; exact yes; exact .head _; rfl; intro hcond; assumption; intro hcond; assumption; intro hcond; exact NotOwned.au
      apply oas; rfl; rfl
      apply oas; rfl; rfl
      apply OL.nil
      with_reducible apply At.in_normal
      refine At.joinedx (primN x.n, 0, true) ⟨?_, by omega⟩ (by exact Sub.au) (fun w' hw' => hw')
      unfold sh
      grind
    apply W.sr
    apply obn; rfl; rfl; rfl; apply Bin.eql
    apply oas; rfl; rfl
    apply OL.nx
    (refine W.cnd (fun k12 => ?_) (fun k12 => ?_)) <;> (try (exfalso; first | omega | exact k12 trivial | contradiction))
    · apply W.regd0; decide +kernel; kernel_rfl; decide +kernel; exact fun w hw => hw.drew
      apply qfa; rfl; rfl; rfl
      apply qld; rfl; rfl; exact .head _; rfl; rfl
      apply qop; rfl; apply Pev.len_slice; rfl; exact yes; rfl
      apply qfa; rfl; rfl; rfl
      apply qld; rfl; rfl; exact .head _; rfl; rfl
      apply qop; rfl; apply Pev.len_slice; rfl; exact yes; rfl
      apply qas; rfl; rfl
      apply qas; rfl; rfl
      apply QL.nil
      with_reducible apply At.in_normal
      refine At.joinedx (x.binds.length, x.binds.length, false) ⟨?_, by omega⟩ (by exact Sub.au) (fun w' hw' => hw')
      unfold sh
      grind
    apply W.seq
    apply W.sr
    apply obn; rfl; rfl; rfl; apply Bin.eql
    apply oas; rfl; rfl
    apply OL.nx
    (refine W.cnd (fun k13 => ?_) (fun k13 => ?_)) <;> (try (exfalso; first | omega | exact k13 trivial | contradiction))
    · apply W.sk
      (refine W.cnd (fun kb13 => ?_) (fun kb13 => ?_)) <;> (try (exfalso; first | omega | exact kb13 trivial | contradiction))
      apply W.reg
      apply oas; rfl; rfl
      apply oas; rfl; rfl
      apply OL.nil
      with_reducible apply At.in_normal
      refine At.joinedx (1, 0, true) ⟨?_, by omega⟩ (by exact Sub.au) (fun w' hw' => hw')
      unfold sh
      grind
    apply W.reg
    apply obn; rfl; rfl; rfl; apply Bin.eql
    apply oas; rfl; rfl
    apply OL.nx
    (refine W.cnd (fun k14 => ?_) (fun k14 => ?_)) <;> (try (exfalso; first | omega | exact k14 trivial | contradiction))
    · apply W.reg
      apply oas; rfl; rfl
      apply oas; rfl; rfl
      apply OL.nil
      with_reducible apply At.in_normal
      refine At.joinedx (1, 0, true) ⟨?_, by omega⟩ (by exact Sub.au) (fun w' hw' => hw')
      unfold sh
      grind
    apply W.sr
    apply obn; rfl; rfl; rfl; apply Bin.eql
    apply oas; rfl; rfl
    apply OL.nx
    (refine W.cnd (fun k15 => ?_) (fun k15 => ?_)) <;> (try (exfalso; first | omega | exact k15 trivial | contradiction))
    · apply W.reg
      apply oas; rfl; rfl
      apply oas; rfl; rfl
      apply OL.nil
      with_reducible apply At.in_normal
      refine At.joinedx (2, 0, true) ⟨?_, by omega⟩ (by exact Sub.au) (fun w' hw' => hw')
      unfold sh
      grind
    apply W.seq
    apply W.sr
    apply obn; rfl; rfl; rfl; apply Bin.eql
    apply oas; rfl; rfl
    apply OL.nx
    (refine W.cnd (fun k16 => ?_) (fun k16 => ?_)) <;> (try (exfalso; first | omega | exact k16 trivial | contradiction))
    · apply W.sk
      (refine W.cnd (fun kb16 => ?_) (fun kb16 => ?_)) <;> (try (exfalso; first | omega | exact kb16 trivial | contradiction))
      apply W.reg
      apply ofa; rfl; rfl; rfl
      apply old; rfl; rfl; exact .head _; rfl; rfl
      apply oop; rfl; apply Pev.len_slice; rfl; exact yes; rfl
      apply oas; rfl; rfl
      apply oas; rfl; rfl
      apply OL.nil
      with_reducible apply At.in_normal
      refine At.joinedx (x.kids.length, 0, true) ⟨?_, by omega⟩ (by exact Sub.au) (fun w' hw' => hw')
      unfold sh
      grind
    apply W.reg
    apply obn; rfl; rfl; rfl; apply Bin.eql
    apply oas; rfl; rfl
    apply OL.nx
    (refine W.cnd (fun k17 => ?_) (fun k17 => ?_)) <;> (try (exfalso; first | omega | exact k17 trivial | contradiction))
    · apply W.reg
      apply ofa; rfl; rfl; rfl
      apply old; rfl; rfl; exact .head _; rfl; rfl
      apply oop; rfl; apply Pev.len_slice; rfl; exact yes; rfl
      apply oas; rfl; rfl
      apply oas; rfl; rfl
      apply OL.nil
      with_reducible apply At.in_normal
      refine At.joinedx (x.kids.length, 0, true) ⟨?_, by omega⟩ (by exact Sub.au) (fun w' hw' => hw')
      unfold sh
      grind
    apply W.sr
    apply obn; rfl; rfl; rfl; apply Bin.eql
    apply oas; rfl; rfl
    apply OL.nx
    (refine W.cnd (fun k18 => ?_) (fun k18 => ?_)) <;> (try (exfalso; first | omega | exact k18 trivial | contradiction))
    · apply W.reg
      apply oas; rfl; rfl
      apply oas; rfl; rfl
      apply OL.nil
      with_reducible apply At.in_normal
      refine At.joinedx (1, 0, true) ⟨?_, by omega⟩ (by exact Sub.au) (fun w' hw' => hw')
      unfold sh
      grind
    apply W.sr
    apply oas; rfl; rfl
    apply OL.nx
    refine W.rt ?_
    ((with_reducible apply At.fin1); rfl; rfl; intro w' hw')
    refine ⟨congrArg (fun b => Ending.returned (Value.bool b)) ?_, by (exact hw'.fr)⟩
    unfold shapeB sh
    grind
  · rintro ⟨k, b, u⟩ ⟨hsh, hno7⟩
    simp only
    apply W.sr
    apply ofa; rfl; rfl; rfl
    apply old; rfl; rfl; exact .head _; rfl; rfl
    apply oop; rfl; apply Pev.len_slice; rfl; exact yes; rfl
    apply omv; rfl; rfl
    apply obn; rfl; rfl; rfl; apply Bin.eql
    apply omv; rfl; rfl
    apply oy; rfl; rfl; rfl; apply Pev.fld; rfl; exact yes; rfl
    apply oy; rfl; rfl; rfl; apply Pev.load_blk; rfl; exact fun h => h; exact .head _; rfl; rfl
    apply oy; rfl; rfl; rfl; apply Pev.len_slice; rfl; exact fun h => h; rfl
    apply oy; rfl; rfl; rfl; apply Pev.move; rfl; exact yes
    apply oy; rfl; rfl; rfl; apply Pev.bin; rfl; exact fun h => h; rfl; exact fun h => h; intro hcond; apply Bin.eql
    apply oop; rfl; apply Pev.pick_and; rfl; exact yes; rfl; exact fun h => h
    apply omv; rfl; rfl
    apply oy; rfl; rfl; rfl; apply Pev.fld; rfl; exact yes; rfl
    apply oy; rfl; rfl; rfl; apply Pev.load_blk; rfl; exact fun h => h; exact .head _; rfl; rfl
    apply oy; rfl; rfl; rfl; apply Pev.len_slice; rfl; exact fun h => h; rfl
    apply oy; rfl; rfl; rfl; apply Pev.bin; rfl; exact fun h => h; rfl; exact yes; intro hcond; apply Bin.eql
    apply oop; rfl; apply Pev.pick_and; rfl; exact yes; rfl; exact fun h => h
    apply omv; rfl; rfl
    apply oy; rfl; rfl; rfl; apply Pev.move; rfl; exact yes
    apply oy; rfl; rfl; rfl; apply Pev.move; rfl; exact fun h => h
    apply OL.op; exact Guard.cno rfl rfl; rfl; rfl; apply Pev.fld; rfl; exact yes; rfl
    apply OL.op; exact Guard.cno rfl rfl; rfl; rfl; apply Pev.load_blk; rfl; exact fun h => h; exact .head _; rfl; rfl
    apply OL.op; exact Guard.cno rfl rfl; rfl; rfl; apply Pev.bin; rfl; exact fun h => h; rfl; exact yes; intro hcond; apply Bin.eql
    apply oy; rfl; rfl; rfl; apply Pev.pick_or; rfl; exact fun h => h; rfl; exact fun h => h
    apply oop; rfl; apply Pev.pick_and; rfl; exact yes; rfl; exact fun h => h
    apply oas; rfl; rfl
    apply OL.nx
    apply W.ret
    ((with_reducible apply At.fin1); rfl; rfl; intro w' hw')
    refine ⟨congrArg (fun b => Ending.returned (Value.bool b)) ?_, by (exact hw'.fr)⟩
    unfold shapeB
    rw [if_neg hno7, hsh]
    grind
theorem rangesE_bad {x : Ex} (h : rangesOk x = false) : rangesE x = 4 := by unfold rangesE; rw [if_pos h]
theorem max_if (a b : Nat) : (if (a : Int) < (b : Int) then (b : Int) else (a : Int)) = ((max a b : Nat) : Int) := by rw [Nat.max_def]; split <;> split <;> omega
theorem ranges_calls (x : Ex) (y : ExY) (w : World) (h : ExOk w (low w) x y) :
    Calls Tryd.prog 102 [.agg (exC x y).toArray].toArray w fun e w' => e = .returned (.int .i64 (rangesE x)) ∧ Ext w w' := by
  obtain ⟨ps, hps, harr⟩ := h.alts
  have hpl : x.alts.length = ps.length := by rw [← hps, List.length_map]
  have hal := h.al
  have hkl := h.kl
  have hbl := h.bl
  refine enter Tryd.func102 rfl Tryd.ntmps102 rfl (Cls.start w) ?_
  (simp only [argEnv, Nat.zero_add, Nat.reduceAdd])
  simp only [exC]
  apply W.sr
  apply OL.box; rfl; rfl; exact CellsL.agg; (intro bk hbk; simp only [AllLe, and_true] at hbk)
  apply oas; rfl; rfl
  apply OL.nsr
  apply oas; rfl; rfl
  apply OL.nsr
  apply oas; rfl; rfl
  apply OL.nx
  apply W.seq
  apply W.sr
  apply ofa; rfl; rfl; rfl
  apply old; rfl; rfl; exact .head _; rfl; rfl
  apply OL.nx
  revert bk
  intro b0 hb0
  refine W.joinx (G := Unit) (fun _ => True) (fun _ => [(1, true, .pointer (some ⟨b0, 0, none⟩)), (3, true, .int .i64 (highN x.op)), (4, true, .int .i64 (lowN x.op))]) (fun _ => Cls [blk b0 28 [.int .i64 x.op, .int .i64 x.n, .slice y.b.1 x.binds.length y.b.2, .slice y.k.1 x.kids.length y.k.2, .slice y.a.1 x.alts.length y.a.2]] [w]) ?_ ?_
  · skip
    apply W.block
    apply W.sr
    apply obn; rfl; rfl; rfl; apply Bin.eql
    apply oas; rfl; rfl
    apply OL.nx
    (refine W.cnd (fun r1 => ?_) (fun r1 => ?_)) <;> (try (exfalso; first | omega | exact r1 trivial | contradiction))
    · apply W.reg
      apply oas; rfl; rfl
      apply oas; rfl; rfl
      apply OL.nil
      with_reducible apply At.in_normal
      exact At.joinedx () trivial (by repeat (first | exact Sub.nil | apply Sub.cons rfl | (refine Sub.cons_eq rfl (congrArg (Value.int .i64) (by unfold highN; grind)) ?_) | (refine Sub.cons_eq rfl (congrArg (Value.int .i64) (by unfold lowN; grind)) ?_))) (fun w' hw' => hw')
    apply W.sr
    apply obn; rfl; rfl; rfl; apply Bin.eql
    apply oas; rfl; rfl
    apply OL.nx
    (refine W.cnd (fun r2 => ?_) (fun r2 => ?_)) <;> (try (exfalso; first | omega | exact r2 trivial | contradiction))
    · apply W.reg
      apply oas; rfl; rfl
      apply OL.nil
      with_reducible apply At.in_normal
      exact At.joinedx () trivial (by repeat (first | exact Sub.nil | apply Sub.cons rfl | (refine Sub.cons_eq rfl (congrArg (Value.int .i64) (by unfold highN; grind)) ?_) | (refine Sub.cons_eq rfl (congrArg (Value.int .i64) (by unfold lowN; grind)) ?_))) (fun w' hw' => hw')
    apply W.sr
    apply obn; rfl; rfl; rfl; apply Bin.eql
    apply oas; rfl; rfl
    apply OL.nx
    (refine W.cnd (fun r3 => ?_) (fun r3 => ?_)) <;> (try (exfalso; first | omega | exact r3 trivial | contradiction))
    · apply W.reg
      apply oas; rfl; rfl
      apply oas; rfl; rfl
      apply OL.nil
      with_reducible apply At.in_normal
      exact At.joinedx () trivial (by repeat (first | exact Sub.nil | apply Sub.cons rfl | (refine Sub.cons_eq rfl (congrArg (Value.int .i64) (by unfold highN; grind)) ?_) | (refine Sub.cons_eq rfl (congrArg (Value.int .i64) (by unfold lowN; grind)) ?_))) (fun w' hw' => hw')
    apply W.sr
    apply obn; rfl; rfl; rfl; apply Bin.eql
    apply oas; rfl; rfl
    apply OL.nx
    (refine W.cnd (fun r4 => ?_) (fun r4 => ?_)) <;> (try (exfalso; first | omega | exact r4 trivial | contradiction))
    · apply W.reg
      apply oas; rfl; rfl
      apply OL.nil
      with_reducible apply At.in_normal
      exact At.joinedx () trivial (by repeat (first | exact Sub.nil | apply Sub.cons rfl | (refine Sub.cons_eq rfl (congrArg (Value.int .i64) (by unfold highN; grind)) ?_) | (refine Sub.cons_eq rfl (congrArg (Value.int .i64) (by unfold lowN; grind)) ?_))) (fun w' hw' => hw')
    apply W.skip
    with_reducible apply At.in_normal
    exact At.joinedx () trivial (by repeat (first | exact Sub.nil | apply Sub.cons rfl | (refine Sub.cons_eq rfl (congrArg (Value.int .i64) (by unfold highN; grind)) ?_) | (refine Sub.cons_eq rfl (congrArg (Value.int .i64) (by unfold lowN; grind)) ?_))) (fun w' hw' => hw')
  rintro - -
  apply W.seq
  apply W.sr
  apply ofa; rfl; rfl; rfl
  apply old; rfl; rfl; exact .head _; rfl; rfl
  apply omv; rfl; rfl
  apply omv; rfl; rfl
  (((first | (with_reducible apply OL.op) | (with_reducible apply QL.op)); (exact Guard.au); rfl; rfl); (exact Pev.call rfl (by exact Args.au) (fun _ w2 hw2 => (between_calls x.n (lowN x.op) (highN x.op) w2).mono (fun e w3 h => ⟨h.1, hw2.ext h.2⟩))))
  apply oop; rfl; apply Pev.not; rfl; exact yes
  apply OL.nx
  (refine W.cnd (fun hn => ?_) (fun hn => ?_)) <;> (try (exfalso; first | omega | exact hn trivial | contradiction))
  · apply W.sr
    apply oas; rfl; rfl
    apply OL.nx
    refine W.rt ?_
    ((with_reducible apply At.fin1); rfl; rfl; intro w' hw')
    refine ⟨by rw [rangesE_bad]; unfold rangesOk; grind, by (exact hw'.fr)⟩
  apply W.sk
  apply W.sr
  apply ofa; rfl; rfl; rfl
  apply old; rfl; rfl; exact .head _; rfl; rfl
  apply oop; rfl; apply Pev.len_slice; rfl; exact yes; rfl
  apply oas; rfl; rfl
  apply OL.nx
  apply W.seq
  apply W.sr
  apply ofa; rfl; rfl; rfl
  apply old; rfl; rfl; exact .head _; rfl; rfl
  apply oop; rfl; apply Pev.len_slice; rfl; exact yes; rfl
  apply omv; rfl; rfl
  apply OL.nx
  apply W.block
  refine W.loop (G := Nat) (fun i => i ≤ x.binds.length ∧ ∀ (j : Nat) (v : Int), j < i → x.binds[j]? = some v → idB v = true) (fun i => x.binds.length - i)
    (fun i => [(1, true, .pointer (some ⟨b0, 0, none⟩)), (5, true, .int .i64 (x.binds.length : Int)), (33, true, .slice y.b.1 x.binds.length y.b.2), (34, true, .int .i64 (x.binds.length : Int)), (35, true, .int .i64 (i : Int))])
    (fun _ => Cls [blk b0 28 [.int .i64 x.op, .int .i64 x.n, .slice y.b.1 x.binds.length y.b.2, .slice y.k.1 x.kids.length y.k.2, .slice y.a.1 x.alts.length y.a.2]] [w]) 0 ⟨by omega, fun j v hj => by omega⟩ (by exact Sub.au) (fun w' hw' => hw') ?_
  rintro i ⟨hi, hbs⟩
  apply W.sr
  apply obn; rfl; rfl; rfl; apply Bin.lss
  apply OL.nx
  apply W.seq
  (refine W.cnd (fun hlt => ?_) (fun hlt => ?_)) <;> (try (exfalso; first | omega | exact hlt trivial | contradiction))
  · have hil : i < x.binds.length := by omega
    obtain ⟨a, v, hqa, hab, hv, hcell⟩ := h.b.get hil
    have hab : a.block < w.heap.size := hab
    rw [hqa]
    apply W.sk
    apply W.sb
    apply W.sr
    apply oop; rfl; apply Pev.idx; rfl; exact yes; rfl; exact yes; rfl; rfl; intro hcond; omega
    apply oop; rfl; apply Pev.load_kept; rfl; exact yes; exact .head _; rfl; intro hcond; assumption; intro hcond; (rw [add_block]; assumption); intro hcond; exact NotOwned.au
    apply oas; rfl; rfl
    apply OL.nsr
    apply omv; rfl; rfl
    (((first | (with_reducible apply OL.op) | (with_reducible apply QL.op)); (exact Guard.au); rfl; rfl); (exact Pev.call rfl (by exact Args.au) (fun _ w2 hw2 => (between_calls v 0 1048575 w2).mono (fun e w3 h => ⟨h.1, hw2.ext h.2⟩))))
    apply oop; rfl; apply Pev.not; rfl; exact yes
    apply OL.nx
    (refine W.cnd (fun hv2 => ?_) (fun hv2 => ?_)) <;> (try (exfalso; first | omega | exact hv2 trivial | contradiction))
    · apply W.sr
      apply oas; rfl; rfl
      apply OL.nx
      refine W.rt ?_
      ((with_reducible apply At.fin1); rfl; rfl; intro w' hw')
      refine ⟨?_, by (exact hw'.fr)⟩
      have hid : idB v = false := by unfold idB; grind
      have : x.binds.all idB = false := List.all_eq_false.2 ⟨v, List.mem_of_getElem? hv, by simp [hid]⟩
      rw [rangesE_bad]
      unfold rangesOk
      simp [this]
    apply W.skip
    with_reducible apply At.in_normal
    with_reducible apply At.next
    apply W.reg
    apply obn; rfl; rfl; rfl; apply Bin.add_in; omega
    apply omv; rfl; rfl
    apply OL.nil
    refine At.again (i + 1) ⟨by omega, fun j u hj hu => ?_⟩ (by omega) (by exact Sub.au) (fun w' hw' => hw')
    by_cases e : j = i
    · subst e
      rw [hv] at hu
      obtain rfl := Option.some.inj hu
      unfold idB
      grind
    · exact hbs j u (by omega) hu
  obtain rfl : i = x.binds.length := by omega
  have hball : x.binds.all idB = true := List.all_eq_true.2 fun v hv => by
    obtain ⟨j, hj⟩ := List.getElem?_of_mem hv
    exact hbs j v (List.getElem?_eq_some_iff.1 hj).1 hj
  clear hbs hlt hi
  rw [hpl]
  refine W.xt ?_
  with_reducible apply At.next
  apply W.seq
  apply W.sr
  apply ofa; rfl; rfl; rfl
  apply old; rfl; rfl; exact .head _; rfl; rfl
  apply oop; rfl; apply Pev.len_slice; rfl; exact yes; rfl
  apply omv; rfl; rfl
  apply OL.nx
  apply W.block
  refine W.loop (G := Nat) (fun i => i ≤ ps.length ∧ (∀ (j : Nat) (p : Al × Sc), j < i → ps[j]? = some p → altR x.op p.1 = true) ∧ ((ps.take i).foldl (fun m p => max m p.1.binds.length) x.binds.length) ≤ 140737488355328) (fun i => ps.length - i)
    (fun i => [(1, true, .pointer (some ⟨b0, 0, none⟩)), (5, true, .int .i64 (((ps.take i).foldl (fun m p => max m p.1.binds.length) x.binds.length : Nat) : Int)), (44, true, .slice y.a.1 ps.length y.a.2), (45, true, .int .i64 (ps.length : Int)), (46, true, .int .i64 (i : Int))])
    (fun _ => Cls [blk b0 28 [.int .i64 x.op, .int .i64 x.n, .slice y.b.1 x.binds.length y.b.2, .slice y.k.1 x.kids.length y.k.2, .slice y.a.1 ps.length y.a.2]] [w]) 0 ⟨by omega, fun j v hj => by omega, by simpa using hbl⟩ (by exact Sub.au) (fun w' hw' => hw') ?_
  rintro i ⟨hi, has, hwd⟩
  apply W.sr
  apply obn; rfl; rfl; rfl; apply Bin.lss
  apply OL.nx
  apply W.seq
  (refine W.cnd (fun hlt => ?_) (fun hlt => ?_)) <;> (try (exfalso; first | omega | exact hlt trivial | contradiction))
  · have hil : i < ps.length := by omega
    obtain ⟨a, u, hq, hab, hu, hcell, hok⟩ := harr.get hil
    have hab : a.block < w.heap.size := hab
    have hcell : CellsAt w (a.add (i * 2)) [.int .i64 u.1.tag, .slice u.2.1 u.1.binds.length u.2.2] := hcell
    obtain ⟨htag, hul, huo⟩ := hok
    have hua : u.1 ∈ x.alts := by rw [← hps]; exact List.mem_map_of_mem (f := Prod.fst) (List.mem_of_getElem? hu)
    have hbad : altR x.op u.1 = false → rangesE x = 4 := fun hf => rangesE_bad (by
      have : x.alts.all (altR x.op) = false := List.all_eq_false.2 ⟨_, hua, by simp [hf]⟩
      unfold rangesOk
      simp [this])
    rw [hq]
    apply W.sk
    apply W.sb
    apply W.sr
    apply oop; rfl; apply Pev.idx; rfl; exact yes; rfl; exact yes; rfl; rfl; intro hcond; omega
    apply oop; rfl; apply Pev.load_keptA; rfl; exact yes; exact .head _; rfl; intro hcond; assumption; rfl; intro hcond; (rw [add_block]; assumption); intro hcond; exact NotOwned.au
    apply OL.alloc; rfl; rfl; exact CellsL.agg; (intro bk hbk; simp only [AllLe, and_true] at hbk)
    apply OL.storeB; rfl; rfl; exact CellsL.agg; rfl; rfl; rfl; exact Swap.au; exact Put.au
    apply OL.nx
    apply W.seq
    apply W.sr
    apply ofa; rfl; rfl; rfl
    apply old; rfl; rfl; exact .head _; rfl; rfl
    apply obn; rfl; rfl; rfl; apply Bin.gtr
    apply omv; rfl; rfl
    apply oy; rfl; rfl; rfl; apply Pev.fld; rfl; exact yes; rfl
    apply oy; rfl; rfl; rfl; apply Pev.load_blk; rfl; exact fun h => h; exact .tail _ (.head _); rfl; rfl
    apply oy; rfl; rfl; rfl; apply Pev.bin; rfl; exact fun h => h; rfl; exact yes; intro hcond; apply Bin.eql
    apply oop; rfl; apply Pev.pick_and; rfl; exact yes; rfl; exact fun h => h
    apply omv; rfl; rfl
    apply ono; rfl; rfl; rfl; apply Pev.fld; rfl; exact yes; rfl
    apply ono; rfl; rfl; rfl; apply Pev.load_blk; rfl; exact fun h => h; exact .head _; rfl; rfl
    apply ono; rfl; rfl; rfl; apply Pev.bin; rfl; exact fun h => h; rfl; exact yes; intro hcond; apply Bin.geq
    apply oop; rfl; apply Pev.pick_or; rfl; exact yes; rfl; exact fun h => h
    apply OL.nx
    refine W.cond rfl (fun hb => ?_) (fun hb => ?_)
    · apply W.sr
      apply oas; rfl; rfl
      apply OL.nx
      refine W.rt ?_
      ((with_reducible apply At.fin1); rfl; rfl; intro w' hw')
      refine ⟨by rw [hbad (by unfold altR; grind)], by (exact hw'.fr)⟩
    apply W.sk
    apply W.seq
    apply W.sr
    apply ofa; rfl; rfl; rfl
    apply old; rfl; rfl; exact .head _; rfl; rfl
    apply oop; rfl; apply Pev.len_slice; rfl; exact yes; rfl
    apply omv; rfl; rfl
    apply OL.nx
    apply W.block
    refine W.loop (G := Nat) (fun k => k ≤ u.1.binds.length ∧ ∀ (j : Nat) (v : Int), j < k → u.1.binds[j]? = some v → idB v = true) (fun k => u.1.binds.length - k)
      (fun k => [(1, true, .pointer (some ⟨b0, 0, none⟩)), (5, true, .int .i64 (((ps.take i).foldl (fun m p => max m p.1.binds.length) x.binds.length : Nat) : Int)), (9, true, .pointer (some ⟨bk, 0, none⟩)), (44, true, .slice (some a) ps.length y.a.2), (45, true, .int .i64 (ps.length : Int)), (46, true, .int .i64 (i : Int)), (64, true, .slice u.2.1 u.1.binds.length u.2.2), (65, true, .int .i64 (u.1.binds.length : Int)), (66, true, .int .i64 (k : Int))])
      (fun _ => Cls [blk bk 132 [.int .i64 u.1.tag, .slice u.2.1 u.1.binds.length u.2.2], blk b0 28 [.int .i64 x.op, .int .i64 x.n, .slice y.b.1 x.binds.length y.b.2, .slice y.k.1 x.kids.length y.k.2, .slice (some a) ps.length y.a.2]] [w]) 0 ⟨by omega, fun j v hj => by omega⟩ (by exact Sub.au) (fun w' hw' => by first | exact hw' | (rw [hq] at hw'; exact hw')) ?_
    rintro k ⟨hk, hbs⟩
    apply W.sr
    apply obn; rfl; rfl; rfl; apply Bin.lss
    apply OL.nx
    apply W.seq
    (refine W.cnd (fun hlt2 => ?_) (fun hlt2 => ?_)) <;> (try (exfalso; first | omega | exact hlt2 trivial | contradiction))
    · have hkl2 : k < u.1.binds.length := by omega
      obtain ⟨av, v, hqv, habv, hv, hcv⟩ := huo.get hkl2
      have habv : av.block < w.heap.size := habv
      rw [hqv]
      apply W.sk
      apply W.sb
      apply W.sr
      apply oop; rfl; apply Pev.idx; rfl; exact yes; rfl; exact yes; rfl; rfl; intro hcond; omega
      apply oop; rfl; apply Pev.load_kept; rfl; exact yes; exact .head _; rfl; intro hcond; assumption; intro hcond; (rw [add_block]; assumption); intro hcond; exact NotOwned.au
      apply oas; rfl; rfl
      apply OL.nsr
      apply omv; rfl; rfl
      (((first | (with_reducible apply OL.op) | (with_reducible apply QL.op)); (exact Guard.au); rfl; rfl); (exact Pev.call rfl (by exact Args.au) (fun _ w2 hw2 => (between_calls v 0 1048575 w2).mono (fun e w3 h => ⟨h.1, hw2.ext h.2⟩))))
      apply oop; rfl; apply Pev.not; rfl; exact yes
      apply OL.nx
      (refine W.cnd (fun hv2 => ?_) (fun hv2 => ?_)) <;> (try (exfalso; first | omega | exact hv2 trivial | contradiction))
      · apply W.sr
        apply oas; rfl; rfl
        apply OL.nx
        refine W.rt ?_
        ((with_reducible apply At.fin1); rfl; rfl; intro w' hw')
        refine ⟨?_, by (exact hw'.fr)⟩
        have hid : idB v = false := by unfold idB; grind
        have : u.1.binds.all idB = false := List.all_eq_false.2 ⟨v, List.mem_of_getElem? hv, by simp [hid]⟩
        rw [hbad (by unfold altR; simp [this])]
      apply W.skip
      with_reducible apply At.in_normal
      with_reducible apply At.next
      apply W.reg
      apply obn; rfl; rfl; rfl; apply Bin.add_in; omega
      apply omv; rfl; rfl
      apply OL.nil
      refine At.again (k + 1) ⟨by omega, fun j z hj hz => ?_⟩ (by omega) (by exact Sub.au) (fun w' hw' => by first | exact hw' | (rw [hqv] at hw'; exact hw') | (rw [← hqv] at hw'; exact hw'))
      by_cases e : j = k
      · subst e
        rw [hv] at hz
        obtain rfl := Option.some.inj hz
        unfold idB
        grind
      · exact hbs j z (by omega) hz
    obtain rfl : k = u.1.binds.length := by omega
    have huall : u.1.binds.all idB = true := List.all_eq_true.2 fun v hv => by
      obtain ⟨j, hj⟩ := List.getElem?_of_mem hv
      exact hbs j v (List.getElem?_eq_some_iff.1 hj).1 hj
    have hfold : (ps.take (i + 1)).foldl (fun m p => max m p.1.binds.length) x.binds.length = max ((ps.take i).foldl (fun m p => max m p.1.binds.length) x.binds.length) u.1.binds.length := by
      rw [List.take_add_one, hu]
      simp [List.foldl_append]
    refine W.xt ?_
    with_reducible apply At.next
    apply W.reg
    apply omv; rfl; rfl
    apply ofa; rfl; rfl; rfl
    apply old; rfl; rfl; exact .head _; rfl; rfl
    apply oop; rfl; apply Pev.len_slice; rfl; exact yes; rfl
    apply oop; rfl; apply Pev.max2; rfl; exact yes; rfl; exact yes
    apply oas; rfl; rfl
    apply OL.nil
    with_reducible apply At.in_normal
    with_reducible apply At.next
    apply W.reg
    apply obn; rfl; rfl; rfl; apply Bin.add_in; omega
    apply omv; rfl; rfl
    apply OL.nil
    try rw [max_if]
    refine At.again (i + 1) ⟨by omega, fun j p hj hp => ?_, by rw [hfold]; omega⟩ (by omega) (by rw [hfold]; first | exact Sub.au) (fun w' hw' => hw'.thin (by exact Thin.au))
    by_cases e : j = i
    · subst e
      rw [hu] at hp
      obtain rfl := Option.some.inj hp
      unfold altR
      grind
    · exact has j p (by omega) hp
  · obtain rfl : i = ps.length := by omega
    rw [List.take_length] at hwd ⊢
    have haall : x.alts.all (altR x.op) = true := List.all_eq_true.2 fun v hv => by
      rw [← hps] at hv
      obtain ⟨p, hp, rfl⟩ := List.mem_map.1 hv
      obtain ⟨j, hj⟩ := List.getElem?_of_mem hp
      exact has j p (List.getElem?_eq_some_iff.1 hj).1 hj
    have hrok : rangesOk x = true := by unfold rangesOk; grind
    have hwide : wide x = ps.foldl (fun m p => max m p.1.binds.length) x.binds.length := by
      unfold wide
      rw [← hps, List.foldl_map]
    rw [← hwide] at hwd ⊢
    have hre : rangesE x = if (if x.op = 2 then 6 else 16) < wide x ∨ ((x.op = 6 ∨ x.op = 15) ∧ 16 < x.kids.length) ∨ (x.op = 3 ∧ 7 < x.kids.length) ∨ (x.op = 14 ∧ 6 < x.kids.length) then 2 else 0 := by
      unfold rangesE
      rw [if_neg (by simp [hrok])]
    refine W.xt ?_
    with_reducible apply At.next
    apply W.sr
    apply oas; rfl; rfl
    apply OL.nx
    apply W.seq
    apply W.sr
    apply ofa; rfl; rfl; rfl
    apply old; rfl; rfl; exact .head _; rfl; rfl
    apply obn; rfl; rfl; rfl; apply Bin.eql
    apply OL.nx
    refine W.joinx (G := Unit) (fun _ => True) (fun _ => [(1, true, .pointer (some ⟨b0, 0, none⟩)), (5, true, .int .i64 (wide x : Int)), (12, true, .int .i64 ((if x.op = 2 then 6 else 16 : Nat) : Int))]) (fun _ => Cls [blk b0 28 [.int .i64 x.op, .int .i64 x.n, .slice y.b.1 x.binds.length y.b.2, .slice y.k.1 x.kids.length y.k.2, .slice y.a.1 ps.length y.a.2]] [w]) ?_ ?_
    · (refine W.cnd (fun h2 => ?_) (fun h2 => ?_)) <;> (try (exfalso; first | omega | exact h2 trivial | contradiction))
      · apply W.reg
        apply oas; rfl; rfl
        apply OL.nil
        exact At.joinedx () trivial (by simp only [h2, if_true]; exact Sub.au) (fun w' hw' => hw')
      · apply W.skip
        exact At.joinedx () trivial (by simp only [h2, if_false]; exact Sub.au) (fun w' hw' => hw')
    rintro - -
    apply W.seq
    apply W.sr
    apply omv; rfl; rfl
    apply omv; rfl; rfl
    apply obn; rfl; rfl; rfl; apply Bin.gtr
    apply omv; rfl; rfl
    apply ono; rfl; rfl; rfl; apply Pev.fld; rfl; exact yes; rfl
    apply ono; rfl; rfl; rfl; apply Pev.load_blk; rfl; exact fun h => h; exact .head _; rfl; rfl
    apply ono; rfl; rfl; rfl; apply Pev.bin; rfl; exact fun h => h; rfl; exact yes; intro hcond; apply Bin.eql
    apply ono; rfl; rfl; rfl; apply Pev.move; rfl; exact fun h => h
    apply OL.op; exact Guard.cno rfl rfl; rfl; rfl; apply Pev.fld; rfl; exact yes; rfl
    apply OL.op; exact Guard.cno rfl rfl; rfl; rfl; apply Pev.load_blk; rfl; exact fun h => h; exact .head _; rfl; rfl
    apply OL.op; exact Guard.cno rfl rfl; rfl; rfl; apply Pev.bin; rfl; exact fun h => h; rfl; exact yes; intro hcond; apply Bin.eql
    apply ono; rfl; rfl; rfl; apply Pev.pick_or; rfl; exact fun h => h; rfl; exact fun h => h
    apply ono; rfl; rfl; rfl; apply Pev.move; rfl; exact fun h => h
    apply OL.op; exact Guard.cyes rfl rfl; rfl; rfl; apply Pev.fld; rfl; exact yes; rfl
    apply OL.op; exact Guard.cyes rfl rfl; rfl; rfl; apply Pev.load_blk; rfl; exact fun h => h; exact .head _; rfl; rfl
    apply OL.op; exact Guard.cyes rfl rfl; rfl; rfl; apply Pev.len_slice; rfl; exact fun h => h; rfl
    apply OL.op; exact Guard.cyes rfl rfl; rfl; rfl; apply Pev.bin; rfl; exact fun h => h; rfl; exact yes; intro hcond; apply Bin.gtr
    apply ono; rfl; rfl; rfl; apply Pev.pick_and; rfl; exact fun h => h; rfl; exact fun h => h
    apply oop; rfl; apply Pev.pick_or; rfl; exact yes; rfl; exact fun h => h
    apply omv; rfl; rfl
    apply ono; rfl; rfl; rfl; apply Pev.fld; rfl; exact yes; rfl
    apply ono; rfl; rfl; rfl; apply Pev.load_blk; rfl; exact fun h => h; exact .head _; rfl; rfl
    apply ono; rfl; rfl; rfl; apply Pev.bin; rfl; exact fun h => h; rfl; exact yes; intro hcond; apply Bin.eql
    apply ono; rfl; rfl; rfl; apply Pev.move; rfl; exact fun h => h
    apply OL.op; exact Guard.cyes rfl rfl; rfl; rfl; apply Pev.fld; rfl; exact yes; rfl
    apply OL.op; exact Guard.cyes rfl rfl; rfl; rfl; apply Pev.load_blk; rfl; exact fun h => h; exact .head _; rfl; rfl
    apply OL.op; exact Guard.cyes rfl rfl; rfl; rfl; apply Pev.len_slice; rfl; exact fun h => h; rfl
    apply OL.op; exact Guard.cyes rfl rfl; rfl; rfl; apply Pev.bin; rfl; exact fun h => h; rfl; exact yes; intro hcond; apply Bin.gtr
    apply ono; rfl; rfl; rfl; apply Pev.pick_and; rfl; exact fun h => h; rfl; exact fun h => h
    apply oop; rfl; apply Pev.pick_or; rfl; exact yes; rfl; exact fun h => h
    apply omv; rfl; rfl
    apply ono; rfl; rfl; rfl; apply Pev.fld; rfl; exact yes; rfl
    apply ono; rfl; rfl; rfl; apply Pev.load_blk; rfl; exact fun h => h; exact .head _; rfl; rfl
    apply ono; rfl; rfl; rfl; apply Pev.bin; rfl; exact fun h => h; rfl; exact yes; intro hcond; apply Bin.eql
    apply ono; rfl; rfl; rfl; apply Pev.move; rfl; exact fun h => h
    apply OL.op; exact Guard.cyes rfl rfl; rfl; rfl; apply Pev.fld; rfl; exact yes; rfl
    apply OL.op; exact Guard.cyes rfl rfl; rfl; rfl; apply Pev.load_blk; rfl; exact fun h => h; exact .head _; rfl; rfl
    apply OL.op; exact Guard.cyes rfl rfl; rfl; rfl; apply Pev.len_slice; rfl; exact fun h => h; rfl
    apply OL.op; exact Guard.cyes rfl rfl; rfl; rfl; apply Pev.bin; rfl; exact fun h => h; rfl; exact yes; intro hcond; apply Bin.gtr
    apply ono; rfl; rfl; rfl; apply Pev.pick_and; rfl; exact fun h => h; rfl; exact fun h => h
    apply oop; rfl; apply Pev.pick_or; rfl; exact yes; rfl; exact fun h => h
    apply OL.nx
    refine W.cond rfl (fun hb => ?_) (fun hb => ?_)
    · apply W.sr
      apply oas; rfl; rfl
      apply OL.nx
      refine W.rt ?_
      ((with_reducible apply At.fin1); rfl; rfl; intro w' hw')
      refine ⟨by rw [hre, if_pos]; grind, by (exact hw'.fr)⟩
    · apply W.sk
      apply W.sr
      apply oas; rfl; rfl
      apply OL.nx
      apply W.ret
      ((with_reducible apply At.fin1); rfl; rfl; intro w' hw')
      refine ⟨by rw [hre, if_neg]; grind, by (exact hw'.fr)⟩
end Go.Proofs.YtlboppiogeaicaaDoor.co

/- The walk of core's nodeError. Conditions: none. -/
namespace Go.Proofs.YtlboppiogeaicaaDoor.co
open Go.RowKit Go.Eng Go.Co
set_option linter.unusedVariables false
set_option linter.unusedSimpArgs false
set_option maxRecDepth 100000
theorem getx_calls (es : List (Ex × ExY)) (q : Option Addr) (cap b : Nat) (k : Int) (p : Ex × ExY) (w : World) (he : Arr exR w (low w) es q) (hk : 0 ≤ k) (hp : es[k.toNat]? = some p) (hlen : es.length ≤ 4096) (hc : w.cell? ⟨b, 0, none⟩ = some (.slice q es.length cap)) (hb : b < w.heap.size) :
    Calls Tryd.prog 68 [.int .i64 k, .pointer (some ⟨b, 0, none⟩)].toArray w fun e w' => e = .returned (.agg (exC p.1 p.2).toArray) ∧ Ext w w' := by
  have hkl := (List.getElem?_eq_some_iff.1 hp).1
  obtain ⟨a, p', rfl, hab, hp', hcell, hok⟩ := he.get hkl
  rw [hp] at hp'
  obtain rfl := Option.some.inj hp'
  have hab : a.block < w.heap.size := hab
  have hkk : ((k.toNat : Nat) : Int) = k := by omega
  generalize k.toNat = m at *
  subst hkk
  have hcell : CellsAt w (a.add (m * 5)) [.int .i64 p.1.op, .int .i64 p.1.n, .slice p.2.b.1 p.1.binds.length p.2.b.2, .slice p.2.k.1 p.1.kids.length p.2.k.2, .slice p.2.a.1 p.1.alts.length p.2.a.2] := hcell
  refine enter Tryd.func68 rfl Tryd.ntmps68 rfl (Cls.start w) ?_
  (simp only [argEnv, Nat.zero_add, Nat.reduceAdd])
  apply W.sr
  apply OL.alloc; rfl; rfl; exact CellsL.agg; (intro bk hbk; simp only [AllLe, and_true] at hbk)
  apply OL.nsr
  apply oop; rfl; apply Pev.load_kept; rfl; exact yes; exact .head _; rfl; intro hcond; assumption; intro hcond; assumption; intro hcond; exact NotOwned.au
  apply omv; rfl; rfl
  apply oop; rfl; apply Pev.idx; rfl; exact yes; rfl; exact yes; rfl; rfl; intro hcond; omega
  apply oop; rfl; apply Pev.load_keptA; rfl; exact yes; exact .head _; rfl; intro hcond; assumption; rfl; intro hcond; (rw [add_block]; assumption); intro hcond; exact NotOwned.au
  apply OL.storeB; rfl; rfl; exact CellsL.agg; rfl; rfl; rfl; exact Swap.au; exact Put.au
  apply OL.nx
  apply W.ret
  ((with_reducible apply At.finC); rfl; rfl; (exact mau); rfl; rfl; intro w' hw')
  exact ⟨rfl, by (exact hw'.fr)⟩
theorem nodeError_calls (es : List (Ex × ExY)) (q : Option Addr) (cap b : Nat) (x : Ex) (y : ExY) (w : World) (h : ExOk w (low w) x y) (hg : 1 < w.heap.size) (hs : arityAt w)
    (he : Arr exR w (low w) es q) (hlen : es.length ≤ 4096) (hc : w.cell? ⟨b, 0, none⟩ = some (.slice q es.length cap)) (hb : b < w.heap.size) (hkd : ∀ k ∈ x.kids, 0 ≤ k ∧ k < (es.length : Int)) :
    Calls Tryd.prog 67 [.agg (exC x y).toArray, .func (.func 68) #[] #[.pointer (some ⟨b, 0, none⟩)]].toArray w fun e w' => e = .returned (.int .i64 (nodeE (es.map Prod.fst) x)) ∧ Ext w w' := by
  have hal := h.al
  have hkl := h.kl
  have hbl := h.bl
  refine enter Tryd.func67 rfl Tryd.ntmps67 rfl (Cls.start w) ?_
  (simp only [argEnv, Nat.zero_add, Nat.reduceAdd])
  simp only [exC]
  apply W.sr
  apply OL.box; rfl; rfl; exact CellsL.agg; (intro bk hbk; simp only [AllLe, and_true] at hbk)
  apply oas; rfl; rfl
  apply OL.nx
  apply W.seq
  apply W.sr
  apply oop; rfl; apply Pev.load_blkA; rfl; exact yes; exact .head _; rfl; exact Take.au
  (((first | (with_reducible apply OL.op) | (with_reducible apply QL.op)); (exact Guard.au); rfl; rfl); (exact Pev.call rfl (by exact Args.au) (fun _ w2 hw2 => (shape_calls x y w2 (h.at hw2 (by exact mau) (fun k hk => by exact NotOwned.au)) (Nat.lt_of_lt_of_le hg (hw2.kp w (by exact mau)).size) (hs.at hg hw2 (by exact mau) (fun k hk => by exact NotOwned.au))).mono (fun e w3 h => ⟨h.1, hw2.ext h.2⟩))))
  apply oop; rfl; apply Pev.not; rfl; exact yes
  apply OL.nx
  (refine W.cnd (fun hsh => ?_) (fun hsh => ?_)) <;> (try (exfalso; first | omega | exact hsh trivial | contradiction))
  · apply W.sr
    apply oas; rfl; rfl
    apply OL.nx
    refine W.rt ?_
    ((with_reducible apply At.fin1); rfl; rfl; intro w' hw')
    refine ⟨?_, by (exact hw'.fr)⟩
    unfold nodeE
    rw [if_pos (by simpa using hsh)]
  apply W.sk
  apply W.seq
  apply W.sr
  apply oop; rfl; apply Pev.load_blkA; rfl; exact yes; exact .head _; rfl; exact Take.au
  (((first | (with_reducible apply OL.op) | (with_reducible apply QL.op)); (exact Guard.au); rfl; rfl); (exact Pev.call rfl (by exact Args.au) (fun _ w2 hw2 => (ranges_calls x y w2 (h.at hw2 (by exact mau) (fun k hk => by exact NotOwned.au))).mono (fun e w3 h => ⟨h.1, hw2.ext h.2⟩))))
  apply oas; rfl; rfl
  apply OL.nsr
  apply omv; rfl; rfl
  apply obn; rfl; rfl; rfl; apply Bin.neq
  apply OL.nx
  (refine W.cnd (fun hra => ?_) (fun hra => ?_)) <;> (try (exfalso; first | omega | exact hra trivial | contradiction))
  · apply W.sr
    apply omv; rfl; rfl
    apply oas; rfl; rfl
    apply OL.nx
    refine W.rt ?_
    ((with_reducible apply At.fin1); rfl; rfl; intro w' hw')
    refine ⟨?_, by (exact hw'.fr)⟩
    unfold nodeE
    rw [if_neg (by simpa using hsh), if_pos hra]
  have hn0 : nodeE (es.map Prod.fst) x = if kidsB (es.map Prod.fst) x = false then 3 else 0 := by
    unfold nodeE
    rw [if_neg (by simpa using hsh), if_neg (by simpa using hra)]
  have hsh1 : shapeB x = true := by simpa using hsh
  have hk5 : x.op = 5 → x.kids.length = x.binds.length + 1 := fun h5 => by
    have := hsh1
    unfold shapeB sh at this
    simp [h5] at this
    exact this.1.1.1
  apply W.sk
  apply W.seq
  apply W.sr
  apply ofa; rfl; rfl; rfl
  apply old; rfl; rfl; exact .head _; rfl; rfl
  apply oop; rfl; apply Pev.len_slice; rfl; exact yes; rfl
  apply omv; rfl; rfl
  apply OL.nx
  apply W.block
  refine W.loop (G := Nat) (fun i => i ≤ x.binds.length ∧ ∀ j, j < i → bindOk (es.map Prod.fst) x j = true) (fun i => x.binds.length - i)
    (fun i => [(1, true, .func (.func 68) #[] #[.pointer (some ⟨b, 0, none⟩)]), (2, true, .pointer (some ⟨bk, 0, none⟩)), (17, true, .int .i64 (x.binds.length : Int)), (18, true, .int .i64 (i : Int))])
    (fun _ => Cls [blk bk 28 [.int .i64 x.op, .int .i64 x.n, .slice y.b.1 x.binds.length y.b.2, .slice y.k.1 x.kids.length y.k.2, .slice y.a.1 x.alts.length y.a.2]] [w]) 0 ⟨by omega, fun j hj => by omega⟩ (by exact Sub.au) (fun w' hw' => hw') ?_
  rintro i ⟨hi, hall⟩
  apply W.sr
  apply obn; rfl; rfl; rfl; apply Bin.lss
  apply OL.nx
  apply W.seq
  (refine W.cnd (fun hlt => ?_) (fun hlt => ?_)) <;> (try (exfalso; first | omega | exact hlt trivial | contradiction))
  · have hil : i < x.binds.length := by omega
    have hbad : bindOk (es.map Prod.fst) x i = false → nodeE (es.map Prod.fst) x = 3 := fun hf => by
      rw [hn0, if_pos]
      unfold kidsB
      exact not_all_range hil hf
    have hagain : bindOk (es.map Prod.fst) x i = true → ∀ j, j < i + 1 → bindOk (es.map Prod.fst) x j = true := fun hf j hj => by
      by_cases e : j = i
      · rw [e]; exact hf
      · exact hall j (by omega)
    by_cases h5 : x.op = 5
    · have hkl5 := hk5 h5
      obtain ⟨ak, kv, hqk, habk, hkv, hck⟩ := h.k.get (i := i) (by omega)
      have habk : ak.block < w.heap.size := habk
      have hkr := hkd kv (List.mem_of_getElem? hkv)
      obtain ⟨p, hp⟩ : ∃ p, es[kv.toNat]? = some p := ⟨_, List.getElem?_eq_getElem (by omega)⟩
      rw [hqk]
      have hbk : bindOk (es.map Prod.fst) x i = decide (p.1.op = 2) := by
        have e1 : x.kids.getD i 0 = kv := by simp [List.getD, hkv]
        have e2 : (es.map Prod.fst).getD kv.toNat ⟨0, 0, [], [], []⟩ = p.1 := by simp [List.getD, hp]
        unfold bindOk
        rw [e1, e2]
        grind
      have hcall : ∀ (H : List Eng.Item) (w2 : World), (∀ k, k < w.heap.size → NotOwned H k) → Cls H [w] w2 → Calls Tryd.prog 68 [.int .i64 kv, .pointer (some ⟨b, 0, none⟩)].toArray w2 fun e w' => e = .returned (.agg (exC p.1 p.2).toArray) ∧ Cls H [w] w' := fun H w2 hno hw2 =>
        (getx_calls es q cap b kv p w2 (he.at hw2 (.head _) hno) hkr.1 hp hlen (by rw [hw2.cell (.head _) hb (hno _ hb)]; exact hc) (Nat.lt_of_lt_of_le hb (hw2.kp w (.head _)).size)).mono fun e w3 h => ⟨h.1, hw2.ext h.2⟩
      simp only [exC] at hcall
      apply W.sk
      apply W.sb
      apply W.sr
      apply omv; rfl; rfl
      apply oas; rfl; rfl
      apply OL.nx
      apply W.seq
      apply W.regd0; decide +kernel; kernel_rfl; decide +kernel; exact fun w hw => hw.drew
      apply qfa; rfl; rfl; rfl
      apply qld; rfl; rfl; exact .head _; rfl; rfl
      apply qbn; rfl; rfl; rfl; apply Bin.eql
      apply qmv; rfl; rfl
      apply qy; rfl; rfl; rfl; apply Pev.move; rfl; exact yes
      apply qy; rfl; rfl; rfl; apply Pev.fld; rfl; exact yes; rfl
      apply qy; rfl; rfl; rfl; apply Pev.load_blk; rfl; exact fun h => h; exact .head _; rfl; rfl
      apply qy; rfl; rfl; rfl; apply Pev.move; rfl; exact yes
      apply qy; rfl; rfl; rfl; apply Pev.idx; rfl; exact fun h => h; rfl; exact fun h => h; rfl; rfl; intro hcond; omega
      apply qy; rfl; rfl; rfl; apply Pev.load_kept; rfl; exact fun h => h; exact .head _; rfl; intro hcond; assumption; intro hcond; (rw [add_block]; assumption); intro hcond; exact NotOwned.au
      (((first | (with_reducible apply OL.op) | (with_reducible apply QL.op)); (exact Guard.au); rfl; rfl); (apply Pev.callv (first := []) (cap := [.pointer (some ⟨b, 0, none⟩)])); rfl; ((first | exact fun _ => rfl | exact fun h => h | (intro h; simp_all; done))); rfl; (exact Args.au); (exact (fun _ w2 hw2 => hcall _ w2 (fun k hk => by exact NotOwned.au) hw2)))
      apply qy; rfl; rfl; rfl; apply Pev.field; rfl; exact fun h => h; rfl; rfl
      apply qy; rfl; rfl; rfl; apply Pev.bin; rfl; exact fun h => h; rfl; exact yes; intro hcond; apply Bin.neq
      apply qop; rfl; apply Pev.pick_and; rfl; exact yes; rfl; exact fun h => h
      apply qmv; rfl; rfl
      apply qno; rfl; rfl; rfl; apply Pev.fld; rfl; exact yes; rfl
      apply qno; rfl; rfl; rfl; apply Pev.load_blk; rfl; exact fun h => h; exact .head _; rfl; rfl
      apply qno; rfl; rfl; rfl; apply Pev.bin; rfl; exact fun h => h; rfl; exact yes; intro hcond; apply Bin.eql
      apply qno; rfl; rfl; rfl; apply Pev.move; rfl; exact fun h => h
      apply QL.op; exact Guard.cyes rfl rfl; rfl; rfl; apply Pev.move; rfl; exact yes
      apply QL.op; exact Guard.cyes rfl rfl; rfl; rfl; apply Pev.bin; rfl; exact fun h => h; rfl; exact yes; intro hcond; apply Bin.gtr
      apply qno; rfl; rfl; rfl; apply Pev.pick_and; rfl; exact fun h => h; rfl; exact fun h => h
      apply qno; rfl; rfl; rfl; apply Pev.move; rfl; exact fun h => h
      apply QL.op; exact Guard.cyes rfl rfl; rfl; rfl; apply Pev.fld; rfl; exact yes; rfl
      apply QL.op; exact Guard.cyes rfl rfl; rfl; rfl; apply Pev.load_blk; rfl; exact fun h => h; exact .head _; rfl; rfl
      apply QL.op; exact Guard.cyes rfl rfl; rfl; rfl; apply Pev.move; rfl; exact yes
      apply QL.op; exact Guard.cyes rfl rfl; rfl; rfl; apply Pev.bin; rfl; exact fun h => h; rfl; exact yes; intro hcond; apply Bin.sub_in; omega
      apply QL.gateOff; exact Guard.cyes rfl rfl; (simp; omega); rfl
      apply QL.gateOff; exact Guard.cyes rfl rfl; (simp; omega); rfl
      apply QL.op; exact Guard.cyes rfl rfl; rfl; rfl; apply Pev.fld; rfl; exact yes; rfl
      apply QL.op; exact Guard.cyes rfl rfl; rfl; rfl; apply Pev.load_blk; rfl; exact fun h => h; exact .head _; rfl; rfl
      apply QL.op; exact Guard.cyes rfl rfl; rfl; rfl; apply Pev.move; rfl; exact yes
      apply QL.gateOff; exact Guard.cyes rfl rfl; (simp; omega); rfl
      apply QL.gateOff; exact Guard.cyes rfl rfl; (simp; omega); rfl
      apply QL.gateOff; exact Guard.cyes rfl rfl; (simp; omega); rfl
      apply qno; rfl; rfl; rfl; apply Pev.pick_off; rfl; exact fun h => h; (intro hcond; simp; omega); rfl; exact yes
      apply qop; rfl; apply Pev.pick_or; rfl; exact yes; rfl; exact fun h => h
      apply QL.nil
      with_reducible apply At.next
      refine W.cond rfl (fun hb => ?_) (fun hb => ?_)
      · apply W.sr
        apply oas; rfl; rfl
        apply OL.nx
        refine W.rt ?_
        ((with_reducible apply At.fin1); rfl; rfl; intro w' hw')
        exact ⟨by rw [hbad (by rw [hbk]; grind)], by (exact hw'.fr)⟩
      · apply W.skip
        with_reducible apply At.in_normal
        with_reducible apply At.next
        apply W.reg
        apply obn; rfl; rfl; rfl; apply Bin.add_in; omega
        apply omv; rfl; rfl
        apply OL.nil
        exact At.again (i + 1) ⟨by omega, hagain (by first | exact hbk | (rw [hbk]; grind))⟩ (by omega) (by exact Sub.au) (fun w' hw' => hw')
    · by_cases h9 : x.op = 9
      · obtain ⟨ab, vi, hqb, habb, hvi, hci⟩ := h.b.get hil
        have habb : ab.block < w.heap.size := habb
        have e1 : x.binds.getD i 0 = vi := by simp [List.getD, hvi]
        by_cases hi0 : i = 0
        · subst hi0
          have hbk : bindOk (es.map Prod.fst) x 0 = true := by unfold bindOk; grind
          apply W.sk
          apply W.sb
          apply W.sr
          apply omv; rfl; rfl
          apply oas; rfl; rfl
          apply OL.nx
          apply W.seq
          apply W.regd0; decide +kernel; kernel_rfl; decide +kernel; exact fun w hw => hw.drew
          apply qfa; rfl; rfl; rfl
          apply qld; rfl; rfl; exact .head _; rfl; rfl
          apply qbn; rfl; rfl; rfl; apply Bin.eql
          apply qmv; rfl; rfl
          apply qy; rfl; rfl; rfl; apply Pev.move; rfl; exact yes
          apply qy; rfl; rfl; rfl; apply Pev.fld; rfl; exact yes; rfl
          apply qy; rfl; rfl; rfl; apply Pev.load_blk; rfl; exact fun h => h; exact .head _; rfl; rfl
          apply qy; rfl; rfl; rfl; apply Pev.move; rfl; exact yes
          apply QL.gateOff; exact Guard.yes rfl rfl; (simp; omega); rfl
          apply QL.gateOff; exact Guard.yes rfl rfl; (simp; omega); rfl
          apply QL.gateOff; exact Guard.yes rfl rfl; (simp; omega); rfl
          apply QL.gateOff; exact Guard.yes rfl rfl; (simp; omega); rfl
          apply QL.gateOff; exact Guard.yes rfl rfl; (simp; omega); rfl
          apply qop; rfl; apply Pev.pick_off; rfl; exact yes; (intro hcond; simp; omega); rfl; exact yes
          apply qmv; rfl; rfl
          apply qno; rfl; rfl; rfl; apply Pev.fld; rfl; exact yes; rfl
          apply qno; rfl; rfl; rfl; apply Pev.load_blk; rfl; exact yes; exact .head _; rfl; rfl
          apply qno; rfl; rfl; rfl; apply Pev.bin; rfl; exact yes; rfl; exact yes; intro hcond; apply Bin.eql
          apply qno; rfl; rfl; rfl; apply Pev.move; rfl; exact yes
          apply qy; rfl; rfl; rfl; apply Pev.move; rfl; exact yes
          apply qy; rfl; rfl; rfl; apply Pev.bin; rfl; exact fun h => h; rfl; exact yes; intro hcond; apply Bin.gtr
          apply qno; rfl; rfl; rfl; apply Pev.pick_and; rfl; exact yes; rfl; exact fun h => h
          apply qno; rfl; rfl; rfl; apply Pev.move; rfl; exact yes
          apply qy; rfl; rfl; rfl; apply Pev.fld; rfl; exact yes; rfl
          apply qy; rfl; rfl; rfl; apply Pev.load_blk; rfl; exact fun h => h; exact .head _; rfl; rfl
          apply qy; rfl; rfl; rfl; apply Pev.move; rfl; exact yes
          apply qy; rfl; rfl; rfl; apply Pev.bin; rfl; exact fun h => h; rfl; exact yes; intro hcond; apply Bin.sub_in; omega
          apply QL.gateOff; exact Guard.yes rfl rfl; (focus (simp; done)); rfl
          apply QL.gateOff; exact Guard.yes rfl rfl; (focus (simp; done)); rfl
          apply qy; rfl; rfl; rfl; apply Pev.fld; rfl; exact yes; rfl
          apply qy; rfl; rfl; rfl; apply Pev.load_blk; rfl; exact fun h => h; exact .head _; rfl; rfl
          apply qy; rfl; rfl; rfl; apply Pev.move; rfl; exact yes
          apply QL.gateOff; exact Guard.yes rfl rfl; (focus (simp; done)); rfl
          apply QL.gateOff; exact Guard.yes rfl rfl; (focus (simp; done)); rfl
          apply QL.gateOff; exact Guard.yes rfl rfl; (focus (simp; done)); rfl
          apply qno; rfl; rfl; rfl; apply Pev.pick_off; rfl; exact yes; (focus (intro hcond; simp; done)); rfl; exact yes
          apply qop; rfl; apply Pev.pick_or; rfl; exact yes; rfl; exact yes
          apply QL.nil
          with_reducible apply At.next
          refine W.cond rfl (fun hb => ?_) (fun hb => ?_)
          · apply W.sr
            apply oas; rfl; rfl
            apply OL.nx
            refine W.rt ?_
            ((with_reducible apply At.fin1); rfl; rfl; intro w' hw')
            exact ⟨by rw [hbad (by rw [hbk]; grind)], by (exact hw'.fr)⟩
          · apply W.skip
            with_reducible apply At.in_normal
            with_reducible apply At.next
            apply W.reg
            apply obn; rfl; rfl; rfl; apply Bin.add_in; omega
            apply omv; rfl; rfl
            apply OL.nil
            exact At.again (0 + 1) ⟨by omega, hagain (by first | exact hbk | (rw [hbk]; grind))⟩ (by omega) (by exact Sub.au) (fun w' hw' => hw')
        · obtain ⟨ab2, vm, hqb2, _, hvm, hcm⟩ := h.b.get (i := i - 1) (by omega)
          rw [hqb] at hqb2
          obtain rfl := Option.some.inj hqb2
          have e2 : x.binds.getD (i - 1) 0 = vm := by simp [List.getD, hvm]
          have hbk : bindOk (es.map Prod.fst) x i = decide (vm < vi) := by
            unfold bindOk
            rw [e1, e2]
            grind
          have hcm : w.cell? (ab.add (((i : Int) - 1).toNat * 1)) = some (.int .i64 vm) := by rw [show ((i : Int) - 1).toNat = i - 1 by omega]; exact hcm
          rw [hqb]
          apply W.sk
          apply W.sb
          apply W.sr
          apply omv; rfl; rfl
          apply oas; rfl; rfl
          apply OL.nx
          apply W.seq
          apply W.regd0; decide +kernel; kernel_rfl; decide +kernel; exact fun w hw => hw.drew
          apply qfa; rfl; rfl; rfl
          apply qld; rfl; rfl; exact .head _; rfl; rfl
          apply qbn; rfl; rfl; rfl; apply Bin.eql
          apply qmv; rfl; rfl
          apply qy; rfl; rfl; rfl; apply Pev.move; rfl; exact yes
          apply qy; rfl; rfl; rfl; apply Pev.fld; rfl; exact yes; rfl
          apply qy; rfl; rfl; rfl; apply Pev.load_blk; rfl; exact fun h => h; exact .head _; rfl; rfl
          apply qy; rfl; rfl; rfl; apply Pev.move; rfl; exact yes
          apply QL.gateOff; exact Guard.yes rfl rfl; (simp; omega); rfl
          apply QL.gateOff; exact Guard.yes rfl rfl; (simp; omega); rfl
          apply QL.gateOff; exact Guard.yes rfl rfl; (simp; omega); rfl
          apply QL.gateOff; exact Guard.yes rfl rfl; (simp; omega); rfl
          apply QL.gateOff; exact Guard.yes rfl rfl; (simp; omega); rfl
          apply qop; rfl; apply Pev.pick_off; rfl; exact yes; (intro hcond; simp; omega); rfl; exact yes
          apply qmv; rfl; rfl
          apply qno; rfl; rfl; rfl; apply Pev.fld; rfl; exact yes; rfl
          apply qno; rfl; rfl; rfl; apply Pev.load_blk; rfl; exact yes; exact .head _; rfl; rfl
          apply qno; rfl; rfl; rfl; apply Pev.bin; rfl; exact yes; rfl; exact yes; intro hcond; apply Bin.eql
          apply qno; rfl; rfl; rfl; apply Pev.move; rfl; exact yes
          apply qy; rfl; rfl; rfl; apply Pev.move; rfl; exact yes
          apply qy; rfl; rfl; rfl; apply Pev.bin; rfl; exact fun h => h; rfl; exact yes; intro hcond; apply Bin.gtr
          apply qno; rfl; rfl; rfl; apply Pev.pick_and; rfl; exact yes; rfl; exact fun h => h
          apply qno; rfl; rfl; rfl; apply Pev.move; rfl; exact yes
          apply qy; rfl; rfl; rfl; apply Pev.fld; rfl; exact yes; rfl
          apply qy; rfl; rfl; rfl; apply Pev.load_blk; rfl; exact fun h => h; exact .head _; rfl; rfl
          apply qy; rfl; rfl; rfl; apply Pev.move; rfl; exact yes
          apply qy; rfl; rfl; rfl; apply Pev.bin; rfl; exact fun h => h; rfl; exact yes; intro hcond; apply Bin.sub_in; omega
          apply qy; rfl; rfl; rfl; apply Pev.idxI; rfl; exact fun h => h; rfl; exact fun h => h; rfl; intro hcond; omega
          apply qy; rfl; rfl; rfl; apply Pev.load_kept; rfl; exact fun h => h; exact .head _; rfl; intro hcond; assumption; intro hcond; (rw [add_block]; assumption); intro hcond; exact NotOwned.au
          apply qy; rfl; rfl; rfl; apply Pev.fld; rfl; exact yes; rfl
          apply qy; rfl; rfl; rfl; apply Pev.load_blk; rfl; exact fun h => h; exact .head _; rfl; rfl
          apply qy; rfl; rfl; rfl; apply Pev.move; rfl; exact yes
          apply qy; rfl; rfl; rfl; apply Pev.idx; rfl; exact fun h => h; rfl; exact fun h => h; rfl; rfl; intro hcond; omega
          apply qy; rfl; rfl; rfl; apply Pev.load_kept; rfl; exact fun h => h; exact .head _; rfl; intro hcond; assumption; intro hcond; (rw [add_block]; assumption); intro hcond; exact NotOwned.au
          apply qy; rfl; rfl; rfl; apply Pev.bin; rfl; exact fun h => h; rfl; exact fun h => h; intro hcond; apply Bin.geq
          apply qno; rfl; rfl; rfl; apply Pev.pick_and; rfl; exact yes; rfl; exact fun h => h
          apply qop; rfl; apply Pev.pick_or; rfl; exact yes; rfl; exact yes
          apply QL.nil
          with_reducible apply At.next
          refine W.cond rfl (fun hb => ?_) (fun hb => ?_)
          · apply W.sr
            apply oas; rfl; rfl
            apply OL.nx
            refine W.rt ?_
            ((with_reducible apply At.fin1); rfl; rfl; intro w' hw')
            exact ⟨by rw [hbad (by rw [hbk]; grind)], by (exact hw'.fr)⟩
          · apply W.skip
            with_reducible apply At.in_normal
            with_reducible apply At.next
            apply W.reg
            apply obn; rfl; rfl; rfl; apply Bin.add_in; omega
            apply omv; rfl; rfl
            apply OL.nil
            exact At.again (i + 1) ⟨by omega, hagain (by first | exact hbk | (rw [hbk]; grind))⟩ (by omega) (by exact Sub.au) (fun w' hw' => hw')
      · have hbk : bindOk (es.map Prod.fst) x i = true := by unfold bindOk; grind
        apply W.sk
        apply W.sb
        apply W.sr
        apply omv; rfl; rfl
        apply oas; rfl; rfl
        apply OL.nx
        apply W.seq
        apply W.regd0; decide +kernel; kernel_rfl; decide +kernel; exact fun w hw => hw.drew
        apply qfa; rfl; rfl; rfl
        apply qld; rfl; rfl; exact .head _; rfl; rfl
        apply qbn; rfl; rfl; rfl; apply Bin.eql
        apply qmv; rfl; rfl
        apply qy; rfl; rfl; rfl; apply Pev.move; rfl; exact yes
        apply qy; rfl; rfl; rfl; apply Pev.fld; rfl; exact yes; rfl
        apply qy; rfl; rfl; rfl; apply Pev.load_blk; rfl; exact fun h => h; exact .head _; rfl; rfl
        apply qy; rfl; rfl; rfl; apply Pev.move; rfl; exact yes
        apply QL.gateOff; exact Guard.yes rfl rfl; (simp; omega); rfl
        apply QL.gateOff; exact Guard.yes rfl rfl; (simp; omega); rfl
        apply QL.gateOff; exact Guard.yes rfl rfl; (simp; omega); rfl
        apply QL.gateOff; exact Guard.yes rfl rfl; (simp; omega); rfl
        apply QL.gateOff; exact Guard.yes rfl rfl; (simp; omega); rfl
        apply qop; rfl; apply Pev.pick_off; rfl; exact yes; (intro hcond; simp; omega); rfl; exact yes
        apply qmv; rfl; rfl
        apply qno; rfl; rfl; rfl; apply Pev.fld; rfl; exact yes; rfl
        apply qno; rfl; rfl; rfl; apply Pev.load_blk; rfl; exact yes; exact .head _; rfl; rfl
        apply qno; rfl; rfl; rfl; apply Pev.bin; rfl; exact yes; rfl; exact yes; intro hcond; apply Bin.eql
        apply qno; rfl; rfl; rfl; apply Pev.move; rfl; exact yes
        apply qy; rfl; rfl; rfl; apply Pev.move; rfl; exact yes
        apply qy; rfl; rfl; rfl; apply Pev.bin; rfl; exact fun h => h; rfl; exact yes; intro hcond; apply Bin.gtr
        apply qno; rfl; rfl; rfl; apply Pev.pick_and; rfl; exact yes; rfl; exact fun h => h
        apply qno; rfl; rfl; rfl; apply Pev.move; rfl; exact yes
        apply qy; rfl; rfl; rfl; apply Pev.fld; rfl; exact yes; rfl
        apply qy; rfl; rfl; rfl; apply Pev.load_blk; rfl; exact fun h => h; exact .head _; rfl; rfl
        apply qy; rfl; rfl; rfl; apply Pev.move; rfl; exact yes
        apply qy; rfl; rfl; rfl; apply Pev.bin; rfl; exact fun h => h; rfl; exact yes; intro hcond; apply Bin.sub_in; omega
        apply QL.gateOff; exact Guard.yes rfl rfl; (simp; omega); rfl
        apply QL.gateOff; exact Guard.yes rfl rfl; (simp; omega); rfl
        apply qy; rfl; rfl; rfl; apply Pev.fld; rfl; exact yes; rfl
        apply qy; rfl; rfl; rfl; apply Pev.load_blk; rfl; exact fun h => h; exact .head _; rfl; rfl
        apply qy; rfl; rfl; rfl; apply Pev.move; rfl; exact yes
        apply QL.gateOff; exact Guard.yes rfl rfl; (simp; omega); rfl
        apply QL.gateOff; exact Guard.yes rfl rfl; (simp; omega); rfl
        apply QL.gateOff; exact Guard.yes rfl rfl; (simp; omega); rfl
        apply qno; rfl; rfl; rfl; apply Pev.pick_off; rfl; exact yes; (intro hcond; simp; omega); rfl; exact yes
        apply qop; rfl; apply Pev.pick_or; rfl; exact yes; rfl; exact yes
        apply QL.nil
        with_reducible apply At.next
        refine W.cond rfl (fun hb => ?_) (fun hb => ?_)
        · apply W.sr
          apply oas; rfl; rfl
          apply OL.nx
          refine W.rt ?_
          ((with_reducible apply At.fin1); rfl; rfl; intro w' hw')
          exact ⟨by rw [hbad (by rw [hbk]; grind)], by (exact hw'.fr)⟩
        · apply W.skip
          with_reducible apply At.in_normal
          with_reducible apply At.next
          apply W.reg
          apply obn; rfl; rfl; rfl; apply Bin.add_in; omega
          apply omv; rfl; rfl
          apply OL.nil
          exact At.again (i + 1) ⟨by omega, hagain (by first | exact hbk | (rw [hbk]; grind))⟩ (by omega) (by exact Sub.au) (fun w' hw' => hw')
  · obtain rfl : i = x.binds.length := by omega
    have hkb : kidsB (es.map Prod.fst) x = true := all_range hall
    refine W.xt ?_
    with_reducible apply At.next
    apply W.sr
    apply oas; rfl; rfl
    apply OL.nx
    apply W.ret
    ((with_reducible apply At.fin1); rfl; rfl; intro w' hw')
    exact ⟨by rw [hn0, if_neg (by simp [hkb])], by (exact hw'.fr)⟩
end Go.Proofs.YtlboppiogeaicaaDoor.co

/- Maps whose keys are strings, of the call's own: an item for the list of keys and values; make, look up, put a new key, delete. General. No condition. -/
namespace Go.Eng
open Go.RowKit Go.MapKept
set_option linter.unusedVariables false
set_option linter.unusedSimpArgs false

abbrev MP := List (ByteArray × Value)
def mget : MP → ByteArray → Option Value
  | [], _ => none
  | p :: r, k => if p.1 = k then some p.2 else mget r k
def mdel : MP → ByteArray → MP
  | [], _ => []
  | p :: r, k => if p.1 = k then r else p :: mdel r k
def mcells (m : MP) : List (Value × Value) := m.map fun p => (.string p.1, p.2)
/-- the map in block b -/
def mapS (b : Nat) (m : MP) : Item :=
  ⟨fun k => k = b, fun w => ∃ es clock, w.heap[b]? = some (.map es clock) ∧ es.toList.map (fun e => (e.key, e.val)) = mcells m, fun w w' hk ⟨es, c, h, h2⟩ => ⟨es, c, (hk b rfl).trans h, h2⟩⟩
theorem NotOwned.mapS {H : List Item} {b : Nat} {m : MP} {k : Nat} (h : k ≠ b) (r : NotOwned H k) : NotOwned (Eng.mapS b m :: H) k := NotOwned.any (fun hm => h hm) r
theorem mapS_lt {w : World} {b : Nat} {m : MP} (h : (mapS b m).holds w) : b < w.heap.size := by
  obtain ⟨es, c, h1, _⟩ := h
  exact (Array.getElem?_eq_some_iff.1 h1).1

theorem now_str : ∀ (es : List MapEntry) (m : MP) (i : Nat) (k : ByteArray), es.map (fun e => (e.key, e.val)) = mcells m →
    (Instr.findNow .string (.string k) es i = some none ∧ mget m k = none) ∨ ∃ j v, Instr.findNow .string (.string k) es i = some (some (i + j, v)) ∧ mget m k = some v ∧ es.eraseIdx j = es.eraseIdx j ∧ (es.eraseIdx j).map (fun e => (e.key, e.val)) = mcells (mdel m k) ∧ j < es.length
  | [], m, i, k, h => by
    cases m with
    | nil => exact .inl ⟨rfl, rfl⟩
    | cons p r => simp [mcells] at h
  | e :: es, m, i, k, h => by
    cases m with
    | nil => simp [mcells] at h
    | cons p r =>
      simp only [mcells, List.map_cons, List.cons.injEq, Prod.mk.injEq] at h
      obtain ⟨⟨h1, h2⟩, h3⟩ := h
      by_cases hk : p.1 = k
      · refine .inr ⟨0, e.val, ?_, by simp [mget, hk, h2], rfl, ?_, by simp⟩
        · simp [Instr.findNow, Instr.sameNow, h1, (Go.MapKept.bytes_beq k p.1).2 hk.symm]
        · simp only [List.eraseIdx_cons_zero, mdel, hk, if_true]
          exact h3
      · have hb : (k == p.1) = false := by
          rw [Bool.eq_false_iff]
          exact fun hh => hk ((Go.MapKept.bytes_beq k p.1).1 hh).symm
        rcases now_str es r (i + 1) k h3 with ⟨h4, h5⟩ | ⟨j, v, h4, h5, _, h6, h7⟩
        · exact .inl ⟨by simp [Instr.findNow, Instr.sameNow, h1, hb, h4], by simp [mget, hk, h5]⟩
        · refine .inr ⟨j + 1, v, by simp [Instr.findNow, Instr.sameNow, h1, hb, h4]; omega, by simp [mget, hk, h5], rfl, ?_, by simp; omega⟩
          simp only [List.eraseIdx_cons_succ, List.map_cons, mdel, hk, if_false, mcells, h1, h2]
          rw [h6]; rfl
section
variable {P : Program} {n : Nat} {l : Env} {H : List Item} {S : List World} {C : World → Prop} {c : Bool} {d : Option Nat} {ty : TypeId} {pos : String} {af : Array Edge} {g : Option (Nat × Bool)}
variable {ops : Array Oper} {rest : List Oper} {Q : Exit → Act → World → Prop} {t : TypeId} {x y z : Operand} {cx cy cz : Bool}

/-- key and element type of a map type with strings as keys -/
def mapT (P : Program) (t : TypeId) : Option (TypeId × TypeId) := match P.underlying t with
  | some (.map k e) => match P.underlying k with
    | some .string => some (k, e)
    | _ => none
  | _ => none
theorem mapT_spec {k e : TypeId} (h : mapT P t = some (k, e)) : P.underlying t = some (.map k e) ∧ P.underlying k = some .string := by
  unfold mapT at h
  split at h
  · split at h
    · simp only [Option.some.injEq, Prod.mk.injEq] at h
      obtain ⟨rfl, rfl⟩ := h
      rename_i h1 _ h2
      exact ⟨h1, h2⟩
    · cases h
  · cases h
theorem isKey_str (s : ByteArray) : IsKey .string (.string s) := by simp [IsKey]

theorem Pev.lookup {k e : TypeId} {b : Nat} {m : MP} {s : ByteArray} {zv : Value} (hx : evl l x = some (cx, .map (some b))) (hcx : c = true → cx = true) (hy : evl l y = some (cy, .string s)) (hcy : c = true → cy = true) (ht : mapT P t = some (k, e)) (hz : zeroV P e = some zv) (hm : mapS b m ∈ H) :
    Pev P n l (Cls H S) ⟨d, .lookup t x y false, ty, pos, af, g⟩ c ((mget m s).getD zv) :=
  .of_run fun h a w hs hw => by
    obtain ⟨h1, h2⟩ := mapT_spec ht
    obtain ⟨es, clock, hb, hes⟩ := hw.item hm
    have hr : (Instr.lookup t (.map (some b)) (.string s) false).run P w = .ok ((mget m s).getD zv) w := by
      simp only [Instr.lookup, Sem.run_bind, run_underlying h1, Result.andThen_ok, Go.MapKept.run_getObj_map (P := P) hb, Sem.run_pure, run_checkKey h2 (isKey_str s)]
      rcases now_str es.toList m 0 s hes with ⟨h3, h4⟩ | ⟨j, v, h3, h4, _⟩
      · rw [run_findKey h2 h3]
        simp [run_zeroV hz, h4]
      · rw [run_findKey h2 h3]
        simp [h4]
    simp only [execOp, hs.eval hx (hcx h), hs.eval hy (hcy h), Sem.run_bind, hr, Result.andThen_ok]
    rfl
/-- a map of pointers -/
theorem Pev.lookup_in {k e : TypeId} {b j : Nat} {m : MP} {s : ByteArray} (hx : evl l x = some (cx, .map (some b))) (hcx : c = true → cx = true) (hy : evl l y = some (cy, .string s)) (hcy : c = true → cy = true) (ht : mapT P t = some (k, e)) (hz : zeroV P e = some (.pointer none)) (hm : mapS b m ∈ H) (hg : mget m s = some (.pointer (some ⟨j, 0, none⟩))) :
    Pev P n l (Cls H S) ⟨d, .lookup t x y false, ty, pos, af, g⟩ c (.pointer (some ⟨j, 0, none⟩)) := by
  have := Pev.lookup (P := P) (n := n) (S := S) (d := d) (ty := ty) (pos := pos) (af := af) (g := g) hx hcx hy hcy ht hz hm
  rw [hg] at this; exact this
theorem Pev.lookup_no {k e : TypeId} {b : Nat} {m : MP} {s : ByteArray} (hx : evl l x = some (cx, .map (some b))) (hcx : c = true → cx = true) (hy : evl l y = some (cy, .string s)) (hcy : c = true → cy = true) (ht : mapT P t = some (k, e)) (hz : zeroV P e = some (.pointer none)) (hm : mapS b m ∈ H) (hg : mget m s = none) :
    Pev P n l (Cls H S) ⟨d, .lookup t x y false, ty, pos, af, g⟩ c (.pointer none) := by
  have := Pev.lookup (P := P) (n := n) (S := S) (d := d) (ty := ty) (pos := pos) (af := af) (g := g) hx hcx hy hcy ht hz hm
  rw [hg] at this; exact this
theorem OL.makeMap {dd : Nat} {k e : TypeId} (hn : Nat.ble (dd + 1) n = true) (ht : mapT P t = some (k, e)) (kk : ∀ b, AllLe S b → OL P n ops Q rest ((dd, true, .map (some b)) :: l) (Cls (mapS b [] :: H) S)) :
    OL P n ops Q (⟨some dd, .makeMap t none, ty, pos, af, none⟩ :: rest) l (Cls H S) :=
  OL.new (C' := fun b w => AllLe S b ∧ Cls (mapS b [] :: H) S w) rfl rfl hn (fun b => .map (some b))
    (fun a w hs hc => ⟨w.heap.size, w.alloc (.map #[] 0), rfl, AllLe.mk hc, hc.add (ext_alloc w _) _ ⟨#[], 0, heap_alloc_new w _, rfl⟩ (fun k hk => by
      have hk' : k = w.heap.size := hk
      subst hk'; simp)⟩)
    (fun b => ⟨fun a w hs hc => (kk b hc.1).run a w hs hc.2⟩)
theorem set_heap {w : World} {b : Nat} {o o' : Obj} (hb : w.heap[b]? = some o) : ({ w with heap := w.heap.setIfInBounds b o' } : World).heap[b]? = some o' ∧ Keep (fun k => k = b) w { w with heap := w.heap.setIfInBounds b o' } := by
  have hlt := (Array.getElem?_eq_some_iff.1 hb).1
  refine ⟨by simp [Array.getElem?_setIfInBounds, hlt], rfl, rfl, rfl, by simp, fun k hk hne => ?_⟩
  have : ¬ b = k := fun e => hne e.symm
  simp [Array.getElem?_setIfInBounds, this]
/-- a key that is not there yet -/
theorem OL.mapPut {k e : TypeId} {b p : Nat} {m : MP} {s : ByteArray} {v : Value} {F : Item → List Item} (hx : evl l x = some (true, .map (some b))) (hy : evl l y = some (true, .string s)) (hz : evl l z = some (true, v)) (ht : mapT P t = some (k, e)) (hH : Hole p H (mapS b m) F) (hno : mget m s = none)
    (kk : OL P n ops Q rest l (Cls (F (mapS b (m ++ [(s, v)]))) S)) : OL P n ops Q (⟨none, .mapUpdate t x y z, ty, pos, af, none⟩ :: rest) l (Cls H S) := by
  obtain ⟨hp, hF⟩ := hH.eq
  rw [hF] at kk
  obtain ⟨h1, h2⟩ := mapT_spec ht
  refine OL.store_ (C' := Cls (H.set p (mapS b (m ++ [(s, v)]))) S) rfl rfl (fun a w hs hc => ?_) kk
  obtain ⟨es, clock, hb, hes⟩ := hc.item (List.mem_of_getElem? hp)
  obtain ⟨hh, hk⟩ := set_heap (o' := .map (es.push { key := .string s, val := v, born := clock }) (clock + 1)) hb
  refine ⟨_, ?_, hc.turn p hp (j := mapS b (m ++ [(s, v)])) hk ⟨_, _, hh, ?_⟩ (fun q hq => ?_) (fun q hq => hq)⟩
  · have h3 : Instr.findNow .string (.string s) es.toList 0 = some none := by
      rcases now_str es.toList m 0 s hes with ⟨h3, h4⟩ | ⟨j, v', h3, h4, _⟩
      · exact h3
      · rw [hno] at h4; cases h4
    have hr : (Instr.mapUpdate t (.map (some b)) (.string s) v).run P w = .ok () { w with heap := w.heap.setIfInBounds b (.map (es.push { key := .string s, val := v, born := clock }) (clock + 1)) } := by
      simp only [Instr.mapUpdate, Sem.run_bind, run_underlying h1, Result.andThen_ok, Go.MapKept.run_getObj_map (P := P) hb, run_checkKey h2 (isKey_str s), run_findKey h2 h3, run_setObj_map _ hb]
    simp only [execOp, hs.eval hx rfl, hs.eval hy rfl, hs.eval hz rfl, Sem.run_bind, hr, Result.andThen_ok]
    rfl
  · simp [hes, mcells]
  · have hq' : q = b := hq
    subst hq'
    exact ⟨.inl rfl, Nat.lt_of_lt_of_le (hc.lt _ (List.mem_of_getElem? hp) q rfl) hk.size⟩
theorem OL.mapDel {k e : TypeId} {b p : Nat} {m : MP} {s : ByteArray} {t2 : TypeId} {F : Item → List Item} (hx : evl l x = some (true, .map (some b))) (hy : evl l y = some (true, .string s)) (ht : mapT P t = some (k, e)) (hH : Hole p H (mapS b m) F) (hin : (mget m s).isSome = true)
    (kk : OL P n ops Q rest l (Cls (F (mapS b (mdel m s))) S)) : OL P n ops Q (⟨none, .call { callee := .builtin .delete, args := #[x, y], argTypes := #[t, t2] }, ty, pos, af, none⟩ :: rest) l (Cls H S) := by
  obtain ⟨hp, hF⟩ := hH.eq
  rw [hF] at kk
  obtain ⟨h1, h2⟩ := mapT_spec ht
  refine ⟨fun a w hs hc => ?_⟩
  refine wpList_plain rfl fun K hK => ?_
  show Oper.upon P _ a K Q ((execOp a.eval _).run P w)
  obtain ⟨es, clock, hb, hes⟩ := hc.item (List.mem_of_getElem? hp)
  rcases now_str es.toList m 0 s hes with ⟨h3, h4⟩ | ⟨j, v, h3, h4, _, h5, h6⟩
  · rw [h4] at hin; cases hin
  rw [Nat.zero_add] at h3
  obtain ⟨hh, hk⟩ := set_heap (o' := .map (es.eraseIdxIfInBounds j) clock) hb
  have hr : (Builtin.delete_ #[t, t2] ty #[.map (some b), .string s]).run P w = .ok (.tuple #[]) { w with heap := w.heap.setIfInBounds b (.map (es.eraseIdxIfInBounds j) clock) } := by
    simp [Builtin.delete_, run_underlying h1, Go.MapKept.run_getObj_map (P := P) hb, run_checkKey h2 (isKey_str s), run_findKey h2 h3, run_setObj_map _ hb]
  simp only [execOp, resolve, invoke, builtin, Sem.run_bind, Sem.run_pure, Result.andThen_ok, List.map_toArray, List.map_cons, List.map_nil, hs.eval hx rfl, hs.eval hy rfl, hr]
  refine hK _ _ (kk.run a _ hs (hc.turn p hp (j := mapS b (mdel m s)) hk ⟨_, _, hh, ?_⟩ (fun q hq => ?_) (fun q hq => hq)))
  · have : (es.eraseIdxIfInBounds j).toList = es.toList.eraseIdx j := by
      unfold Array.eraseIdxIfInBounds
      rw [dif_pos (by simpa using h6)]
      simp
    rw [this]; exact h5
  · have hq' : q = b := hq
    subst hq'
    exact ⟨.inl rfl, Nat.lt_of_lt_of_le (hc.lt _ (List.mem_of_getElem? hp) q rfl) hk.size⟩
end
end Go.Eng

/- Nodes of four cells (two strings, two pointers), each in a block of its own: an item for a table of them; loads, stores of the pointers, new ones, comparisons of pointers. General. No condition. -/
namespace Go.Eng
open Go.RowKit
set_option linter.unusedVariables false
set_option linter.unusedSimpArgs false

structure Nd where
  key : ByteArray
  val : ByteArray
  nx : Option Nat
  pr : Option Nat
abbrev NdT := Nat → Option Nd
def ptrV (k : Nat) : Value := .pointer (some ⟨k, 0, none⟩)
def ptrO : Option Nat → Value | none => .pointer none | some k => .pointer (some ⟨k, 0, none⟩)
def ndc (x : Nd) : List Value := [.string x.key, .string x.val, ptrO x.nx, ptrO x.pr]
def setNx (f : NdT) (b v : Nat) : NdT := fun k => if k = b then (f k).map fun y => { y with nx := some v } else f k
def setPr (f : NdT) (b v : Nat) : NdT := fun k => if k = b then (f k).map fun y => { y with pr := some v } else f k
theorem setNx_some {f : NdT} {b v k : Nat} : (setNx f b v k).isSome = (f k).isSome := by unfold setNx; split <;> simp
theorem setPr_some {f : NdT} {b v k : Nat} : (setPr f b v k).isSome = (f k).isSome := by unfold setPr; split <;> simp
def fset (f : NdT) (b : Nat) (x : Nd) : NdT := fun k => if k = b then some x else f k
theorem fset_same {f : NdT} {b : Nat} {x : Nd} : fset f b x b = some x := by simp [fset]
theorem fset_other {f : NdT} {b k : Nat} {x : Nd} (h : k ≠ b) : fset f b x k = f k := by simp [fset, h]
theorem fset_some {f : NdT} {b k : Nat} {x : Nd} (h : (f k).isSome = true) : (fset f b x k).isSome = true := by
  unfold fset; split <;> simp_all
/-- the nodes of the table f -/
def nds (t : TypeId) (f : NdT) : Item :=
  ⟨fun k => (f k).isSome = true, fun w => ∀ k x, f k = some x → w.heap[k]? = some (.cells (ndc x).toArray t (0, 0)), fun w w' hk h k x hx => (hk k (by simp [hx])).trans (h k x hx)⟩
theorem NotOwned.nds {H : List Item} {t : TypeId} {f : NdT} {k : Nat} (h : f k = none) (r : NotOwned H k) : NotOwned (Eng.nds t f :: H) k := NotOwned.any (fun hm => by
  have hm' : (f k).isSome = true := hm
  rw [h] at hm'; cases hm') r
section
variable {P : Program} {n : Nat} {l : Env} {H : List Item} {S : List World} {C : World → Prop} {c : Bool} {d : Option Nat} {ty : TypeId} {pos : String} {af : Array Edge} {g : Option (Nat × Bool)}
variable {ops : Array Oper} {rest : List Oper} {Q : Exit → Act → World → Prop} {t : TypeId} {x y z : Operand} {cx cy cz : Bool}

theorem Pev.load_nd {b o : Nat} {t' : TypeId} {f : NdT} {ky va : ByteArray} {nx pr : Option Nat} {v : Value} (hx : evl l x = some (cx, .pointer (some ⟨b, o, none⟩))) (hcx : c = true → cx = true) (hp : nds t' f ∈ H) (hs : scalB P t = true) (hf : f b = some ⟨ky, va, nx, pr⟩) (hv : ([.string ky, .string va, ptrO nx, ptrO pr] : List Value)[o]? = some v) :
    Pev P n l (Cls H S) ⟨d, .load t x, ty, pos, af, g⟩ c v :=
  .load_of hx hcx fun _ w hw => run_loadVar_scal hs (by
    have hb : (blk b t' (ndc ⟨ky, va, nx, pr⟩)).holds w := hw.item hp b _ hf
    rw [blk_cell hb]; exact hv)
theorem OL.storeNd {p b o : Nat} {t' : TypeId} {f : NdT} {nd nd' : Nd} {v : Value} {F : Item → List Item} (hx : evl l x = some (true, .pointer (some ⟨b, o, none⟩))) (hy : evl l y = some (true, v)) (hv : v.cells = #[v]) (h1 : oneL [v] = true) (hs : sizeN P t = some 1)
    (hH : Hole p H (nds t' f) F) (hf : f b = some nd) (ho : o < 4) (hnd : ndc nd' = (ndc nd).set o v) (kk : OL P n ops Q rest l (Cls (F (nds t' (fset f b nd'))) S)) : OL P n ops Q (⟨none, .store t x y, ty, pos, af, none⟩ :: rest) l (Cls H S) := by
  obtain ⟨hp, hF⟩ := hH.eq
  rw [hF] at kk
  refine OL.store_ (C' := Cls (H.set p (nds t' (fset f b nd'))) S) rfl rfl (fun a w hs' hc => ?_) kk
  have hb := hc.item (List.mem_of_getElem? hp) b nd hf
  obtain ⟨w', hr, hh, hkp⟩ := run_storeAt_blk (P := P) (t := t) (o := o) (vs := [v]) hb hs hv rfl (by simp [ndc]; omega) h1
  have own : (nds t' f).own b := by show (f b).isSome = true; rw [hf]; rfl
  refine ⟨w', ?_, hc.turn p hp (j := nds t' (fset f b nd')) (hkp.mono fun k _ hk => by rw [hk]; exact own) (fun k u hu => ?_) (fun q hq => ?_) (fun q hq => fset_some hq)⟩
  · simp only [execOp, hs'.eval hx rfl, hs'.eval hy rfl, Sem.run_bind, hr, Result.andThen_ok]; rfl
  · by_cases hkb : k = b
    · subst hkb
      rw [fset_same] at hu
      cases hu
      rw [hh, hnd]; rfl
    · rw [fset_other hkb] at hu
      have h3 := hc.item (List.mem_of_getElem? hp) k u hu
      exact (hkp.block k (Array.getElem?_eq_some_iff.1 h3).1 hkb).trans h3
  · have hq' : (fset f b nd' q).isSome = true := hq
    have hq2 : (f q).isSome = true := by
      by_cases hqb : q = b
      · subst hqb; rw [hf]; rfl
      · rwa [fset_other hqb] at hq'
    exact ⟨.inl hq2, Nat.lt_of_lt_of_le (hc.lt _ (List.mem_of_getElem? hp) q hq2) hkp.size⟩
theorem OL.storeNx {p b k : Nat} {t' : TypeId} {f : NdT} {F : Item → List Item} (hx : evl l x = some (true, .pointer (some ⟨b, 2, none⟩))) (hy : evl l y = some (true, .pointer (some ⟨k, 0, none⟩))) (hs : sizeN P t = some 1)
    (hH : Hole p H (nds t' f) F) (hf : (f b).isSome = true) (kk : OL P n ops Q rest l (Cls (F (nds t' (setNx f b k))) S)) : OL P n ops Q (⟨none, .store t x y, ty, pos, af, none⟩ :: rest) l (Cls H S) := by
  obtain ⟨nd, hnd⟩ := Option.isSome_iff_exists.1 hf
  refine OL.storeNd (nd' := { nd with nx := some k }) hx hy rfl rfl hs hH hnd (by decide) rfl ?_
  have : fset f b { nd with nx := some k } = setNx f b k := by
    funext j
    unfold fset setNx
    by_cases hj : j = b
    · rw [if_pos hj, if_pos hj, hj, hnd]; rfl
    · rw [if_neg hj, if_neg hj]
  rw [this]; exact kk
theorem OL.storePr {p b k : Nat} {t' : TypeId} {f : NdT} {F : Item → List Item} (hx : evl l x = some (true, .pointer (some ⟨b, 3, none⟩))) (hy : evl l y = some (true, .pointer (some ⟨k, 0, none⟩))) (hs : sizeN P t = some 1)
    (hH : Hole p H (nds t' f) F) (hf : (f b).isSome = true) (kk : OL P n ops Q rest l (Cls (F (nds t' (setPr f b k))) S)) : OL P n ops Q (⟨none, .store t x y, ty, pos, af, none⟩ :: rest) l (Cls H S) := by
  obtain ⟨nd, hnd⟩ := Option.isSome_iff_exists.1 hf
  refine OL.storeNd (nd' := { nd with pr := some k }) hx hy rfl rfl hs hH hnd (by decide) rfl ?_
  have : fset f b { nd with pr := some k } = setPr f b k := by
    funext j
    unfold fset setPr
    by_cases hj : j = b
    · rw [if_pos hj, if_pos hj, hj, hnd]; rfl
    · rw [if_neg hj, if_neg hj]
  rw [this]; exact kk
/-- a block becomes a node -/
theorem Cls.nd_new {b : Nat} {t' : TypeId} {f : NdT} {nd : Nd} {w : World} (h : Cls (blk b t' (ndc nd) :: nds t' f :: H) S w) : Cls (nds t' (fset f b nd) :: H) S w := by
  have hd := List.pairwise_cons.1 h.dj
  have hd2 := List.pairwise_cons.1 hd.2
  refine ⟨fun i hi => ?_, fun i hi => ?_, .cons (fun j hj k hk hk' => ?_) hd2.2, fun s hs => (h.kp s hs).mono fun k _ ⟨j, hj, hjk⟩ => ?_⟩
  · cases hi with
    | head =>
      intro k u hu
      by_cases hkb : k = b
      · subst hkb
        rw [fset_same] at hu; cases hu
        exact h.holds _ (.head _)
      · rw [fset_other hkb] at hu
        exact h.holds _ (.tail _ (.head _)) k u hu
    | tail _ hi => exact h.holds _ (.tail _ (.tail _ hi))
  · cases hi with
    | head =>
      intro k hk
      have hk' : (fset f b nd k).isSome = true := hk
      by_cases hkb : k = b
      · subst hkb; exact h.lt _ (.head _) k rfl
      · rw [fset_other hkb] at hk'
        exact h.lt _ (.tail _ (.head _)) k hk'
    | tail _ hi => exact h.lt _ (.tail _ (.tail _ hi))
  · have hk2 : (fset f b nd k).isSome = true := hk
    by_cases hkb : k = b
    · subst hkb; exact hd.1 j (.tail _ hj) k rfl hk'
    · rw [fset_other hkb] at hk2
      exact hd2.1 j hj k hk2 hk'
  · cases hj with
    | head =>
      have hjk' : k = b := hjk
      exact ⟨_, .head _, by show (fset f b nd k).isSome = true; rw [hjk', fset_same]; rfl⟩
    | tail _ hj =>
      cases hj with
      | head => exact ⟨_, .head _, by show (fset f b nd k).isSome = true; exact fset_some hjk⟩
      | tail _ hj => exact ⟨_, .tail _ hj, hjk⟩
/-- a block is no node -/
theorem Cls.nd_fresh {b : Nat} {t' t2 : TypeId} {cs : List Value} {f : NdT} {w : World} (h : Cls (blk b t2 cs :: nds t' f :: H) S w) : f b = none := by
  have hd := (List.pairwise_cons.1 h.dj).1 _ (.head _) b rfl
  have hd' : ¬ (f b).isSome = true := hd
  cases hfb : f b with
  | none => rfl
  | some x => rw [hfb] at hd'; exact absurd rfl hd'
theorem Cls.nds_zero {w : World} {t' : TypeId} (h : Cls H S w) : Cls (nds t' (fun _ => none) :: H) S w :=
  h.add (Keep.refl _ _) _ (fun k x hx => by cases hx) (fun k hk => by
    have hk' : ((none : Option Nd)).isSome = true := hk
    cases hk')

/-! comparisons of pointers -/
theorem guard_ptr {op : BinOp} {x y : Operand} {p p' : Option Addr} {w : World} : (eqGuard op t x y (.pointer p) (.pointer p')).run P w = .ok () w := by cases op <;> rfl
def ptrB (P : Program) (t : TypeId) : Bool := match P.underlying t with | some (.pointer e) => (match P.info? e with | some j => !Nat.beq j.size 0 | none => false) && (Nat.beq (P.pointee t) e) | _ => false
theorem ptrB_spec (h : ptrB P t = true) : ∃ e j, P.underlying t = some (.pointer e) ∧ P.info? e = some j ∧ j.size ≠ 0 ∧ P.pointee t = e := by
  unfold ptrB at h
  split at h
  · rename_i e he
    split at h
    · rename_i j hj
      simp only [Bool.and_eq_true, Bool.not_eq_true'] at h
      exact ⟨e, j, he, hj, fun hh => by rw [hh] at h; simp at h, Nat.eq_of_beq_eq_true h.2⟩
    · simp at h
  · cases h
theorem Bin.ptr_nil {p : Option Addr} (hu : ptrB P t = true) : Bin P .eql t (.pointer p) (.pointer none) (.bool p.isNone) := ⟨fun x y w => by
  obtain ⟨e, j, h1, h2, h3, h4⟩ := ptrB_spec hu
  rw [Sem.run_bind, guard_ptr, Result.andThen_ok]
  have := run_eql_pointer_nil (P := P) (w := w) t p (by rw [h4]; exact h1)
  rw [this]⟩
theorem Bin.ptr_nnil {p : Option Addr} (hu : ptrB P t = true) : Bin P .neq t (.pointer p) (.pointer none) (.bool (!p.isNone)) := ⟨fun x y w => by
  obtain ⟨e, j, h1, h2, h3, h4⟩ := ptrB_spec hu
  rw [Sem.run_bind, guard_ptr, Result.andThen_ok]
  have := run_neq_pointer_nil (P := P) (w := w) t p (by rw [h4]; exact h1)
  rw [this]⟩
theorem run_neq_ptr_other {tp te : TypeId} {j : TypeInfo} {w : World} {a b : Addr} {ca cb : Array Value} {ta tb : TypeId} (hp : P.underlying tp = some (.pointer te)) (hte : P.info? te = some j) (hsz : j.size ≠ 0)
    (hne : a ≠ b) (ha : w.heap[a.block]? = some (.cells ca ta (0, 0))) (hb : w.heap[b.block]? = some (.cells cb tb (0, 0))) :
    (binOp .neq tp (.pointer (some a)) (.pointer (some b))).run P w = .ok (.bool true) w := by
  have h : ∀ d : Nat, (Op.equalIn (d + 1) tp (.pointer (some a)) (.pointer (some b))).run P w = .ok false w := fun d => by
    simp [Op.equalIn, run_underlying hp, sizeOf, typeInfo, hte, hsz, run_sameAddr_other w hne ha hb]
  simp only [binOp]
  simp [Op.equal, Op.maxDepth, h 9999]
theorem Pev.nd_neq {a b : Nat} {t' : TypeId} {f : NdT} {yt : TypeId} (hx : evl l x = some (cx, .pointer (some ⟨a, 0, none⟩))) (hcx : c = true → cx = true) (hy : evl l y = some (cy, .pointer (some ⟨b, 0, none⟩))) (hcy : c = true → cy = true) (hu : ptrB P t = true)
    (hp : nds t' f ∈ H) (ha : (f a).isSome = true) (hb : (f b).isSome = true) : Pev P n l (Cls H S) ⟨d, .binOp .neq t x y yt, ty, pos, af, g⟩ c (.bool (!decide (a = b))) :=
  .of_run fun h ac w hs' hw => by
    obtain ⟨e, j, h1, h2, h3, h4⟩ := ptrB_spec hu
    have hr : (binOp .neq t (.pointer (some ⟨a, 0, none⟩)) (.pointer (some ⟨b, 0, none⟩))).run P w = .ok (.bool (!decide (a = b))) w := by
      by_cases hab : a = b
      · subst hab
        rw [Lib.run_neq_ptr_same w _ h1 h2]; simp
      · obtain ⟨xa, hxa⟩ := Option.isSome_iff_exists.1 ha
        obtain ⟨xb, hxb⟩ := Option.isSome_iff_exists.1 hb
        rw [run_neq_ptr_other h1 h2 h3 (fun hh => hab (by cases hh; rfl)) (hw.item hp a xa hxa) (hw.item hp b xb hxb)]
        simp [hab]
    simp only [execOp, hs'.eval hx (hcx h), hs'.eval hy (hcy h), Sem.run_bind, guard_ptr, hr, Result.andThen_ok]
    rfl
theorem Pev.slice_hm {e : TypeId} {sz len cp j m : Nat} {k' k'' : IntKind} {b e3 : Int} {q : Option Addr} {u : Operand} {cu : Bool} (hx : evl l x = some (cx, .slice q len cp)) (hcx : c = true → cx = true)
    (hz : evl l z = some (cz, .int k' b)) (hcz : c = true → cz = true) (hm : evl l u = some (cu, .int k'' e3)) (hcm : c = true → cu = true) (hu : slElem P t = some (e, sz)) (hb : b = (j : Int)) (hm3 : e3 = (m : Int)) (hr : c = true → j ≤ m ∧ m ≤ cp) :
    Pev P n l C ⟨d, .slice t x none (some z) (some u), ty, pos, af, g⟩ c (.slice q j m) :=
  .of_run fun h a w hs hw => by
    subst hb
    subst hm3
    obtain ⟨h2, h3⟩ := hr h
    obtain ⟨hus, hsz⟩ := slElem_both hu
    simp only [execOp, hs.eval hx (hcx h), Option.map_some, Option.map_none, hs.eval hz (hcz h), hs.eval hm (hcm h), Instr.sliceAt, Instr.slice, Sem.run_bind, run_underlying hus, Result.andThen_ok, Instr.sliceBounds, Instr.sliceBound, asIntOf, Sem.run_pure, run_sizeN hsz]
    simp [h2, h3, add_zero_]
theorem row_le {w : World} {base m cap size : Nat} {O : Nat → Prop} {q : Option Addr} {e : TypeId} {xs : List Value} (h : (row base O q m cap e size xs).holds w) : m ≤ cap := by
  rcases h.2.2 with ⟨h3, h4⟩ | ⟨g, cap', cur, h3, hb, hg, h4, h5⟩
  · omega
  · simp only [Value.slice.injEq] at h3
    obtain ⟨_, _, rfl⟩ := h3
    exact h4
theorem Thin.row {base m cap size : Nat} {O : Nat → Prop} {q : Option Addr} {e : TypeId} {xs : List Value} {H' : List Item} (hb : AllLe S base) (h : Thin S H H') : Thin S (Eng.row base O q m cap e size xs :: H) H' :=
  Thin.any (fun k hk => by
    have := hb.mem
    have hk' : base ≤ k := hk.1
    clear hk hb h
    induction S with
    | nil => trivial
    | cons s S ih => exact ⟨Nat.le_trans (this s (.head _)) hk', ih fun s hs => this s (.tail _ hs)⟩) h
theorem W.ex {α : Type} {code : Code} {C : α → World → Prop} (h : ∀ x, W P n code Q l (C x)) : W P n code Q l (fun w => ∃ x, C x w) := ⟨fun a w hs ⟨x, hc⟩ => (h x).run a w hs hc⟩
theorem OL.ex {α : Type} {C : α → World → Prop} (h : ∀ x, OL P n ops Q rest l (C x)) : OL P n ops Q rest l (fun w => ∃ x, C x w) := ⟨fun a w hs ⟨x, hc⟩ => (h x).run a w hs hc⟩
theorem Pev.lookup_o {k e : TypeId} {b : Nat} {m : MP} {s : ByteArray} {o : Option Nat} (hx : evl l x = some (cx, .map (some b))) (hcx : c = true → cx = true) (hy : evl l y = some (cy, .string s)) (hcy : c = true → cy = true) (ht : mapT P t = some (k, e)) (hz : zeroV P e = some (.pointer none)) (hm : mapS b m ∈ H) (hg : mget m s = o.map fun j => .pointer (some ⟨j, 0, none⟩)) :
    Pev P n l (Cls H S) ⟨d, .lookup t x y false, ty, pos, af, g⟩ c (.pointer (o.map fun j => ⟨j, 0, none⟩)) := by
  cases o with
  | none => exact .lookup_no hx hcx hy hcy ht hz hm hg
  | some j => exact .lookup_in hx hcx hy hcy ht hz hm hg
end
end Go.Eng

/- Rows: a full block is one; one row appended to another; a part of one; results of which the first stands in a block. General. No condition. -/
namespace Go.Eng
open Go.RowKit
set_option linter.unusedVariables false
set_option linter.unusedSimpArgs false
section
variable {P : Program} {n : Nat} {l : Env} {H : List Item} {S : List World} {C : World → Prop} {c : Bool} {d : Option Nat} {ty : TypeId} {pos : String} {af : Array Edge} {g : Option (Nat × Bool)}
variable {ops : Array Oper} {rest : List Oper} {Q : Exit → Act → World → Prop}
variable {t : TypeId} {x y z : Operand} {cx cy cz : Bool}
theorem Cls.blk_row {b base m sz : Nat} {e : TypeId} {cs : List Value} {w : World} (h : Cls (blk b e cs :: H) S w) (hb : base ≤ b) (hl : cs.length = m * sz) (hm : m ≤ maxLen) : Cls (row base (fun k => k = b) (some ⟨b, 0, none⟩) m m e sz cs :: H) S w := by
  have hd := List.pairwise_cons.1 h.dj
  have h0 : (blk b e cs).holds w := h.holds _ (.head _)
  refine ⟨fun i hi => ?_, fun i hi => ?_, .cons (fun j hj k hk => hd.1 j hj k hk.2) hd.2, fun s hs => (h.kp s hs).mono fun k _ ⟨j, hj, hjk⟩ => ?_⟩
  · cases hi with
    | head => exact ⟨fun a ha => by cases ha; rfl, hl, .inr ⟨b, m, cs.toArray, rfl, hb, h0, Nat.le_refl _, hm, by simpa using hl, List.take_of_length_le (by simp [hl])⟩⟩
    | tail _ hi => exact h.holds _ (.tail _ hi)
  · cases hi with
    | head => exact fun k hk => h.lt _ (.head _) k hk.2
    | tail _ hi => exact h.lt _ (.tail _ hi)
  · cases hj with
    | head =>
      have hjk' : k = b := hjk
      exact ⟨_, .head _, by rw [hjk']; exact hb, hjk'⟩
    | tail _ hj => exact ⟨_, .tail _ hj, hjk⟩
theorem run_append_src_nil {w : World} {ty e : TypeId} {i : TypeInfo} {q : Option Addr} {m cap : Nat} (ht : P.underlying t = some (.slice e)) (hi : P.info? e = some i) (hc : m ≤ cap) :
    (Builtin.append_ #[t, t] ty #[.slice q m cap, .slice none 0 0]).run P w = .ok (.slice q m cap) w := by
  cases q <;> simp [Builtin.append_, run_underlying ht, sizeOf, typeInfo, hi, Builtin.lenOf, hc, Builtin.firstCells, loadCells, loadCellsFrom, storeCells]
/-- one row behind another -/
theorem OL.appendRR {F : Item → List Item} {e : TypeId} {dd sz bb p m cap cap2 m2 base base2 : Nat} {O O2 : Nat → Prop} {q q2 : Option Addr} {xs news : List Value}
    (hx : evl l x = some (true, .slice q m cap)) (hy : evl l y = some (true, .slice q2 m2 cap2)) (hn : Nat.ble (dd + 1) n = true)
    (hu : rowElem P t = some (e, sz, bb)) (hp' : Hole p H (row base O q m cap e sz xs) F) (hr2 : row base2 O2 q2 m2 cap2 e sz news ∈ H) (h1 : oneL news = true) (hpos : 0 < m)
    (hs : ∃ s ∈ S, base ≤ s.heap.size) (hlim : (m + m2) ≤ 9223372036854775807 ∧ (m + m2) * bb ≤ 140737488355328)
    (k : ∀ (O' : Nat → Prop) (g' cap' : Nat), OL P n ops Q rest ((dd, true, .slice (some ⟨g', 0, none⟩) (m + m2) cap') :: l) (Cls (F (row base O' (some ⟨g', 0, none⟩) (m + m2) cap' e sz (xs ++ news))) S)) :
    OL P n ops Q (⟨some dd, .call { callee := .builtin .append, args := #[x, y], argTypes := #[t, t] }, ty, pos, af, none⟩ :: rest) l (Cls H S) := by
  have hp := hp'.eq.1
  have hF := hp'.eq.2
  refine OL.newT (α := (Nat → Prop) × Nat × Nat) (C' := fun r w => Cls (H.set p (row base r.1 (some ⟨r.2.1, 0, none⟩) (m + m2) r.2.2 e sz (xs ++ news))) S w) rfl rfl hn (fun r => .slice (some ⟨r.2.1, 0, none⟩) (m + m2) r.2.2) (fun a w hs' hc => ?_) (fun r => by rw [← hF]; exact k r.1 r.2.1 r.2.2)
  obtain ⟨i, z, g1, g2, g3, g4, g5, g6, g7⟩ := rowElem_spec hu
  obtain ⟨s, hsm, hsb⟩ := hs
  have hbw : base ≤ w.heap.size := Nat.le_trans hsb (hc.kp s hsm).size
  have hi := hc.item (List.mem_of_getElem? hp)
  have hi2 := hc.item hr2
  obtain ⟨gx, rfl⟩ := row_some hi hpos
  rcases hi2.2.2 with ⟨h3, h4⟩ | ⟨g, cap', cur, h3, hb, hg, h4, h5, h6, h7⟩
  · cases h3
    have hne : news = [] := List.eq_nil_of_length_eq_zero (by have := hi2.2.1; omega)
    subst hne
    refine ⟨(O, gx, cap), w, ?_, ?_⟩
    · simp only [execOp, resolve, invoke, builtin, Sem.run_bind, Sem.run_pure, Result.andThen_ok, List.map_toArray, List.map_cons, List.map_nil, hs'.eval hx rfl, hs'.eval hy rfl, run_append_src_nil (P := P) (w := w) (ty := ty) (q := some ⟨gx, 0, none⟩) g1 g2 (row_le hi)]
      rfl
    · simp only [List.append_nil, Nat.add_zero]
      rwa [set_same hp]
  · simp only [Value.slice.injEq] at h3
    obtain ⟨rfl, _, rfl⟩ := h3
    have hl := hi2.2.1
    have hnews : ∀ j u, news[j]? = some u → w.cell? ((⟨g, 0, none⟩ : Addr).add j) = some u := fun j u hj => by
      rw [add_mid, Nat.zero_add]
      exact row_cell hi2 hj
    obtain ⟨v', w', hr, h2, h3, h4', h5'⟩ := run_append_own_at (P := P) (w := w) base t ty e i z sz bb g1 g2 g3 g4 g5 g6 g7 _ m xs hi.2 ⟨g, 0, none⟩ m2 cap2 news hl hnews (fun u hu => oneL_mem h1 u hu) hlim.1 hlim.2 hbw
    rcases h2.2 with ⟨rfl, h0⟩ | ⟨g', cap', cur', rfl, hb', hg', hrest⟩
    · omega
    · refine ⟨(fun k => O k ∨ k = g', g', cap'), w', ?_, ?_⟩
      · simp only [execOp, resolve, invoke, builtin, Sem.run_bind, Sem.run_pure, Result.andThen_ok, List.map_toArray, List.map_cons, List.map_nil, hs'.eval hx rfl, hs'.eval hy rfl, hr]
      · have hown : ∀ k, some k = (Value.slice (some ⟨gx, 0, none⟩) m cap).ownBlock → base ≤ k ∧ O k := fun k hk => by
          simp only [Value.ownBlock, Option.some.injEq] at hk
          subst hk
          exact ⟨(World.ownsRow.lt hi.2 _ rfl).1, hi.1 _ rfl⟩
        refine hc.turn p hp (j := row base (fun k => O k ∨ k = g') (some ⟨g', 0, none⟩) (m + m2) cap' e sz (xs ++ news)) ⟨h3.os, h3.tape, h3.output, h3.size, fun k hk hO => h3.block k hk (fun e => hO (hown k e))⟩ ?_ ?_ ?_
        · exact ⟨fun a ha => by cases ha; exact .inr rfl, h2⟩
        · intro k hk
          have hlt : g' < w'.heap.size := (Array.getElem?_eq_some_iff.1 hg').1
          rcases hk.2 with h | h
          · exact ⟨.inl ⟨hk.1, h⟩, Nat.lt_of_lt_of_le (hc.lt _ (List.mem_of_getElem? hp) k ⟨hk.1, h⟩) h3.size⟩
          · subst h
            refine ⟨?_, hlt⟩
            rcases h5' with h5' | h5'
            · exact .inl (hown k (by rw [← h5']; rfl))
            · simp only [Value.ownBlock, Option.some.injEq] at h5'
              exact .inr (by omega)
        · exact fun k hk => ⟨hk.1, .inl hk.2⟩
/-- the first elements of a row -/
theorem row_part {base m k cap sz : Nat} {O : Nat → Prop} {q : Option Addr} {e : TypeId} {xs : List Value} {w : World} (h : (row base O q m cap e sz xs).holds w) (hk : k ≤ m) : (row base O q k cap e sz (xs.take (k * sz))).holds w := by
  refine ⟨h.1, ?_⟩
  obtain ⟨h1, h2⟩ := h.2
  have hle : k * sz ≤ m * sz := Nat.mul_le_mul_right _ hk
  refine ⟨by rw [List.length_take]; omega, ?_⟩
  rcases h2 with ⟨h3, h4⟩ | ⟨g, cap', cur, h3, hb, hg, h4, h5, h6, h7⟩
  · simp only [Value.slice.injEq] at h3
    obtain ⟨rfl, rfl, rfl⟩ := h3
    obtain rfl : k = 0 := by omega
    exact .inl ⟨rfl, rfl⟩
  · simp only [Value.slice.injEq] at h3
    obtain ⟨rfl, _, rfl⟩ := h3
    refine .inr ⟨g, cap, cur, rfl, hb, hg, by omega, h5, h6, ?_⟩
    conv => rhs; rw [← h7]
    rw [List.take_take, Nat.min_eq_left hle]
theorem Cls.row_part {base m k cap sz : Nat} {O : Nat → Prop} {q : Option Addr} {e : TypeId} {xs : List Value} {w : World} (h : Cls (row base O q m cap e sz xs :: H) S w) (hk : k ≤ m) : Cls (row base O q k cap e sz (xs.take (k * sz)) :: H) S w := by
  have hd := List.pairwise_cons.1 h.dj
  refine ⟨fun i hi => ?_, fun i hi => ?_, .cons (fun j hj k' hk' => hd.1 j hj k' hk') hd.2, fun s hs => (h.kp s hs).mono fun k' _ ⟨j, hj, hjk⟩ => ?_⟩
  · cases hi with
    | head => exact Eng.row_part (h.holds _ (.head _)) hk
    | tail _ hi => exact h.holds _ (.tail _ hi)
  · cases hi with
    | head => exact fun k' hk' => h.lt (row base O q m cap e sz xs) (.head _) k' hk'
    | tail _ hi => exact h.lt _ (.tail _ hi)
  · cases hj with
    | head => exact ⟨_, .head _, hjk⟩
    | tail _ hj => exact ⟨_, .tail _ hj, hjk⟩
theorem At.cls {e : Exit} {C' : World → Prop} (hc : ∀ w, C w → C' w) (h : At n Q e l C') : At n Q e l C := ⟨fun a w s c => h.run a w s (hc w c)⟩
theorem At.finCT {fn : Func} {R : Ending → World → Prop} {tt b k u : Nat} {t' : TypeId} {cs : List Value} {v : Value} (hr : fn.results = #[.cell tt ty, .tmp u]) (ht : look l tt = some (true, .pointer (some ⟨b, 0, none⟩))) (hp : blk b t' cs ∈ H) (hs : aggN P ty = some k) (hk : cs.length = k)
    (hu : look l u = some (true, v)) (h : ∀ w, Cls H S w → R (.returned (.tuple #[.agg cs.toArray, v])) w) : At n (bodyPost P fn R) .ret l (Cls H S) :=
  ⟨fun a w hs' hc => ⟨hs'.df, .tuple #[.agg cs.toArray, v], by
    have h1 := hs'.at_ tt true _ ht
    have h3 := hs'.at_ u true _ hu
    have h2 := run_loadVar_agg (P := P) (t := ty) (vs := cs) (a := ⟨b, 0, none⟩) (w := w) (by rw [hk]; exact hs) (fun j v hj => by rw [add_mid, Nat.zero_add, blk_cell (hc.item hp)]; exact hj)
    simp [results, hr, Array.getD_eq_getD_getElem?, h1, asAddr, h2, h3], h w hc⟩⟩
theorem At.finCTT {fn : Func} {R : Ending → World → Prop} {tt b k u u2 : Nat} {t' : TypeId} {cs : List Value} {v v2 : Value} (hr : fn.results = #[.cell tt ty, .tmp u, .tmp u2]) (ht : look l tt = some (true, .pointer (some ⟨b, 0, none⟩))) (hp : blk b t' cs ∈ H) (hs : aggN P ty = some k) (hk : cs.length = k)
    (hu : look l u = some (true, v)) (hu2 : look l u2 = some (true, v2)) (h : ∀ w, Cls H S w → R (.returned (.tuple #[.agg cs.toArray, v, v2])) w) : At n (bodyPost P fn R) .ret l (Cls H S) :=
  ⟨fun a w hs' hc => ⟨hs'.df, .tuple #[.agg cs.toArray, v, v2], by
    have h1 := hs'.at_ tt true _ ht
    have h3 := hs'.at_ u true _ hu
    have h4 := hs'.at_ u2 true _ hu2
    have h2 := run_loadVar_agg (P := P) (t := ty) (vs := cs) (a := ⟨b, 0, none⟩) (w := w) (by rw [hk]; exact hs) (fun j v hj => by rw [add_mid, Nat.zero_add, blk_cell (hc.item hp)]; exact hj)
    simp [results, hr, Array.getD_eq_getD_getElem?, h1, asAddr, h2, h3, h4], h w hc⟩⟩
end
end Go.Eng

/- Append of a slice that reads, of any length, to a grown row. General. No condition. -/
namespace Go.Eng
open Go.RowKit
set_option linter.unusedVariables false
set_option linter.unusedSimpArgs false
section
variable {P : Program} {n : Nat} {l : Env} {H : List Item} {S : List World} {C : World → Prop} {ty : TypeId} {pos : String} {af : Array Edge}
variable {ops : Array Oper} {rest : List Oper} {Q : Exit → Act → World → Prop} {t : TypeId} {x y : Operand}
theorem run_append_src_nil2 {w : World} {ty e : TypeId} {i : TypeInfo} {q : Option Addr} {m cap cap2 : Nat} (ht : P.underlying t = some (.slice e)) (hi : P.info? e = some i) (hc : m ≤ cap) :
    (Builtin.append_ #[t, t] ty #[.slice q m cap, .slice none 0 cap2]).run P w = .ok (.slice q m cap) w := by
  cases q <;> simp [Builtin.append_, run_underlying ht, sizeOf, typeInfo, hi, Builtin.lenOf, hc, Builtin.firstCells, loadCells, loadCellsFrom, storeCells]
theorem OL.appendK {F : Item → List Item} {e : TypeId} {dd sz bb p m cap cap2 m2 base : Nat} {O : Nat → Prop} {q q2 : Option Addr} {xs news : List Value}
    (hx : evl l x = some (true, .slice q m cap)) (hy : evl l y = some (true, .slice q2 m2 cap2)) (hn : Nat.ble (dd + 1) n = true)
    (hu : rowElem P t = some (e, sz, bb)) (hp' : Hole p H (row base O q m cap e sz xs) F) (hsl : ∀ w, Cls H S w → SlAt w w.heap.size q2 news) (hl : news.length = m2 * sz) (h1 : oneL news = true)
    (hs : ∃ s ∈ S, base ≤ s.heap.size) (hlim : (m + m2) ≤ 9223372036854775807 ∧ (m + m2) * bb ≤ 140737488355328)
    (k : ∀ (O' : Nat → Prop) (q' : Option Addr) (cap' : Nat), OL P n ops Q rest ((dd, true, .slice q' (m + m2) cap') :: l) (Cls (F (row base O' q' (m + m2) cap' e sz (xs ++ news))) S)) :
    OL P n ops Q (⟨some dd, .call { callee := .builtin .append, args := #[x, y], argTypes := #[t, t] }, ty, pos, af, none⟩ :: rest) l (Cls H S) := by
  have hp := hp'.eq.1
  have hF := hp'.eq.2
  refine OL.newT (α := (Nat → Prop) × Option Addr × Nat) (C' := fun r w => Cls (H.set p (row base r.1 r.2.1 (m + m2) r.2.2 e sz (xs ++ news))) S w) rfl rfl hn (fun r => .slice r.2.1 (m + m2) r.2.2) (fun a w hs' hc => ?_) (fun r => by rw [← hF]; exact k r.1 r.2.1 r.2.2)
  obtain ⟨i, z, g1, g2, g3, g4, g5, g6, g7⟩ := rowElem_spec hu
  obtain ⟨s, hsm, hsb⟩ := hs
  have hbw : base ≤ w.heap.size := Nat.le_trans hsb (hc.kp s hsm).size
  have hi := hc.item (List.mem_of_getElem? hp)
  cases q2 with
  | none =>
    have hm2 : news = [] := by
      cases news with
      | nil => rfl
      | cons v r =>
        obtain ⟨a, ha, _⟩ := hsl w hc (by simp)
        cases ha
    subst hm2
    have hm0 : m2 = 0 := by
      rcases Nat.eq_zero_or_pos m2 with h0 | h0
      · exact h0
      · have := Nat.mul_pos h0 g7
        simp at hl
        omega
    subst hm0
    refine ⟨(O, q, cap), w, ?_, ?_⟩
    · simp only [execOp, resolve, invoke, builtin, Sem.run_bind, Sem.run_pure, Result.andThen_ok, List.map_toArray, List.map_cons, List.map_nil, hs'.eval hx rfl, hs'.eval hy rfl, run_append_src_nil2 (P := P) (cap2 := cap2) (w := w) (ty := ty) (q := q) g1 g2 (row_le hi)]
      rfl
    · simp only [List.append_nil, Nat.add_zero]
      rwa [set_same hp]
  | some ad =>
    have hnews : ∀ j u, news[j]? = some u → w.cell? (ad.add j) = some u := fun j u hj => by
      obtain ⟨a, ha, _, hca⟩ := hsl w hc (by have := (List.getElem?_eq_some_iff.1 hj).1; omega)
      obtain rfl := Option.some.inj ha
      exact hca j u hj
    obtain ⟨v', w', hr, h2, h3, h4, h5⟩ := run_append_own_at (P := P) (w := w) base t ty e i z sz bb g1 g2 g3 g4 g5 g6 g7 _ m xs hi.2 ad m2 cap2 news hl hnews (fun u hu => oneL_mem h1 u hu) hlim.1 hlim.2 hbw
    have hown : ∀ k, some k = (Value.slice q m cap).ownBlock → base ≤ k ∧ O k := fun k hk => by
      cases q with
      | none => simp [Value.ownBlock] at hk
      | some a =>
        simp only [Value.ownBlock, Option.some.injEq] at hk
        subst hk
        exact ⟨(World.ownsRow.lt hi.2 _ rfl).1, hi.1 _ rfl⟩
    rcases h2.2 with ⟨rfl, h0⟩ | ⟨g', cap', cur, rfl, hb', hg', hrest⟩
    · refine ⟨(O, none, 0), w', ?_, ?_⟩
      · simp only [execOp, resolve, invoke, builtin, Sem.run_bind, Sem.run_pure, Result.andThen_ok, List.map_toArray, List.map_cons, List.map_nil, hs'.eval hx rfl, hs'.eval hy rfl, hr, h0]
      · rw [h0] at h2 ⊢
        refine hc.turn p hp (j := row base O none 0 0 e sz (xs ++ news)) ⟨h3.os, h3.tape, h3.output, h3.size, fun k hk hO => h3.block k hk (fun e => hO (hown k e))⟩ ⟨fun a ha => (by cases ha), h2⟩ (fun k hk => ⟨.inl hk, Nat.lt_of_lt_of_le (hc.lt _ (List.mem_of_getElem? hp) k hk) h3.size⟩) (fun k hk => hk)
    · refine ⟨(fun k => O k ∨ k = g', some ⟨g', 0, none⟩, cap'), w', ?_, ?_⟩
      · simp only [execOp, resolve, invoke, builtin, Sem.run_bind, Sem.run_pure, Result.andThen_ok, List.map_toArray, List.map_cons, List.map_nil, hs'.eval hx rfl, hs'.eval hy rfl, hr]
      · refine hc.turn p hp (j := row base (fun k => O k ∨ k = g') (some ⟨g', 0, none⟩) (m + m2) cap' e sz (xs ++ news)) ⟨h3.os, h3.tape, h3.output, h3.size, fun k hk hO => h3.block k hk (fun e => hO (hown k e))⟩ ?_ ?_ ?_
        · exact ⟨fun a ha => by cases ha; exact .inr rfl, h2⟩
        · intro k hk
          have hlt : g' < w'.heap.size := (Array.getElem?_eq_some_iff.1 hg').1
          rcases hk.2 with h | h
          · exact ⟨.inl ⟨hk.1, h⟩, Nat.lt_of_lt_of_le (hc.lt _ (List.mem_of_getElem? hp) k ⟨hk.1, h⟩) h3.size⟩
          · subst h
            refine ⟨?_, hlt⟩
            rcases h5 with h5 | h5
            · exact .inl (hown k (by rw [← h5]; rfl))
            · simp only [Value.ownBlock, Option.some.injEq] at h5
              exact .inr (by omega)
        · exact fun k hk => ⟨hk.1, .inl hk.2⟩
end
end Go.Eng

/- The walks of core's Binders and Bound. Conditions: none. -/
namespace Go.Co
open Go.Eng Go.RowKit
set_option linter.unusedVariables false
set_option linter.unusedSimpArgs false
def bindersT (op : Int) (binds : List Int) (alts : List Al) : List Int := (if op = 2 ∨ op = 4 ∨ op = 5 then binds else []) ++ alts.flatMap Al.binds
theorem bindersX_eq (x : Ex) : bindersX x = bindersT x.op x.binds x.alts := rfl
/-- a node of a tree, in block b -/
structure NodeO (w : World) (O : Nat → Prop) (b : Nat) (op n : Int) (binds : List Int) (kl : Nat) (alts : List Al) (y : ExY) : Prop where
  own : O b
  cells : CellsAt w ⟨b, 0, none⟩ [.int .i64 op, .int .i64 n, .slice y.b.1 binds.length y.b.2, .slice y.k.1 kl y.k.2, .slice y.a.1 alts.length y.a.2]
  bl : binds.length ≤ 16
  al : alts.length ≤ 4096
  ab : ∀ a ∈ alts, a.binds.length ≤ 16
  b : IntsO w O binds y.b.1
  a : ArrP altR_ w O alts y.a.1
theorem NodeO.stab {w w' : World} {O : Nat → Prop} {b : Nat} {op n : Int} {binds : List Int} {kl : Nat} {alts : List Al} {y : ExY} (hk : ∀ k, O k → w'.heap[k]? = w.heap[k]?) (h : NodeO w O b op n binds kl alts y) : NodeO w' O b op n binds kl alts y :=
  ⟨h.own, cells_stab (hk _ h.own) h.cells, h.bl, h.al, h.ab, h.b.stab hk, h.a.stab hk⟩
theorem NodeO.mono {w : World} {O O' : Nat → Prop} {b : Nat} {op n : Int} {binds : List Int} {kl : Nat} {alts : List Al} {y : ExY} (hk : ∀ k, O k → O' k) (h : NodeO w O b op n binds kl alts y) : NodeO w O' b op n binds kl alts y :=
  ⟨hk _ h.own, h.cells, h.bl, h.al, h.ab, h.b.mono hk, h.a.mono hk⟩
theorem NodeO.at {w w' : World} {b : Nat} {op n : Int} {binds : List Int} {kl : Nat} {alts : List Al} {y : ExY} {H : List Eng.Item} {S : List World} (h : NodeO w (low w) b op n binds kl alts y) (hw : Cls H S w') (hs : w ∈ S) (hno : ∀ k, k < w.heap.size → NotOwned H k) : NodeO w' (low w') b op n binds kl alts y :=
  NodeO.mono (hw.up hs) (NodeO.stab (hw.same hs hno) h)
theorem ints_oneL (l : List Int) : oneL (ints l) = true := by
  induction l with
  | nil => rfl
  | cons x r ih => simp only [ints, List.map_cons, oneL] at ih ⊢; rw [ih]; rfl
/-- a grown row of ints, as an array of memory that is new -/
theorem rowInts {H : List Eng.Item} {S : List World} {w w' : World} {B m cap : Nat} {O : Nat → Prop} {q : Option Addr} {e : TypeId} {l : List Int} (h : Cls H S w') (hr : row B O q m cap e 1 (ints l) ∈ H) (hB : w.heap.size ≤ B) : IntsO w' (fresh w w') l q := fun hl => by
  have h1 := h.item hr
  obtain ⟨a, h3, _, h5⟩ := SlAt.of_row h1 (by rw [ints_length]; exact hl)
  have h6 := h1.1 a h3
  have hb : B ≤ a.block := by
    rcases h1.2.2 with ⟨h7, _⟩ | ⟨g, cap', cur, h7, hb, _⟩
    · simp only [Value.slice.injEq] at h7
      rw [h7.1] at h3; cases h3
    · simp only [Value.slice.injEq] at h7
      rw [h7.1] at h3
      obtain rfl := Option.some.inj h3
      exact hb
  exact ⟨a, h3, ⟨Nat.le_trans hB hb, h.lt _ hr _ ⟨hb, h6⟩⟩, h5⟩
theorem flat_len {l : List Al} (h : ∀ a ∈ l, a.binds.length ≤ 16) : (l.flatMap Al.binds).length ≤ l.length * 16 := by
  induction l with
  | nil => simp
  | cons x r ih =>
    have h1 := h x (.head _)
    have h2 := ih fun a ha => h a (.tail _ ha)
    simp only [List.flatMap_cons, List.length_append, List.length_cons]
    omega
end Go.Co
namespace Go.Proofs.YtlboppiogeaicaaDoor.co
open Go.RowKit Go.Eng Go.Co
set_option linter.unusedVariables false
set_option linter.unusedSimpArgs false
set_option maxRecDepth 100000
structure GR where
  O : Nat → Prop
  q : Option Addr
  c : Nat
theorem Binders_calls (b : Nat) (op n : Int) (binds : List Int) (kl : Nat) (alts : List Al) (y : ExY) (w : World) (h : NodeO w (low w) b op n binds kl alts y) :
    Calls Tryd.prog 60 [.pointer (some ⟨b, 0, none⟩)].toArray w fun e w' => ∃ q c, e = .returned (.slice q (bindersT op binds alts).length c) ∧ Ext w w' ∧ IntsO w' (fresh w w') (bindersT op binds alts) q ∧ (bindersT op binds alts).length ≤ c := by
  obtain ⟨ps, hps, harr⟩ := h.a
  have hpl : alts.length = ps.length := by rw [← hps, List.length_map]
  have hbl := h.bl
  have hal := h.al
  have hab := h.ab
  have hbw : b < w.heap.size := h.own
  have hcells := h.cells
  have hcellI : ∀ {j : Nat} {v : Value}, ([.int .i64 op, .int .i64 n, .slice y.b.1 binds.length y.b.2, .slice y.k.1 kl y.k.2, .slice y.a.1 alts.length y.a.2] : List Value)[j]? = some v → w.cell? ⟨b, 0 + j, none⟩ = some v := fun {j v} hj => by
    have := hcells j v hj
    rwa [add_mid] at this
  have h0 := hcellI (j := 0) rfl
  have h2 := hcellI (j := 2) rfl
  have h4 := hcellI (j := 4) rfl
  refine enter Tryd.func60 rfl Tryd.ntmps60 rfl (Cls.start w) ?_
  (simp only [argEnv, Nat.zero_add, Nat.reduceAdd])
  apply W.sr
  apply oas; rfl; rfl
  apply OL.nsr
  apply oas; rfl; rfl
  apply OL.nx
  apply W.seq
  apply W.sr
  apply omv; rfl; rfl
  apply oop; rfl; apply Pev.nil_ptr; rfl; exact yes
  apply ofa; rfl; rfl; rfl
  apply oop; rfl; apply Pev.load_kept; rfl; exact yes; exact .head _; rfl; intro hcond; assumption; intro hcond; assumption; intro hcond; exact NotOwned.au
  apply obn; rfl; rfl; rfl; apply Bin.eql
  apply omv; rfl; rfl
  apply ono; rfl; rfl; rfl; apply Pev.move; rfl; exact yes
  apply ono; rfl; rfl; rfl; apply Pev.nil_ptr; rfl; exact fun h => h
  apply ono; rfl; rfl; rfl; apply Pev.fld; rfl; exact fun h => h; rfl
  apply ono; rfl; rfl; rfl; apply Pev.load_kept; rfl; exact fun h => h; exact .head _; rfl; intro hcond; assumption; intro hcond; assumption; intro hcond; exact NotOwned.au
  apply ono; rfl; rfl; rfl; apply Pev.bin; rfl; exact fun h => h; rfl; exact yes; intro hcond; apply Bin.eql
  apply oop; rfl; apply Pev.pick_or; rfl; exact yes; rfl; exact fun h => h
  apply omv; rfl; rfl
  apply ono; rfl; rfl; rfl; apply Pev.move; rfl; exact yes
  apply ono; rfl; rfl; rfl; apply Pev.nil_ptr; rfl; exact fun h => h
  apply ono; rfl; rfl; rfl; apply Pev.fld; rfl; exact fun h => h; rfl
  apply ono; rfl; rfl; rfl; apply Pev.load_kept; rfl; exact fun h => h; exact .head _; rfl; intro hcond; assumption; intro hcond; assumption; intro hcond; exact NotOwned.au
  apply ono; rfl; rfl; rfl; apply Pev.bin; rfl; exact fun h => h; rfl; exact yes; intro hcond; apply Bin.eql
  apply oop; rfl; apply Pev.pick_or; rfl; exact yes; rfl; exact fun h => h
  apply OL.nx
  refine W.cls (fun w' hw' => hw'.row_nil w.heap.size 3 1) ?_
  refine W.joinx (G := GR) (fun _ => True) (fun g => [(0, true, .pointer (some ⟨b, 0, none⟩)), (3, true, .slice g.q (if op = 2 ∨ op = 4 ∨ op = 5 then binds else []).length g.c)]) (fun g => Cls [row w.heap.size g.O g.q (if op = 2 ∨ op = 4 ∨ op = 5 then binds else []).length g.c 3 1 (ints (if op = 2 ∨ op = 4 ∨ op = 5 then binds else []))] [w]) ?_ ?_
  · refine W.cond rfl (fun hb => ?_) (fun hb => ?_)
    · have hop : op = 2 ∨ op = 4 ∨ op = 5 := by grind
      rw [if_pos hop]
      apply W.reg
      apply omv; rfl; rfl
      apply omv; rfl; rfl
      apply oop; rfl; apply Pev.nil_ptr; rfl; exact yes
      apply ofa; rfl; rfl; rfl
      apply oop; rfl; apply Pev.load_kept; rfl; exact yes; exact .head _; rfl; intro hcond; assumption; intro hcond; assumption; intro hcond; exact NotOwned.au
      (apply OL.appendK (news := ints binds)); rfl; rfl; rfl; rfl; (exact Hole.au); (exact fun w2 hw2 => (h.b.at hw2 (.head _) (fun k hk => by exact NotOwned.au)).slAt); (rw [ints_length, Nat.mul_one]); (exact ints_oneL _); (exact ⟨w, .head _, Nat.le_refl _⟩); (omega); (intro O1 q1 c1)
      simp only [Nat.zero_add, List.nil_append]
      apply oas; rfl; rfl
      apply OL.nil
      exact At.joinedx ⟨O1, q1, c1⟩ trivial (by exact Sub.au) (fun w' hw' => hw')
    · have hop : ¬ (op = 2 ∨ op = 4 ∨ op = 5) := by grind
      rw [if_neg hop]
      apply W.skip
      exact At.joinedx ⟨_, none, 0⟩ trivial (by exact Sub.au) (fun w' hw' => hw')
  rintro ⟨O0, q0, c0⟩ -
  simp only
  have hL0l : (if op = 2 ∨ op = 4 ∨ op = 5 then binds else []).length ≤ 16 := by split <;> simp [hbl]
  unfold bindersT
  generalize (if op = 2 ∨ op = 4 ∨ op = 5 then binds else []) = L0 at *
  have habp : ∀ p ∈ ps, p.1.binds.length ≤ 16 := fun p hp => hab p.1 (by rw [← hps]; exact List.mem_map_of_mem hp)
  have hfl : ∀ i, ((ps.take i).flatMap fun p => p.1.binds).length ≤ 65536 := fun i => by
    have h1 := flat_len (l := alts.take i) fun a ha => hab a (List.mem_of_mem_take ha)
    have h3 : (alts.take i).flatMap Al.binds = (ps.take i).flatMap fun p => p.1.binds := by
      rw [← hps, ← List.map_take, List.flatMap_map]
    rw [h3] at h1
    simp only [List.length_take] at h1
    omega
  have hall : alts.flatMap Al.binds = ps.flatMap fun p => p.1.binds := by rw [← hps, List.flatMap_map]
  rw [hall]
  simp only [hpl] at *
  apply W.seq
  apply W.sr
  apply omv; rfl; rfl
  apply oop; rfl; apply Pev.nil_ptr; rfl; exact yes
  apply ofa; rfl; rfl; rfl
  apply oop; rfl; apply Pev.load_kept; rfl; exact yes; exact .head _; rfl; intro hcond; assumption; intro hcond; assumption; intro hcond; exact NotOwned.au
  apply oop; rfl; apply Pev.len_slice; rfl; exact yes; rfl
  apply omv; rfl; rfl
  apply OL.nx
  apply W.block
  refine W.loop (G := Nat × GR) (fun g => g.1 ≤ ps.length) (fun g => ps.length - g.1)
    (fun g => [(3, true, .slice g.2.q (L0 ++ (ps.take g.1).flatMap fun p => p.1.binds).length g.2.c), (34, true, .slice y.a.1 ps.length y.a.2), (35, true, .int .i64 (ps.length : Int)), (36, true, .int .i64 (g.1 : Int))])
    (fun g => Cls [row w.heap.size g.2.O g.2.q (L0 ++ (ps.take g.1).flatMap fun p => p.1.binds).length g.2.c 3 1 (ints (L0 ++ (ps.take g.1).flatMap fun p => p.1.binds))] [w]) (0, ⟨O0, q0, c0⟩) (by simp) (by simp only [List.take_zero, List.flatMap_nil, List.append_nil]; exact Sub.au) (fun w' hw' => by simpa using hw') ?_
  rintro ⟨i, ⟨O1, q1, c1⟩⟩ hi
  simp only at hi ⊢
  apply W.sr
  apply obn; rfl; rfl; rfl; apply Bin.lss
  apply OL.nx
  apply W.seq
  (refine W.cnd (fun hlt => ?_) (fun hlt => ?_)) <;> (try (exfalso; first | omega | exact hlt trivial | contradiction))
  · have hil : i < ps.length := by omega
    obtain ⟨a, u, hq, hab1, hu, hcell, hok⟩ := harr.get hil
    have hab1 : a.block < w.heap.size := hab1
    have hcell : CellsAt w (a.add (i * 2)) [.int .i64 u.1.tag, .slice u.2.1 u.1.binds.length u.2.2] := hcell
    have hub := habp u (List.mem_of_getElem? hu)
    have hi1 := hfl i
    have hsnoc : (L0 ++ (ps.take (i + 1)).flatMap fun p => p.1.binds) = (L0 ++ (ps.take i).flatMap fun p => p.1.binds) ++ u.1.binds := by
      rw [List.take_add_one, hu]
      simp
    have hll : (L0 ++ (ps.take i).flatMap fun p => p.1.binds).length ≤ 65552 := by rw [List.length_append]; omega
    rw [hq]
    apply W.sk
    apply W.sb
    apply W.sr
    apply oop; rfl; apply Pev.idx; rfl; exact yes; rfl; exact yes; rfl; rfl; intro hcond; omega
    apply oop; rfl; apply Pev.load_keptA; rfl; exact yes; exact .head _; rfl; intro hcond; assumption; rfl; intro hcond; (rw [add_block]; assumption); intro hcond; exact NotOwned.au
    apply OL.alloc; rfl; rfl; exact CellsL.agg; (intro bk hbk; simp only [AllLe, and_true] at hbk)
    apply OL.storeB; rfl; rfl; exact CellsL.agg; rfl; rfl; rfl; exact Swap.au; exact Put.au
    apply OL.nx
    apply W.reg
    apply omv; rfl; rfl
    apply ofa; rfl; rfl; rfl
    apply old; rfl; rfl; exact .head _; rfl; rfl
    (apply OL.appendK (news := ints u.1.binds)); rfl; rfl; rfl; rfl; (exact Hole.au); (exact fun w2 hw2 => (hok.2.2.at hw2 (.head _) (fun k hk => by exact NotOwned.au)).slAt); (rw [ints_length, Nat.mul_one]); (exact ints_oneL _); (exact ⟨w, .head _, Nat.le_refl _⟩); (omega); (intro O2 q2 c2)
    rw [← ints_append, ← hsnoc, ← List.length_append, ← hsnoc]
    apply oas; rfl; rfl
    apply OL.nil
    with_reducible apply At.in_normal
    with_reducible apply At.next
    apply W.reg
    apply obn; rfl; rfl; rfl; apply Bin.add_in; omega
    apply omv; rfl; rfl
    apply OL.nil
    refine At.again (i + 1, ⟨O2, q2, c2⟩) (by simp only; omega) (by simp only; omega) (by exact Sub.au) (fun w' hw' => hw'.thin (by exact Thin.au))
  · obtain rfl : i = ps.length := by omega
    rw [List.take_length]
    refine W.xt ?_
    with_reducible apply At.next
    apply W.sr
    apply omv; rfl; rfl
    apply oas; rfl; rfl
    apply OL.nx
    apply W.ret
    ((with_reducible apply At.fin1); rfl; rfl; intro w' hw')
    exact ⟨_, _, rfl, by (exact hw'.fr), rowInts hw' (.head _) (Nat.le_refl _), row_cap (hw'.item (.head _))⟩
/-- the list that Bound hands out is one of the node's -/
theorem Bound_calls (b : Nat) (op n : Int) (binds : List Int) (kl : Nat) (alts : List Al) (y : ExY) (k : Nat) (w : World) (O : Nat → Prop) (hO : ∀ k, O k → k < w.heap.size) (h : NodeO w O b op n binds kl alts y) (hk : k ≤ 4096) :
    Calls Tryd.prog 97 [.pointer (some ⟨b, 0, none⟩), .int .i64 (k : Int)].toArray w fun e w' => ∃ q c, e = .returned (.slice q (bound op binds alts k).length c) ∧ Ext w w' ∧ IntsO w O (bound op binds alts k) q ∧ (bound op binds alts k).length ≤ 16 := by
  obtain ⟨ps, hps, harr⟩ := h.a
  have hpl : alts.length = ps.length := by rw [← hps, List.length_map]
  have hbl := h.bl
  have hal := h.al
  have hab := h.ab
  have hbw : b < w.heap.size := hO _ h.own
  have hcells := h.cells
  have hcellI : ∀ {j : Nat} {v : Value}, ([.int .i64 op, .int .i64 n, .slice y.b.1 binds.length y.b.2, .slice y.k.1 kl y.k.2, .slice y.a.1 alts.length y.a.2] : List Value)[j]? = some v → w.cell? ⟨b, 0 + j, none⟩ = some v := fun {j v} hj => by
    have := hcells j v hj
    rwa [add_mid] at this
  have h0 := hcellI (j := 0) rfl
  have h2 := hcellI (j := 2) rfl
  have h4 := hcellI (j := 4) rfl
  refine enter Tryd.func97 rfl Tryd.ntmps97 rfl (Cls.start w) ?_
  (simp only [argEnv, Nat.zero_add, Nat.reduceAdd])
  apply W.sr
  apply oas; rfl; rfl
  apply OL.nx
  apply W.sb
  apply W.seq
  apply W.sr
  apply omv; rfl; rfl
  apply oop; rfl; apply Pev.nil_ptr; rfl; exact yes
  apply ofa; rfl; rfl; rfl
  apply oop; rfl; apply Pev.load_kept; rfl; exact yes; exact .head _; rfl; intro hcond; assumption; intro hcond; assumption; intro hcond; exact NotOwned.au
  apply obn; rfl; rfl; rfl; apply Bin.eql
  apply oas; rfl; rfl
  apply OL.nx
  refine W.cond rfl (fun hb => ?_) (fun hb => ?_)
  · apply W.sk
    refine W.cond rfl (fun _ => ?_) (fun hc => by grind)
    apply W.sr
    apply omv; rfl; rfl
    apply oop; rfl; apply Pev.nil_ptr; rfl; exact yes
    apply ofa; rfl; rfl; rfl
    apply oop; rfl; apply Pev.load_kept; rfl; exact yes; exact .head _; rfl; intro hcond; assumption; intro hcond; assumption; intro hcond; exact NotOwned.au
    apply oas; rfl; rfl
    apply OL.nx
    refine W.rt ?_
    ((with_reducible apply At.fin1); rfl; rfl; intro w' hw')
    have e1 : bound op binds alts k = binds := by unfold bound; rw [if_pos]; grind
    exact ⟨y.b.1, y.b.2, by rw [e1], by (exact hw'.fr), by rw [e1]; exact h.b, by rw [e1]; exact hbl⟩
  apply W.sr
  apply omv; rfl; rfl
  apply oop; rfl; apply Pev.nil_ptr; rfl; exact yes
  apply ofa; rfl; rfl; rfl
  apply oop; rfl; apply Pev.load_kept; rfl; exact yes; exact .head _; rfl; intro hcond; assumption; intro hcond; assumption; intro hcond; exact NotOwned.au
  apply obn; rfl; rfl; rfl; apply Bin.eql
  apply oas; rfl; rfl
  apply OL.nx
  refine W.cond rfl (fun hb2 => ?_) (fun hb2 => ?_)
  · apply W.sk
    refine W.cond rfl (fun _ => ?_) (fun hc => by grind)
    apply W.sr
    apply omv; rfl; rfl
    apply oop; rfl; apply Pev.nil_ptr; rfl; exact yes
    apply ofa; rfl; rfl; rfl
    apply oop; rfl; apply Pev.load_kept; rfl; exact yes; exact .head _; rfl; intro hcond; assumption; intro hcond; assumption; intro hcond; exact NotOwned.au
    apply oas; rfl; rfl
    apply OL.nx
    refine W.rt ?_
    ((with_reducible apply At.fin1); rfl; rfl; intro w' hw')
    have e1 : bound op binds alts k = binds := by unfold bound; rw [if_pos]; grind
    exact ⟨y.b.1, y.b.2, by rw [e1], by (exact hw'.fr), by rw [e1]; exact h.b, by rw [e1]; exact hbl⟩
  apply W.reg
  apply omv; rfl; rfl
  apply oop; rfl; apply Pev.nil_ptr; rfl; exact yes
  apply ofa; rfl; rfl; rfl
  apply oop; rfl; apply Pev.load_kept; rfl; exact yes; exact .head _; rfl; intro hcond; assumption; intro hcond; assumption; intro hcond; exact NotOwned.au
  apply obn; rfl; rfl; rfl; apply Bin.eql
  apply omv; rfl; rfl
  apply oy; rfl; rfl; rfl; apply Pev.move; rfl; exact yes
  apply oy; rfl; rfl; rfl; apply Pev.bin; rfl; exact fun h => h; rfl; exact yes; intro hcond; apply Bin.eql
  apply oop; rfl; apply Pev.pick_and; rfl; exact yes; rfl; exact fun h => h
  apply oas; rfl; rfl
  apply OL.nx
  refine W.cond rfl (fun hb3 => ?_) (fun hb3 => ?_)
  · apply W.sr
    apply omv; rfl; rfl
    apply oop; rfl; apply Pev.nil_ptr; rfl; exact yes
    apply ofa; rfl; rfl; rfl
    apply oop; rfl; apply Pev.load_kept; rfl; exact yes; exact .head _; rfl; intro hcond; assumption; intro hcond; assumption; intro hcond; exact NotOwned.au
    apply oas; rfl; rfl
    apply OL.nx
    refine W.rt ?_
    ((with_reducible apply At.fin1); rfl; rfl; intro w' hw')
    have e1 : bound op binds alts k = binds := by unfold bound; rw [if_pos]; grind
    exact ⟨y.b.1, y.b.2, by rw [e1], by (exact hw'.fr), by rw [e1]; exact h.b, by rw [e1]; exact hbl⟩
  have hno : ¬ (op = 2 ∨ op = 5 ∨ (op = 4 ∧ k = 1)) := by grind
  apply W.sr
  apply omv; rfl; rfl
  apply oop; rfl; apply Pev.nil_ptr; rfl; exact yes
  apply ofa; rfl; rfl; rfl
  apply oop; rfl; apply Pev.load_kept; rfl; exact yes; exact .head _; rfl; intro hcond; assumption; intro hcond; assumption; intro hcond; exact NotOwned.au
  apply oop; rfl; apply Pev.len_slice; rfl; exact yes; rfl
  apply obn; rfl; rfl; rfl; apply Bin.gtr
  apply omv; rfl; rfl
  apply oy; rfl; rfl; rfl; apply Pev.move; rfl; exact yes
  apply oy; rfl; rfl; rfl; apply Pev.bin; rfl; exact fun h => h; rfl; exact yes; intro hcond; apply Bin.gtr
  apply oop; rfl; apply Pev.pick_and; rfl; exact yes; rfl; exact fun h => h
  apply omv; rfl; rfl
  apply oy; rfl; rfl; rfl; apply Pev.move; rfl; exact yes
  apply oy; rfl; rfl; rfl; apply Pev.move; rfl; exact yes
  apply oy; rfl; rfl; rfl; apply Pev.nil_ptr; rfl; exact fun h => h
  apply oy; rfl; rfl; rfl; apply Pev.fld; rfl; exact fun h => h; rfl
  apply oy; rfl; rfl; rfl; apply Pev.load_kept; rfl; exact fun h => h; exact .head _; rfl; intro hcond; assumption; intro hcond; assumption; intro hcond; exact NotOwned.au
  apply oy; rfl; rfl; rfl; apply Pev.len_slice; rfl; exact fun h => h; rfl
  apply oy; rfl; rfl; rfl; apply Pev.bin; rfl; exact fun h => h; rfl; exact fun h => h; intro hcond; apply Bin.leq
  apply oop; rfl; apply Pev.pick_and; rfl; exact yes; rfl; exact fun h => h
  apply oas; rfl; rfl
  apply OL.nx
  refine W.cond rfl (fun hb4 => ?_) (fun hb4 => ?_)
  · have hka : 0 < k ∧ k ≤ alts.length := by grind
    obtain ⟨a, u, hq, hab1, hu, hcell, hok⟩ := harr.get (i := k - 1) (by omega)
    have hab1 : a.block < w.heap.size := hO _ hab1
    have hcell : CellsAt w (a.add (((k : Int) - 1).toNat * 2)) [.int .i64 u.1.tag, .slice u.2.1 u.1.binds.length u.2.2] := by rw [show ((k : Int) - 1).toNat = k - 1 by omega]; exact hcell
    have e1 : bound op binds alts k = u.1.binds := by
      unfold bound
      rw [if_neg hno, if_pos ⟨by omega, hka⟩]
      have : alts[k - 1]? = some u.1 := by rw [← hps, List.getElem?_map, hu]; rfl
      simp [List.getD, this]
    rw [hq] at h4
    apply W.sr
    apply omv; rfl; rfl
    apply oop; rfl; apply Pev.nil_ptr; rfl; exact yes
    apply ofa; rfl; rfl; rfl
    apply oop; rfl; apply Pev.load_kept; rfl; exact yes; exact .head _; rfl; intro hcond; assumption; intro hcond; assumption; intro hcond; exact NotOwned.au
    apply omv; rfl; rfl
    apply obn; rfl; rfl; rfl; apply Bin.sub_in; omega
    apply oop; rfl; apply Pev.idxI; rfl; exact yes; rfl; exact yes; rfl; intro hcond; omega
    apply oop; rfl; apply Pev.fldA; rfl; exact yes; rfl
    apply oop; rfl; apply Pev.load_kept; rfl; exact yes; exact .head _; rfl; intro hcond; apply CellsAt.at_ (by assumption) rfl; intro hcond; (simp only [add_block]; assumption); intro hcond; exact NotOwned.au
    apply oas; rfl; rfl
    apply OL.nx
    refine W.rt ?_
    ((with_reducible apply At.fin1); rfl; rfl; intro w' hw')
    exact ⟨u.2.1, u.2.2, by rw [e1], by (exact hw'.fr), by rw [e1]; exact hok.2.2, by rw [e1]; exact hab u.1 (by rw [← hps]; exact List.mem_map_of_mem (List.mem_of_getElem? hu))⟩
  · have e1 : bound op binds alts k = [] := by
      unfold bound
      rw [if_neg hno, if_neg]
      grind
    apply W.skip
    with_reducible apply At.in_normal
    with_reducible apply At.next
    apply W.sr
    apply oas; rfl; rfl
    apply OL.nx
    apply W.ret
    ((with_reducible apply At.fin1); rfl; rfl; intro w' hw')
    exact ⟨none, 0, by rw [e1]; rfl, by (exact hw'.fr), by rw [e1]; exact IntsO.nil, by rw [e1]; simp⟩
end Go.Proofs.YtlboppiogeaicaaDoor.co

/- Maps whose keys are ints: an item for the list of keys and values; make, look up, put, delete; range over a map. General. No condition. -/
namespace Go.Eng
open Go.RowKit Go.MapKept
set_option linter.unusedVariables false
set_option linter.unusedSimpArgs false

abbrev MI := List (Int × Value)
def iget : MI → Int → Option Value
  | [], _ => none
  | p :: r, k => if p.1 = k then some p.2 else iget r k
def idel : MI → Int → MI
  | [], _ => []
  | p :: r, k => if p.1 = k then r else p :: idel r k
def iput : MI → Int → Value → MI
  | [], k, v => [(k, v)]
  | p :: r, k, v => if p.1 = k then (k, v) :: r else p :: iput r k v
theorem iget_iput (m : MI) (k : Int) (v : Value) (j : Int) : iget (iput m k v) j = if k = j then some v else iget m j := by
  induction m with
  | nil => simp [iput, iget]
  | cons p r ih =>
    unfold iput
    by_cases h : p.1 = k
    · rw [if_pos h]
      simp only [iget, h]
      split <;> simp_all
    · rw [if_neg h]
      simp only [iget, ih]
      by_cases h2 : p.1 = j
      · rw [if_pos h2, if_pos h2, if_neg (fun e => h (h2.trans e.symm))]
      · rw [if_neg h2, if_neg h2]
theorem iput_new : ∀ {m : MI} {k : Int} {v : Value}, iget m k = none → iput m k v = m ++ [(k, v)]
  | [], k, v, _ => rfl
  | p :: r, k, v, h => by
    rw [iget] at h
    by_cases e : p.1 = k
    · rw [if_pos e] at h; cases h
    · rw [if_neg e] at h
      rw [iput, if_neg e, iput_new h]; rfl
theorem iget_mem : ∀ {m : MI} {k : Int} {v : Value}, iget m k = some v → (k, v) ∈ m
  | p :: r, k, v, h => by
    rw [iget] at h
    by_cases e : p.1 = k
    · rw [if_pos e] at h
      obtain rfl := Option.some.inj h
      subst e
      exact .head _
    · rw [if_neg e] at h
      exact .tail _ (iget_mem h)
def icells (m : MI) : List (Value × Value) := m.map fun p => (.int .i64 p.1, p.2)
structure MapIs (es : Array MapEntry) (clock : Nat) (m : MI) : Prop where
  es_ : es.toList.map (fun e => (e.key, e.val)) = icells m
  lt : ∀ x ∈ es.toList, x.born < clock
  nd : (es.toList.map (·.born)).Nodup
/-- the map in block b -/
def mapI (b : Nat) (m : MI) : Item :=
  ⟨fun k => k = b, fun w => ∃ es clock, w.heap[b]? = some (.map es clock) ∧ MapIs es clock m, fun w w' hk ⟨es, c, h, h2⟩ => ⟨es, c, (hk b rfl).trans h, h2⟩⟩
theorem NotOwned.mapI {H : List Item} {b : Nat} {m : MI} {k : Nat} (h : k ≠ b) (r : NotOwned H k) : NotOwned (Eng.mapI b m :: H) k := NotOwned.any (fun hm => h hm) r
theorem mapI_lt {w : World} {b : Nat} {m : MI} (h : (mapI b m).holds w) : b < w.heap.size := by
  obtain ⟨es, c, h1, _⟩ := h
  exact (Array.getElem?_eq_some_iff.1 h1).1
theorem now_int : ∀ (es : List MapEntry) (m : MI) (i : Nat) (k : Int), es.map (fun e => (e.key, e.val)) = icells m →
    (Instr.findNow (.int .i64) (.int .i64 k) es i = some none ∧ iget m k = none) ∨ ∃ j v e0, Instr.findNow (.int .i64) (.int .i64 k) es i = some (some (i + j, v)) ∧ iget m k = some v ∧ es[j]? = some e0 ∧ e0.key = .int .i64 k ∧ (es.eraseIdx j).map (fun e => (e.key, e.val)) = icells (idel m k) ∧ ∀ v', (es.modify j (fun e => { e with key := .int .i64 k, val := v' })).map (fun e => (e.key, e.val)) = icells (iput m k v')
  | [], m, i, k, h => by
    cases m with
    | nil => exact .inl ⟨rfl, rfl⟩
    | cons p r => simp [icells] at h
  | e :: es, m, i, k, h => by
    cases m with
    | nil => simp [icells] at h
    | cons p r =>
      simp only [icells, List.map_cons, List.cons.injEq, Prod.mk.injEq] at h
      obtain ⟨⟨h1, h2⟩, h3⟩ := h
      by_cases hk : p.1 = k
      · refine .inr ⟨0, e.val, e, ?_, by simp [iget, hk, h2], rfl, by rw [h1, hk], ?_, fun v' => ?_⟩
        · simp [Instr.findNow, Instr.sameNow, h1, hk]
        · simp only [List.eraseIdx_cons_zero, idel, hk, if_true]
          exact h3
        · rw [List.modify_zero_cons]
          simp only [List.map_cons, iput, hk, if_true, icells]
          rw [h3]
          first | done | rfl
      · have hb : (k == p.1) = false := by
          rw [Bool.eq_false_iff]
          exact fun hh => hk (show k = p.1 by simpa using hh).symm
        rcases now_int es r (i + 1) k h3 with ⟨h4, h5⟩ | ⟨j, v, e0, h4, h5, h6, h7, h8, h9⟩
        · exact .inl ⟨by simp [Instr.findNow, Instr.sameNow, h1, hb, h4], by simp [iget, hk, h5]⟩
        · refine .inr ⟨j + 1, v, e0, by simp [Instr.findNow, Instr.sameNow, h1, hb, h4]; omega, by simp [iget, hk, h5], by simpa using h6, h7, ?_, fun v' => ?_⟩
          · simp only [List.eraseIdx_cons_succ, List.map_cons, idel, hk, if_false, icells, h1, h2]
            rw [h8]; rfl
          · rw [List.modify_succ_cons]
            simp only [List.map_cons, iput, hk, if_false, icells, h1, h2]
            rw [h9]; rfl
theorem isKey_int (s : Int) : IsKey (.int .i64) (.int .i64 s) := by simp [IsKey]
theorem W.exx {P : Program} {n : Nat} {l : Env} {C : World → Prop} {Q : Exit → Act → World → Prop} {code : Code} {X : Type} {C' : X → World → Prop} (h : ∀ w, C w → ∃ x, C' x w) (k : ∀ x, W P n code Q l (C' x)) : W P n code Q l C :=
  ⟨fun a w hs hc => by
    obtain ⟨x, hx⟩ := h w hc
    exact (k x).run a w hs hx⟩
theorem OL.exx {P : Program} {n : Nat} {l : Env} {C : World → Prop} {Q : Exit → Act → World → Prop} {ops : Array Oper} {rest : List Oper} {X : Type} {C' : X → World → Prop} (h : ∀ w, C w → ∃ x, C' x w) (k : ∀ x, OL P n ops Q rest l (C' x)) : OL P n ops Q rest l C :=
  ⟨fun a w hs hc => by
    obtain ⟨x, hx⟩ := h w hc
    exact (k x).run a w hs hx⟩
section
variable {P : Program} {n : Nat} {l : Env} {H : List Item} {S : List World} {C : World → Prop} {c : Bool} {d : Option Nat} {ty : TypeId} {pos : String} {af : Array Edge} {g : Option (Nat × Bool)}
variable {ops : Array Oper} {rest : List Oper} {Q : Exit → Act → World → Prop} {t : TypeId} {x y z : Operand} {cx cy cz : Bool}

/-- key and element type of a map type with ints as keys -/
def mapTi (P : Program) (t : TypeId) : Option (TypeId × TypeId) := match P.underlying t with
  | some (.map k e) => match P.underlying k with
    | some (.int .i64) => some (k, e)
    | _ => none
  | _ => none
theorem mapTi_spec {k e : TypeId} (h : mapTi P t = some (k, e)) : P.underlying t = some (.map k e) ∧ P.underlying k = some (.int .i64) := by
  unfold mapTi at h
  split at h
  · split at h
    · simp only [Option.some.injEq, Prod.mk.injEq] at h
      obtain ⟨rfl, rfl⟩ := h
      rename_i h1 _ h2
      exact ⟨h1, h2⟩
    · cases h
  · cases h
theorem run_ilookup {w : World} {k e : TypeId} {b clock : Nat} {es : Array MapEntry} {m : MI} {s : Int} {zv : Value} (ht : mapTi P t = some (k, e)) (hz : zeroV P e = some zv) (hb : w.heap[b]? = some (.map es clock)) (hm : MapIs es clock m) (co : Bool) :
    (Instr.lookup t (.map (some b)) (.int .i64 s) co).run P w = .ok (if co then .tuple #[(iget m s).getD zv, .bool (iget m s).isSome] else (iget m s).getD zv) w := by
  obtain ⟨h1, h2⟩ := mapTi_spec ht
  simp only [Instr.lookup, Sem.run_bind, run_underlying h1, Result.andThen_ok, Go.MapKept.run_getObj_map (P := P) hb, Sem.run_pure, run_checkKey h2 (isKey_int s)]
  rcases now_int es.toList m 0 s hm.es_ with ⟨h3, h4⟩ | ⟨j, v, _, h3, h4, _⟩
  · rw [run_findKey h2 h3]
    simp [run_zeroV hz, h4]
  · rw [run_findKey h2 h3]
    simp [h4]
/-- a map that is known -/
theorem Pev.ilookup {k e : TypeId} {b : Nat} {m : MI} {s : Int} {zv : Value} (hx : evl l x = some (cx, .map (some b))) (hcx : c = true → cx = true) (hy : evl l y = some (cy, .int .i64 s)) (hcy : c = true → cy = true) (ht : mapTi P t = some (k, e)) (hz : zeroV P e = some zv) (hm : ∀ w, C w → (mapI b m).holds w) :
    Pev P n l C ⟨d, .lookup t x y false, ty, pos, af, g⟩ c ((iget m s).getD zv) :=
  .of_run fun h a w hs hw => by
    obtain ⟨es, clock, hb, hes⟩ := hm w hw
    have hr := run_ilookup (s := s) ht hz hb hes false
    simp only [execOp, hs.eval hx (hcx h), hs.eval hy (hcy h), Sem.run_bind, hr, Result.andThen_ok]
    rfl
theorem Pev.ilookup2 {k e : TypeId} {b : Nat} {m : MI} {s : Int} {zv : Value} (hx : evl l x = some (cx, .map (some b))) (hcx : c = true → cx = true) (hy : evl l y = some (cy, .int .i64 s)) (hcy : c = true → cy = true) (ht : mapTi P t = some (k, e)) (hz : zeroV P e = some zv) (hm : ∀ w, C w → (mapI b m).holds w) :
    Pev P n l C ⟨d, .lookup t x y true, ty, pos, af, g⟩ c (.tuple #[(iget m s).getD zv, .bool (iget m s).isSome]) :=
  .of_run fun h a w hs hw => by
    obtain ⟨es, clock, hb, hes⟩ := hm w hw
    have hr := run_ilookup (s := s) ht hz hb hes true
    simp only [execOp, hs.eval hx (hcx h), hs.eval hy (hcy h), Sem.run_bind, hr, Result.andThen_ok]
    rfl
theorem OL.imakeMap {dd : Nat} {k e : TypeId} (hn : Nat.ble (dd + 1) n = true) (ht : mapTi P t = some (k, e)) (kk : ∀ b, AllLe S b → OL P n ops Q rest ((dd, true, .map (some b)) :: l) (Cls (mapI b [] :: H) S)) :
    OL P n ops Q (⟨some dd, .makeMap t none, ty, pos, af, none⟩ :: rest) l (Cls H S) :=
  OL.new (C' := fun b w => AllLe S b ∧ Cls (mapI b [] :: H) S w) rfl rfl hn (fun b => .map (some b))
    (fun a w hs hc => ⟨w.heap.size, w.alloc (.map #[] 0), rfl, AllLe.mk hc, hc.add (ext_alloc w _) _ ⟨#[], 0, heap_alloc_new w _, ⟨rfl, by simp, by simp⟩⟩ (fun k hk => by
      have hk' : k = w.heap.size := hk
      subst hk'; simp)⟩)
    (fun b => ⟨fun a w hs hc => (kk b hc.1).run a w hs hc.2⟩)
theorem OL.iput {k e : TypeId} {b p : Nat} {m : MI} {s : Int} {v : Value} {F : Item → List Item} (hx : evl l x = some (true, .map (some b))) (hy : evl l y = some (true, .int .i64 s)) (hz : evl l z = some (true, v)) (ht : mapTi P t = some (k, e)) (hH : Hole p H (mapI b m) F)
    (kk : OL P n ops Q rest l (Cls (F (mapI b (iput m s v))) S)) : OL P n ops Q (⟨none, .mapUpdate t x y z, ty, pos, af, none⟩ :: rest) l (Cls H S) := by
  obtain ⟨hp, hF⟩ := hH.eq
  rw [hF] at kk
  obtain ⟨h1, h2⟩ := mapTi_spec ht
  refine OL.store_ (C' := Cls (H.set p (mapI b (Eng.iput m s v))) S) rfl rfl (fun a w hs hc => ?_) kk
  obtain ⟨es, clock, hb, hes⟩ := hc.item (List.mem_of_getElem? hp)
  have fin : ∀ (es' : Array MapEntry) (clock' : Nat), (Instr.mapUpdate t (.map (some b)) (.int .i64 s) v).run P w = .ok () { w with heap := w.heap.setIfInBounds b (.map es' clock') } → MapIs es' clock' (Eng.iput m s v) → ∃ w', (execOp a.eval ⟨none, .mapUpdate t x y z, ty, pos, af, none⟩).run P w = .ok .skip w' ∧ Cls (H.set p (mapI b (Eng.iput m s v))) S w' := fun es' clock' hr hm => by
    obtain ⟨hh, hk⟩ := set_heap (o' := .map es' clock') hb
    refine ⟨_, ?_, hc.turn p hp (j := mapI b (Eng.iput m s v)) hk ⟨_, _, hh, hm⟩ (fun q hq => ?_) (fun q hq => hq)⟩
    · simp only [execOp, hs.eval hx rfl, hs.eval hy rfl, hs.eval hz rfl, Sem.run_bind, hr, Result.andThen_ok]
      rfl
    · have hq' : q = b := hq
      subst hq'
      exact ⟨.inl rfl, Nat.lt_of_lt_of_le (hc.lt _ (List.mem_of_getElem? hp) q rfl) hk.size⟩
  rcases now_int es.toList m 0 s hes.es_ with ⟨h3, h4⟩ | ⟨j, v', e0, h3, h4, h5, h6, _, h7⟩
  · refine fin (es.push { key := .int .i64 s, val := v, born := clock }) (clock + 1) ?_ ⟨?_, fun x hx => ?_, ?_⟩
    · simp only [Instr.mapUpdate, Sem.run_bind, run_underlying h1, Result.andThen_ok, Go.MapKept.run_getObj_map (P := P) hb, run_checkKey h2 (isKey_int s), run_findKey h2 h3, run_setObj_map _ hb]
    · rw [iput_new h4]
      simp [hes.es_, icells]
    · simp only [Array.toList_push, List.mem_append, List.mem_singleton] at hx
      rcases hx with hx | rfl
      · exact Nat.lt_succ_of_lt (hes.lt x hx)
      · exact Nat.lt_succ_self _
    · simp only [Array.toList_push, List.map_append, List.map_cons, List.map_nil]
      refine List.nodup_append.2 ⟨hes.nd, by simp, ?_⟩
      intro a ha b hb
      simp only [List.mem_singleton] at hb
      subst hb
      obtain ⟨x, hx, rfl⟩ := List.mem_map.1 ha
      exact Nat.ne_of_lt (hes.lt x hx)
  · rw [Nat.zero_add] at h3
    have hj : es[j]? = some e0 := by simpa using h5
    have hml : (es.modify j fun e => { e with key := .int .i64 s, val := v }).toList = es.toList.modify j fun e => { e with key := .int .i64 s, val := v } := by simp
    have hborn : (es.toList.modify j fun e => { e with key := .int .i64 s, val := v }).map (·.born) = es.toList.map (·.born) := by
      apply List.ext_getElem?
      intro i
      simp only [List.getElem?_map, List.getElem?_modify]
      by_cases hij : j = i
      · subst hij
        cases he : es.toList[j]? <;> simp
      · cases he : es.toList[i]? <;> simp [hij]
    refine fin (es.modify j fun e => { e with key := .int .i64 s, val := v }) clock ?_ ⟨by rw [hml]; exact h7 v, fun x hx => ?_, by rw [hml, hborn]; exact hes.nd⟩
    · simp [Instr.mapUpdate, run_underlying h1, Go.MapKept.run_getObj_map (P := P) hb, run_checkKey h2 (isKey_int s), run_findKey h2 h3, hj, h6, run_keyThatStays (isKey_int s), run_setObj_map _ hb, Result.andThen]
    · have : x.born ∈ (es.toList.modify j fun e => { e with key := .int .i64 s, val := v }).map (·.born) := List.mem_map.2 ⟨x, by rw [← hml]; exact hx, rfl⟩
      rw [hborn] at this
      obtain ⟨y, hy, e⟩ := List.mem_map.1 this
      rw [← e]; exact hes.lt y hy

/-! ### range over a map -/

def itI (r b since : Nat) (seen : Array Nat) (c0 : Nat) : Item :=
  ⟨fun k => k = r, fun w => w.heap[r]? = some (.mapIter (some b) since seen c0), fun w w' hk h => (hk r rfl).trans h⟩
theorem NotOwned.itI {H : List Item} {r b since c0 : Nat} {seen : Array Nat} {k : Nat} (h : k ≠ r) (rr : NotOwned H k) : NotOwned (Eng.itI r b since seen c0 :: H) k := NotOwned.any (fun hm => h hm) rr
/-- a map told by its entries -/
def mapX (b : Nat) (es : Array MapEntry) (clock : Nat) : Item :=
  ⟨fun k => k = b, fun w => w.heap[b]? = some (.map es clock), fun w w' hk h => (hk b rfl).trans h⟩
theorem NotOwned.mapX {H : List Item} {b clock : Nat} {es : Array MapEntry} {k : Nat} (h : k ≠ b) (rr : NotOwned H k) : NotOwned (Eng.mapX b es clock :: H) k := NotOwned.any (fun hm => h hm) rr
theorem Cls.mapX_of {w : World} {b p : Nat} {m : MI} {F : Item → List Item} (hh : Hole p H (mapI b m) F) (h : Cls H S w) : ∃ x : Array MapEntry × Nat, MapIs x.1 x.2 m ∧ Cls (F (mapX b x.1 x.2)) S w := by
  obtain ⟨h1, h2⟩ := hh.eq
  have hm := List.mem_of_getElem? h1
  obtain ⟨es, clock, hb, hes⟩ := h.item hm
  refine ⟨(es, clock), hes, ?_⟩
  rw [h2]
  exact h.turn p h1 (Keep.refl _ _) hb (fun k hk => ⟨.inl hk, h.lt _ hm k hk⟩) (fun k hk => hk)
theorem Cls.mapI_of {w : World} {b p : Nat} {es : Array MapEntry} {clock : Nat} {m : MI} {F : Item → List Item} (hh : Hole p H (mapX b es clock) F) (hes : MapIs es clock m) (h : Cls H S w) : Cls (F (mapI b m)) S w := by
  obtain ⟨h1, h2⟩ := hh.eq
  have hm := List.mem_of_getElem? h1
  rw [h2]
  exact h.turn p h1 (Keep.refl _ _) ⟨es, clock, h.item hm, hes⟩ (fun k hk => ⟨.inl hk, h.lt _ hm k hk⟩) (fun k hk => hk)
theorem OL.rangeMap {dd : Nat} {k e : TypeId} {b clock : Nat} {es : Array MapEntry} (hx : evl l x = some (true, .map (some b))) (hn : Nat.ble (dd + 1) n = true) (ht : mapTi P t = some (k, e)) (hb : ∀ w, Cls H S w → w.heap[b]? = some (.map es clock))
    (kk : ∀ r, AllLe S r → OL P n ops Q rest ((dd, true, .pointer (some ⟨r, 0, none⟩)) :: l) (Cls (itI r b clock #[] clock :: H) S)) :
    OL P n ops Q (⟨some dd, .range t x, ty, pos, af, none⟩ :: rest) l (Cls H S) :=
  OL.new (C' := fun r w => AllLe S r ∧ Cls (itI r b clock #[] clock :: H) S w) rfl rfl hn (fun r => .pointer (some ⟨r, 0, none⟩))
    (fun a w hs hc => by
      have hr := run_range_map w t k e b es clock (mapTi_spec ht).1 (hb w hc)
      refine ⟨w.heap.size, _, ?_, AllLe.mk hc, hc.add (ext_alloc w (.mapIter (some b) clock #[] clock)) _ (Go.heap_alloc_new w _) (fun k hk => by
        have hk' : k = w.heap.size := hk
        subst hk'; simp)⟩
      simp only [execOp, hs.eval hx rfl, Sem.run_bind, hr, Result.andThen_ok]
      rfl)
    (fun b => ⟨fun a w hs hc => (kk b hc.1).run a w hs hc.2⟩)
theorem Cls.drew1 {w w1 : World} (h : Cls H S w) (e : w1 = w ∨ w1 = w.drew) : Cls H S w1 := by
  rcases e with rfl | rfl
  · exact h
  · exact h.drew
theorem OL.nextMap {dd p r b since c0 clock : Nat} {seen : Array Nat} {es : Array MapEntry} {F : Item → List Item} (hx : evl l x = some (true, .pointer (some ⟨r, 0, none⟩))) (hn : Nat.ble (dd + 1) n = true) (hb : ∀ w, Cls H S w → w.heap[b]? = some (.map es clock)) (hold : ∀ e ∈ es.toList, e.born < since) (hsc : since ≤ c0)
    (hH : Hole p H (itI r b since seen c0) F)
    (k0 : (leftOf es seen).size = 0 → OL P n ops Q rest ((dd, true, .tuple #[.bool false]) :: l) (Cls H S))
    (k1 : ∀ e ∈ (leftOf es seen).toList, OL P n ops Q rest ((dd, true, .tuple #[.bool true, e.key, e.val]) :: l) (Cls (F (itI r b since (seen.push e.born) clock)) S)) :
    OL P n ops Q (⟨some dd, .next x false, ty, pos, af, none⟩ :: rest) l (Cls H S) := by
  have hn' := Nat.le_of_ble_eq_true hn
  obtain ⟨hp, hF⟩ := hH.eq
  have hm := List.mem_of_getElem? hp
  refine ⟨fun a w hs hc => ?_⟩
  refine wpList_plain rfl fun K hK => ?_
  rcases run_next_at (P := P) w ty r b since c0 seen es clock (hc.item hm) (hb w hc) hold hsc with ⟨h0, hr⟩ | ⟨e, he, w1, hw1, hr⟩
  · show Oper.upon P _ a K Q ((execOp a.eval _).run P w)
    simp only [execOp, hs.eval hx rfl, Sem.run_bind, hr, Result.andThen_ok]
    exact hK _ _ ((k0 h0).run _ w (hs.put hn' true _) hc)
  · show Oper.upon P _ a K Q ((execOp a.eval _).run P w)
    simp only [execOp, hs.eval hx rfl, Sem.run_bind, hr, Result.andThen_ok]
    have hc1 := hc.drew1 hw1
    obtain ⟨hh, hk⟩ := set_heap (o' := .mapIter (some b) since (seen.push e.born) clock) (hc1.item hm)
    refine hK _ _ ((k1 e he).run _ _ (hs.put hn' true _) ?_)
    rw [hF]
    exact hc1.turn p hp (j := itI r b since (seen.push e.born) clock) hk hh (fun q hq => ⟨.inl hq, Nat.lt_of_lt_of_le (hc1.lt _ hm q hq) hk.size⟩) (fun q hq => hq)
theorem Pev.entryMap {r b since clock : Nat} {seen : Array Nat} {es : Array MapEntry} {e : MapEntry} (hx : evl l x = some (cx, .pointer (some ⟨r, 0, none⟩))) (hcx : c = true → cx = true) (hb : ∀ w, Cls H S w → w.heap[b]? = some (.map es clock)) (hi : itI r b since (seen.push e.born) clock ∈ H) (he : e ∈ es.toList) (hn : (es.toList.map (·.born)).Nodup) :
    Pev P n l (Cls H S) ⟨d, .entry x, ty, pos, af, g⟩ c (.tuple #[e.key, e.val]) :=
  .of_run fun h a w hs hw => by
    have hr := run_entry_at (P := P) w r b since seen es clock e (hw.item hi) (hb w hw) he hn
    simp only [execOp, hs.eval hx (hcx h), Sem.run_bind, hr, Result.andThen_ok]
    rfl
end
end Go.Eng

/- The walk of core's twice. Conditions: none. -/
namespace Go.Co
open Go.Eng Go.RowKit
set_option linter.unusedVariables false
set_option linter.unusedSimpArgs false
/-- a map that is a set -/
def setM (l : List Int) : MI := l.map fun k => (k, .agg #[])
theorem iget_setM (l : List Int) (k : Int) : iget (setM l) k = if k ∈ l then some (.agg #[]) else none := by
  induction l with
  | nil => rfl
  | cons x r ih =>
    show (if x = k then some (Value.agg #[]) else iget (setM r) k) = _
    by_cases h : x = k
    · simp [h]
    · rw [if_neg h, ih]
      have : ¬ k = x := fun e => h e.symm
      simp [this]
theorem iput_setM {l : List Int} {k : Int} (h : ¬ k ∈ l) : iput (setM l) k (.agg #[]) = setM (l ++ [k]) := by
  rw [iput_new (by rw [iget_setM, if_neg h])]
  simp [setM]
theorem iput_setM_in {l : List Int} {k : Int} (h : k ∈ l) : iput (setM l) k (.agg #[]) = setM l := by
  induction l with
  | nil => cases h
  | cons x r ih =>
    show (if x = k then (k, Value.agg #[]) :: setM r else (x, .agg #[]) :: iput (setM r) k (.agg #[])) = _
    by_cases e : x = k
    · rw [if_pos e, e]; rfl
    · rw [if_neg e, ih (by rcases List.mem_cons.1 h with h | h; exact absurd h.symm e; exact h)]
      rfl
structure Lim (x : Ex) : Prop where
  b : x.binds.length ≤ 16
  a : x.alts.length ≤ 4096
  ab : ∀ a ∈ x.alts, a.binds.length ≤ 16
theorem not_nodup {l m : List Int} {x : Int} (h : x ∈ l) : ¬ (l ++ x :: m).Nodup := fun hn => by
  have := (List.nodup_append.1 hn).2.2 x h x (.head _)
  exact this rfl
theorem nodup_snoc {l : List Int} {x : Int} (h : l.Nodup) (hx : ¬ x ∈ l) : (l ++ [x]).Nodup := by
  refine List.nodup_append.2 ⟨h, by simp, fun a ha b hb => ?_⟩
  obtain rfl := List.mem_singleton.1 hb
  exact fun e => hx (e ▸ ha)
end Go.Co
namespace Go.Eng
open Go.Co
section
variable {P : Program} {n : Nat} {l : Env} {H : List Item} {S : List World} {C : World → Prop} {c : Bool} {d : Option Nat} {ty : TypeId} {pos : String} {af : Array Edge} {g : Option (Nat × Bool)} {t : TypeId} {x y : Operand} {cx cy : Bool}
theorem Pev.slookup2 {k e : TypeId} {b : Nat} {m : List Int} {s : Int} (hx : evl l x = some (cx, .map (some b))) (hcx : c = true → cx = true) (hy : evl l y = some (cy, .int .i64 s)) (hcy : c = true → cy = true) (ht : mapTi P t = some (k, e)) (hz : zeroV P e = some (.agg #[])) (hm : mapI b (setM m) ∈ H) :
    Pev P n l (Cls H S) ⟨d, .lookup t x y true, ty, pos, af, g⟩ c (.tuple #[.agg #[], .bool (decide (s ∈ m))]) := by
  have h1 := Pev.ilookup2 (P := P) (n := n) (C := Cls H S) (d := d) (ty := ty) (pos := pos) (af := af) (g := g) hx hcx hy hcy ht hz (fun w hw => hw.item hm)
  rw [iget_setM] at h1
  by_cases h : s ∈ m
  · simpa [h] using h1
  · simpa [h] using h1
end
end Go.Eng
namespace Go.Proofs.YtlboppiogeaicaaDoor.co
open Go.RowKit Go.Eng Go.Co
set_option linter.unusedVariables false
set_option linter.unusedSimpArgs false
set_option maxRecDepth 100000
theorem twice_calls (es : List (Ex × ExY)) (q qp : Option Addr) (cap cp : Nat) (ps : List Int) (w : World) (he : Arr exR w (low w) es q) (hlen : es.length ≤ 4096) (hp : IntsO w (low w) ps qp) (hpl : ps.length ≤ 4096) (hlim : ∀ p ∈ es, Lim p.1) :
    Calls Tryd.prog 69 [.slice q es.length cap, .slice qp ps.length cp].toArray w fun e w' => ∃ bb, e = .returned (.bool bb) ∧ (bb = true ↔ ¬ (ps ++ (es.map Prod.fst).flatMap bindersX).Nodup) ∧ Ext w w' := by
  refine enter Tryd.func69 rfl Tryd.ntmps69 rfl (Cls.start w) ?_
  (simp only [argEnv, Nat.zero_add, Nat.reduceAdd])
  apply W.sr
  apply oas; rfl; rfl
  apply OL.nsr
  apply OL.imakeMap; rfl; rfl; (intro bk hbk; simp only [AllLe, and_true] at hbk)
  apply oas; rfl; rfl
  apply OL.nx
  apply W.seq
  apply W.sr
  apply omv; rfl; rfl
  apply oop; rfl; apply Pev.len_slice; rfl; exact yes; rfl
  apply omv; rfl; rfl
  apply OL.nx
  apply W.block
  revert bk
  intro bm hbm
  refine W.loop (G := Nat) (fun i => i ≤ ps.length ∧ (ps.take i).Nodup) (fun i => ps.length - i)
    (fun i => [(0, true, .slice q es.length cap), (5, true, .map (some bm)), (18, true, .slice qp ps.length cp), (19, true, .int .i64 (ps.length : Int)), (20, true, .int .i64 (i : Int))])
    (fun i => Cls [mapI bm (setM (ps.take i))] [w]) 0 ⟨by omega, by simp⟩ (by exact Sub.au) (fun w' hw' => hw') ?_
  rintro i ⟨hi, hnd⟩
  apply W.sr
  apply obn; rfl; rfl; rfl; apply Bin.lss
  apply OL.nx
  apply W.seq
  (refine W.cnd (fun hlt => ?_) (fun hlt => ?_)) <;> (try (exfalso; first | omega | exact hlt trivial | contradiction))
  · have hil : i < ps.length := by omega
    obtain ⟨a, v, hqa, hab, hv, hcell⟩ := hp.get hil
    have hab : a.block < w.heap.size := hab
    have hsplit : ps = ps.take i ++ v :: ps.drop (i + 1) := by
      obtain ⟨h1, rfl⟩ := List.getElem?_eq_some_iff.1 hv
      rw [← List.drop_eq_getElem_cons h1, List.take_append_drop]
    have htake : ps.take (i + 1) = ps.take i ++ [v] := by rw [List.take_add_one, hv]; rfl
    rw [hqa]
    apply W.sk
    apply W.sb
    apply W.sr
    apply oop; rfl; apply Pev.idx; rfl; exact yes; rfl; exact yes; rfl; rfl; intro hcond; omega
    apply oop; rfl; apply Pev.load_kept; rfl; exact yes; exact .head _; rfl; intro hcond; assumption; intro hcond; (rw [add_block]; assumption); intro hcond; exact NotOwned.au
    apply oas; rfl; rfl
    apply OL.nx
    apply W.seq
    apply W.sr
    apply omv; rfl; rfl
    apply omv; rfl; rfl
    apply oop; rfl; apply Pev.slookup2; rfl; exact yes; rfl; exact yes; rfl; rfl; exact .head _
    apply omv; rfl; rfl
    apply oex; rfl; rfl; rfl
    apply oex; rfl; rfl; rfl
    apply OL.alloc; rfl; rfl; exact CellsL.agg; (intro bk hbk; simp only [AllLe, and_true] at hbk)
    apply OL.storeB; rfl; rfl; exact CellsL.agg; rfl; rfl; rfl; exact Swap.au; exact Put.au
    apply oas; rfl; rfl
    apply OL.nsr
    apply omv; rfl; rfl
    apply OL.nx
    (refine W.cnd (fun hin => ?_) (fun hin => ?_)) <;> (try (exfalso; first | omega | exact hin trivial | contradiction))
    · apply W.sr
      apply oas; rfl; rfl
      apply OL.nx
      refine W.rt ?_
      ((with_reducible apply At.fin1); rfl; rfl; intro w' hw')
      refine ⟨true, rfl, ⟨fun _ => ?_, fun _ => rfl⟩, by (exact hw'.fr)⟩
      rw [hsplit, List.append_assoc]
      exact not_nodup hin
    apply W.sk
    apply W.reg
    apply omv; rfl; rfl
    apply omv; rfl; rfl
    apply oop; rfl; apply Pev.build; rfl; exact CellsL.agg; rfl; exact Fill.au; rfl
    apply OL.iput; rfl; rfl; rfl; rfl; exact Hole.au
    apply OL.nil
    with_reducible apply At.in_normal
    with_reducible apply At.next
    apply W.reg
    apply obn; rfl; rfl; rfl; apply Bin.add_in; omega
    apply omv; rfl; rfl
    apply OL.nil
    rw [iput_setM hin, ← htake]
    skip
    exact At.again (i + 1) ⟨by omega, by rw [htake]; exact nodup_snoc hnd hin⟩ (by omega) (by exact Sub.au) (fun w' hw' => hw'.thin (by exact Thin.au))
  obtain rfl : i = ps.length := by omega
  rw [List.take_length] at hnd ⊢
  refine W.xt ?_
  with_reducible apply At.next
  apply W.seq
  apply W.sr
  apply omv; rfl; rfl
  apply oop; rfl; apply Pev.len_slice; rfl; exact yes; rfl
  apply omv; rfl; rfl
  apply OL.nx
  apply W.block
  refine W.loop (G := Nat) (fun i => i ≤ es.length ∧ (ps ++ ((es.take i).map Prod.fst).flatMap bindersX).Nodup) (fun i => es.length - i)
    (fun i => [(5, true, .map (some bm)), (35, true, .slice q es.length cap), (36, true, .int .i64 (es.length : Int)), (37, true, .int .i64 (i : Int))])
    (fun i => Cls [mapI bm (setM (ps ++ ((es.take i).map Prod.fst).flatMap bindersX))] [w]) 0 ⟨by omega, by simpa using hnd⟩ (by exact Sub.au) (fun w' hw' => by simpa using hw') ?_
  rintro i ⟨hi, hnd⟩
  generalize hs0 : ps ++ ((es.take i).map Prod.fst).flatMap bindersX = s0 at hnd
  apply W.sr
  apply obn; rfl; rfl; rfl; apply Bin.lss
  apply OL.nx
  apply W.seq
  (refine W.cnd (fun hlt => ?_) (fun hlt => ?_)) <;> (try (exfalso; first | omega | exact hlt trivial | contradiction))
  · have hil : i < es.length := by omega
    obtain ⟨a, p, hqa, hab, hp, hcell, hok⟩ := he.get hil
    have hab : a.block < w.heap.size := hab
    have hcell : CellsAt w (a.add (i * 5)) [.int .i64 p.1.op, .int .i64 p.1.n, .slice p.2.b.1 p.1.binds.length p.2.b.2, .slice p.2.k.1 p.1.kids.length p.2.k.2, .slice p.2.a.1 p.1.alts.length p.2.a.2] := hcell
    have hL := hlim p (List.mem_of_getElem? hp)
    have hbx : bindersX p.1 = bindersT p.1.op p.1.binds p.1.alts := rfl
    have hsnext : ps ++ ((es.take (i + 1)).map Prod.fst).flatMap bindersX = s0 ++ bindersX p.1 := by
      rw [← hs0, List.take_add_one, hp]
      simp
    have hsall : ∃ r, ps ++ (es.map Prod.fst).flatMap bindersX = s0 ++ (bindersX p.1 ++ r) := by
      refine ⟨((es.drop (i + 1)).map Prod.fst).flatMap bindersX, ?_⟩
      rw [← List.append_assoc, ← hsnext, List.append_assoc, ← List.flatMap_append, ← List.map_append, List.take_append_drop]
    rw [hqa]
    apply W.sk
    apply W.sb
    apply W.sr
    apply oop; rfl; apply Pev.idx; rfl; exact yes; rfl; exact yes; rfl; rfl; intro hcond; omega
    apply oop; rfl; apply Pev.load_keptA; rfl; exact yes; exact .head _; rfl; intro hcond; assumption; rfl; intro hcond; (rw [add_block]; assumption); intro hcond; exact NotOwned.au
    apply OL.alloc; rfl; rfl; exact CellsL.agg; (intro bk hbk; simp only [AllLe, and_true] at hbk)
    apply OL.storeB; rfl; rfl; exact CellsL.agg; rfl; rfl; rfl; exact Swap.au; exact Put.au
    apply OL.nsr
    apply ofa; rfl; rfl; rfl
    apply old; rfl; rfl; exact .head _; rfl; rfl
    apply ofa; rfl; rfl; rfl
    apply old; rfl; rfl; exact .head _; rfl; rfl
    apply ofa; rfl; rfl; rfl
    apply old; rfl; rfl; exact .head _; rfl; rfl
    apply oop; rfl; apply Pev.build; rfl; exact CellsL.agg; rfl; exact Fill.au; rfl
    apply OL.box; rfl; rfl; exact CellsL.agg; (intro bk hbk; simp only [AllLe, and_true] at hbk)
    apply oas; rfl; rfl
    apply OL.nsr
    apply omv; rfl; rfl
    rename_i bx hbx1
    refine OL.callE (α := World × Nat × Option Addr × Nat) (fun x => .slice x.2.2.1 (bindersX p.1).length x.2.2.2) (fun x => w.heap.size ≤ x.1.heap.size ∧ bm < x.2.1 ∧ w.heap.size ≤ x.2.1 ∧ IntsO x.1 (fun k => x.2.1 ≤ k ∧ k < x.1.heap.size) (bindersX p.1) x.2.2.1 ∧ (bindersX p.1).length ≤ 9223372036854775807) (fun x => Cls [mapI bm (setM s0)] [x.1, w]) rfl rfl (by exact Args.au) (fun w2 hw2 => ?_) ?_
    · have hb2 : (blk bk 91 [.int .i64 p.1.op, .int .i64 0, .slice p.2.b.1 p.1.binds.length p.2.b.2, .slice none 0 0, .slice p.2.a.1 p.1.alts.length p.2.a.2]).holds w2 := hw2.item (by exact mau)
      have hlt2 := hw2.lt (mapI bm (setM s0)) (by exact mau) bm rfl
      have hok2 := ExOk.at hok hw2 (.head _) (fun k hk => by exact NotOwned.au)
      have hkw := hw2.kp w (.head _)
      refine (Binders_calls bk p.1.op 0 p.1.binds 0 p.1.alts ⟨p.2.b, (none, 0), p.2.a⟩ w2 ⟨blk_lt hb2, fun j v hj => by rw [add_mid, blk_cell hb2]; simpa using hj, hL.b, hL.a, hL.ab, hok2.b, hok2.a⟩).mono fun e w3 ⟨q3, c3, h1, h2, h3, h4⟩ => ?_
      have hw3 := hw2.ext h2
      refine ⟨(w3, w2.heap.size, q3, c3), h1, ⟨Nat.le_trans hkw.size h2.size, hlt2, hkw.size, h3, ?_⟩, (hw3.thin (by exact Thin.au)).note⟩
      rw [hbx]
      unfold bindersT
      have h5 := flat_len hL.ab
      have h6 := hL.a
      have h7 := hL.b
      have h8 : (if p.1.op = 2 ∨ p.1.op = 4 ∨ p.1.op = 5 then p.1.binds else []).length ≤ p.1.binds.length := by split <;> simp
      rw [List.length_append]
      omega
    rintro ⟨w3, lo, q3, c3⟩ ⟨hsz3, hblo, hwlo, hI3, hbl3⟩
    simp only at hsz3 hblo hwlo hI3 ⊢
    generalize hbi : bindersX p.1 = bs at *
    apply oop; rfl; apply Pev.len_slice; rfl; exact yes; rfl
    apply omv; rfl; rfl
    apply OL.nx
    apply W.block
    refine W.loop (G := Nat) (fun j => j ≤ bs.length ∧ (s0 ++ bs.take j).Nodup) (fun j => bs.length - j)
      (fun j => [(5, true, .map (some bm)), (35, true, .slice (some a) es.length cap), (36, true, .int .i64 (es.length : Int)), (37, true, .int .i64 (i : Int)), (50, true, .slice q3 bs.length c3), (51, true, .int .i64 (bs.length : Int)), (52, true, .int .i64 (j : Int))])
      (fun j => Cls [mapI bm (setM (s0 ++ bs.take j))] [w3, w]) 0 ⟨by omega, by simpa using hnd⟩ (by exact Sub.au) (fun w' hw' => by simpa using hw') ?_
    rintro j ⟨hj, hnd2⟩
    apply W.sr
    apply obn; rfl; rfl; rfl; apply Bin.lss
    apply OL.nx
    apply W.seq
    (refine W.cnd (fun hlt2 => ?_) (fun hlt2 => ?_)) <;> (try (exfalso; first | omega | exact hlt2 trivial | contradiction))
    · have hjl : j < bs.length := by omega
      obtain ⟨av, v, hqv, habv, hv, hcv⟩ := hI3.get hjl
      obtain ⟨habv1, habv2⟩ := habv
      have hbt : bs.take (j + 1) = bs.take j ++ [v] := by rw [List.take_add_one, hv]; rfl
      rw [hqv]
      apply W.sk
      apply W.sb
      apply W.sr
      apply oop; rfl; apply Pev.idx; rfl; exact yes; rfl; exact yes; rfl; rfl; intro hcond; omega
      apply oop; rfl; apply Pev.load_kept; rfl; exact yes; exact .head _; rfl; intro hcond; assumption; intro hcond; (rw [add_block]; assumption); intro hcond; exact NotOwned.au
      apply oas; rfl; rfl
      apply OL.nx
      apply W.seq
      apply W.sr
      apply omv; rfl; rfl
      apply omv; rfl; rfl
      apply oop; rfl; apply Pev.slookup2; rfl; exact yes; rfl; exact yes; rfl; rfl; exact .head _
      apply omv; rfl; rfl
      apply oex; rfl; rfl; rfl
      apply oex; rfl; rfl; rfl
      apply OL.alloc; rfl; rfl; exact CellsL.agg; (intro bk hbk; simp only [AllLe, and_true] at hbk)
      apply OL.storeB; rfl; rfl; exact CellsL.agg; rfl; rfl; rfl; exact Swap.au; exact Put.au
      apply oas; rfl; rfl
      apply OL.nsr
      apply omv; rfl; rfl
      apply OL.nx
      (refine W.cnd (fun hin => ?_) (fun hin => ?_)) <;> (try (exfalso; first | omega | exact hin trivial | contradiction))
      · apply W.sr
        apply oas; rfl; rfl
        apply OL.nx
        refine W.rt ?_
        ((with_reducible apply At.fin1); rfl; rfl; intro w' hw')
        refine ⟨true, rfl, ⟨fun _ => ?_, fun _ => rfl⟩, by (exact hw'.fr)⟩
        obtain ⟨r, hr⟩ := hsall
        have hsplit : bs = bs.take j ++ v :: bs.drop (j + 1) := by
          obtain ⟨h1, rfl⟩ := List.getElem?_eq_some_iff.1 hv
          rw [← List.drop_eq_getElem_cons h1, List.take_append_drop]
        rw [hr]
        have e1 : s0 ++ (bs ++ r) = (s0 ++ bs.take j) ++ v :: (bs.drop (j + 1) ++ r) := by
          conv => lhs; rw [hsplit]
          simp [List.append_assoc]
        rw [e1]
        exact not_nodup hin
      apply W.sk
      apply W.reg
      apply omv; rfl; rfl
      apply omv; rfl; rfl
      apply oop; rfl; apply Pev.build; rfl; exact CellsL.agg; rfl; exact Fill.au; rfl
      apply OL.iput; rfl; rfl; rfl; rfl; exact Hole.au
      apply OL.nil
      with_reducible apply At.in_normal
      with_reducible apply At.next
      apply W.reg
      apply obn; rfl; rfl; rfl; apply Bin.add_in; omega
      apply omv; rfl; rfl
      apply OL.nil
      rw [iput_setM hin, List.append_assoc, ← hbt]
      skip
      exact At.again (j + 1) ⟨by omega, by rw [hbt, ← List.append_assoc]; exact nodup_snoc hnd2 hin⟩ (by omega) (by exact Sub.au) (fun w' hw' => hw'.thin (by exact Thin.au))
    · obtain rfl : j = bs.length := by omega
      rw [List.take_length] at hnd2 ⊢
      rw [← hsnext] at hnd2 ⊢
      refine W.xt ?_
      with_reducible apply At.in_normal
      with_reducible apply At.next
      apply W.reg
      apply obn; rfl; rfl; rfl; apply Bin.add_in; omega
      apply omv; rfl; rfl
      apply OL.nil
      exact At.again (i + 1) ⟨by omega, hnd2⟩ (by omega) (by exact Sub.au) (fun w' hw' => hw'.forget (by simp))
  · obtain rfl : i = es.length := by omega
    rw [List.take_length] at hs0
    refine W.xt ?_
    with_reducible apply At.next
    apply W.sr
    apply oas; rfl; rfl
    apply OL.nx
    apply W.ret
    ((with_reducible apply At.fin1); rfl; rfl; intro w' hw')
    refine ⟨false, rfl, ⟨fun h => (by cases h), fun h => absurd (show (ps ++ (es.map Prod.fst).flatMap bindersX).Nodup by rw [hs0]; exact hnd) h⟩, by (exact hw'.fr)⟩
end Go.Proofs.YtlboppiogeaicaaDoor.co

/- Trees of core expressions in memory; slices.Clone at []int. Conditions: none. -/
namespace Go.Eng
open Go.RowKit
set_option linter.unusedVariables false
set_option linter.unusedSimpArgs false
section
variable {n : Nat} {l : Env} {C : World → Prop} {Q : Exit → Act → World → Prop}
theorem At.againE {G : Type} {Φ : G → Prop} {μ : G → Nat} {lg : G → Env} {Cg : G → World → Prop} {g : G} (h : ∀ w, C w → ∃ g', Φ g' ∧ μ g' < μ g ∧ Sub l (lg g') ∧ Cg g' w) : At n (Exit.then (Again n Φ μ lg Cg g) Q) .normal l C :=
  ⟨fun a w s c => by
    obtain ⟨g', h1, h2, h3, h4⟩ := h w c
    exact ⟨g', h1, h2, s.sub h3, h4⟩⟩
end
theorem Cls.mv {A I H : List Item} {S : List World} {w : World} (h : Cls (A ++ (I ++ H)) S w) : Cls (I ++ (A ++ H)) S w := h.perm (by
  rw [← List.append_assoc, ← List.append_assoc]
  exact List.Perm.append_right H List.perm_append_comm)
theorem row_at {w : World} {B m cap sz : Nat} {O : Nat → Prop} {q : Option Addr} {e : TypeId} {xs : List Value} (h1 : (row B O q m cap e sz xs).holds w) (hl : 0 < xs.length) : ∃ a, q = some a ∧ (B ≤ a.block ∧ O a.block) ∧ CellsAt w a xs := by
  obtain ⟨a, h3, _, h5⟩ := SlAt.of_row h1 hl
  refine ⟨a, h3, ⟨?_, h1.1 a h3⟩, h5⟩
  rcases h1.2.2 with ⟨h7, _⟩ | ⟨g, cap', cur, h7, hb, _⟩
  · simp only [Value.slice.injEq] at h7
    rw [h7.1] at h3; cases h3
  · simp only [Value.slice.injEq] at h7
    rw [h7.1] at h3
    obtain rfl := Option.some.inj h3
    exact hb
/-- two piles are one -/
theorem Cls.pile_merge {H : List Item} {S : List World} {w : World} {B : Nat} {O O' : Nat → Prop} {L L' : List Sl} (h : Cls (pile B O L :: pile B O' L' :: H) S w) : Cls (pile B (fun k => O k ∨ O' k) (L' ++ L) :: H) S w := by
  have hr := h.item (i := pile B O L) (by simp)
  have hp := h.item (i := pile B O' L') (by simp)
  have hd := h.dj
  rw [List.pairwise_cons, List.pairwise_cons] at hd
  obtain ⟨hr1, hp1, hH⟩ := hd
  refine ⟨fun i hi => ?_, fun i hi => ?_, ?_, fun s hs => (h.kp s hs).mono fun k _ ⟨i, hi, hk⟩ => ?_⟩
  · rcases List.mem_cons.1 hi with rfl | hi
    · intro s hs hl
      rcases List.mem_append.1 hs with hs | hs
      · obtain ⟨a, h1, h2, h3⟩ := hp s hs hl
        exact ⟨a, h1, ⟨h2.1, .inr h2.2⟩, h3⟩
      · obtain ⟨a, h1, h2, h3⟩ := hr s hs hl
        exact ⟨a, h1, ⟨h2.1, .inl h2.2⟩, h3⟩
    · exact h.holds i (by simp [hi])
  · rcases List.mem_cons.1 hi with rfl | hi
    · rintro k ⟨h1, h2 | h2⟩
      · exact h.lt (pile B O L) (by simp) k ⟨h1, h2⟩
      · exact h.lt (pile B O' L') (by simp) k ⟨h1, h2⟩
    · exact h.lt i (by simp [hi])
  · refine List.pairwise_cons.2 ⟨fun j hj k hk hj2 => ?_, hH⟩
    obtain ⟨h1, h2 | h2⟩ := hk
    · exact hr1 j (by simp [hj]) k ⟨h1, h2⟩ hj2
    · exact hp1 j hj k ⟨h1, h2⟩ hj2
  · rcases List.mem_cons.1 hi with rfl | hi
    · exact ⟨_, .head _, hk.1, .inl hk.2⟩
    · rcases List.mem_cons.1 hi with rfl | hi
      · exact ⟨_, .head _, hk.1, .inr hk.2⟩
      · exact ⟨i, by simp [hi], hk⟩
/-- an array of memory that is new is a pile -/
theorem Cls.pile_new {H : List Item} {S : List World} {w w' : World} {B : Nat} {q : Option Addr} {cap : Nat} {xs : List Value} (h : Cls H S w) (hB : B ≤ w.heap.size) (he : Ext w w') (hx : 0 < xs.length → ∃ a, q = some a ∧ (w.heap.size ≤ a.block ∧ a.block < w'.heap.size) ∧ CellsAt w' a xs) :
    Cls (pile B (fun k => w.heap.size ≤ k ∧ k < w'.heap.size) [⟨q, cap, xs⟩] :: H) S w' :=
  h.add he _ (fun s hs hl => by
    obtain rfl := List.mem_singleton.1 hs
    obtain ⟨a, h1, h2, h3⟩ := hx hl
    exact ⟨a, h1, ⟨Nat.le_trans hB h2.1, h2⟩, h3⟩) (fun k hk => hk.2)
end Go.Eng
namespace Go.Co
open Go.Eng Go.RowKit
set_option linter.unusedVariables false
set_option linter.unusedSimpArgs false
mutual
def TrO (w : World) (O : Nat → Prop) : Tr → Nat → Prop
  | .mk op n binds kids alts, b => ∃ y : ExY, NodeO w O b op n binds kids.length alts y ∧ kids.length ≤ 4096 ∧ (0 < kids.length → ∃ a, y.k.1 = some a ∧ O a.block ∧ TrsO w O kids a)
def TrsO (w : World) (O : Nat → Prop) : List Tr → Addr → Prop
  | [], _ => True
  | t :: r, a => (∃ b, w.cell? a = some (.pointer (some ⟨b, 0, none⟩)) ∧ TrO w O t b) ∧ TrsO w O r (a.add 1)
end
mutual
theorem TrO.stab {w w' : World} {O : Nat → Prop} (hk : ∀ k, O k → w'.heap[k]? = w.heap[k]?) : ∀ {t : Tr} {b : Nat}, TrO w O t b → TrO w' O t b
  | .mk op n binds kids alts, b, h => by
    simp only [TrO] at h ⊢
    obtain ⟨y, h1, h2, h3⟩ := h
    refine ⟨y, h1.stab hk, h2, fun hl => ?_⟩
    obtain ⟨a, ha, hb, hall⟩ := h3 hl
    exact ⟨a, ha, hb, TrsO.stab hk hb hall⟩
theorem TrsO.stab {w w' : World} {O : Nat → Prop} (hk : ∀ k, O k → w'.heap[k]? = w.heap[k]?) : ∀ {ts : List Tr} {a : Addr}, O a.block → TrsO w O ts a → TrsO w' O ts a
  | [], _, _, _ => by simp only [TrsO]
  | t :: r, a, hb, h => by
    simp only [TrsO] at h ⊢
    obtain ⟨⟨b, h1, h2⟩, h3⟩ := h
    exact ⟨⟨b, by rw [cell_heap (hk _ hb)]; exact h1, TrO.stab hk h2⟩, TrsO.stab hk (by rw [add_block]; exact hb) h3⟩
end
mutual
theorem TrO.mono {w : World} {O O' : Nat → Prop} (hk : ∀ k, O k → O' k) : ∀ {t : Tr} {b : Nat}, TrO w O t b → TrO w O' t b
  | .mk op n binds kids alts, b, h => by
    simp only [TrO] at h ⊢
    obtain ⟨y, h1, h2, h3⟩ := h
    refine ⟨y, h1.mono hk, h2, fun hl => ?_⟩
    obtain ⟨a, ha, hb, hall⟩ := h3 hl
    exact ⟨a, ha, hk _ hb, TrsO.mono hk hall⟩
theorem TrsO.mono {w : World} {O O' : Nat → Prop} (hk : ∀ k, O k → O' k) : ∀ {ts : List Tr} {a : Addr}, TrsO w O ts a → TrsO w O' ts a
  | [], _, _ => by simp only [TrsO]
  | t :: r, a, h => by
    simp only [TrsO] at h ⊢
    obtain ⟨⟨b, h1, h2⟩, h3⟩ := h
    exact ⟨⟨b, h1, TrO.mono hk h2⟩, TrsO.mono hk h3⟩
end
theorem TrO.at {w w' : World} {t : Tr} {b : Nat} {H : List Eng.Item} {S : List World} (h : TrO w (low w) t b) (hw : Cls H S w') (hs : w ∈ S) (hno : ∀ k, k < w.heap.size → NotOwned H k) : TrO w' (low w') t b :=
  TrO.mono (hw.up hs) (TrO.stab (hw.same hs hno) h)
theorem TrO.ext {w w' : World} {t : Tr} {b : Nat} (h : TrO w (low w) t b) (hx : Ext w w') : TrO w' (low w') t b :=
  TrO.mono (fun k hk => Nat.lt_of_lt_of_le hk hx.size) (TrO.stab (fun k hk => hx.block k hk id) h)
theorem TrsO.get {w : World} {O : Nat → Prop} : ∀ {ts : List Tr} {a : Addr} {i : Nat} {t : Tr}, TrsO w O ts a → ts[i]? = some t → ∃ b, w.cell? (a.add (i * 1)) = some (.pointer (some ⟨b, 0, none⟩)) ∧ TrO w O t b
  | [], _, _, _, _, h => by simp at h
  | u :: r, a, 0, t, h, hi => by
    simp only [TrsO] at h
    simp at hi; subst hi
    obtain ⟨b, h1, h2⟩ := h.1
    exact ⟨b, by rw [Nat.zero_mul, add_zero_]; exact h1, h2⟩
  | u :: r, a, i + 1, t, h, hi => by
    simp only [TrsO] at h
    obtain ⟨b, h1, h2⟩ := TrsO.get (i := i) h.2 (by simpa using hi)
    rw [add_add] at h1
    exact ⟨b, by rwa [show 1 + i * 1 = (i + 1) * 1 by omega] at h1, h2⟩
def ptrs (l : List Nat) : List Value := l.map fun b => .pointer (some ⟨b, 0, none⟩)
theorem TrsO.of {w : World} {O : Nat → Prop} : ∀ {ts : List Tr} {bs : List Nat} {a : Addr}, bs.length = ts.length → CellsAt w a (ptrs bs) → (∀ (i : Nat) t b, ts[i]? = some t → bs[i]? = some b → TrO w O t b) → TrsO w O ts a
  | [], _, _, _, _, _ => by simp only [TrsO]
  | t :: r, [], _, h, _, _ => by simp at h
  | t :: r, b :: bs, a, h, hc, hall => by
    simp only [TrsO]
    refine ⟨⟨b, by have := hc 0 _ (show (ptrs (b :: bs))[0]? = some _ from rfl); rwa [add_zero_] at this, hall 0 t b rfl rfl⟩, TrsO.of (bs := bs) (by simpa using h) (fun j v hj => ?_) (fun i t' b' h1 h2 => hall (i + 1) t' b' (by simpa using h1) (by simpa using h2))⟩
    rw [add_add, Nat.add_comm]
    exact hc (j + 1) v (by simpa [ptrs] using hj)
end Go.Co
namespace Go.Proofs.YtlboppiogeaicaaDoor.co
open Go.RowKit Go.Eng Go.Co
set_option linter.unusedVariables false
set_option linter.unusedSimpArgs false
set_option maxRecDepth 100000
theorem Clone_calls (q : Option Addr) (cap : Nat) (l : List Int) (w : World) (h : IntsO w (low w) l q) (hl : l.length ≤ 1000000) :
    Calls Tryd.prog 79 [.slice q l.length cap].toArray w fun e w' => ∃ q' c, e = .returned (.slice q' l.length c) ∧ Ext w w' ∧ IntsO w' (fresh w w') l q' ∧ l.length ≤ c := by
  refine enter Tryd.func79 rfl Tryd.ntmps79 rfl (Cls.start w) ?_
  (simp only [argEnv, Nat.zero_add, Nat.reduceAdd])
  cases q with
  | none =>
    have hl0 : l = [] := by
      cases l with
      | nil => rfl
      | cons v r =>
        obtain ⟨a, ha, _⟩ := h (by simp)
        cases ha
    subst hl0
    apply W.sr
    apply oas; rfl; rfl
    apply OL.nx
    apply W.seq
    apply W.sr
    apply omv; rfl; rfl
    apply obn; rfl; rfl; rfl; apply Bin.slice_nil; rfl
    apply OL.nx
    refine W.cond rfl (fun _ => ?_) (fun hb => by simp at hb)
    apply W.sr
    apply oas; rfl; rfl
    apply OL.nx
    refine W.rt ?_
    ((with_reducible apply At.fin1); rfl; rfl; intro w' hw')
    exact ⟨none, 0, rfl, by (exact hw'.fr), IntsO.nil, by simp⟩
  | some a =>
    apply W.sr
    apply oas; rfl; rfl
    apply OL.nx
    apply W.seq
    apply W.sr
    apply omv; rfl; rfl
    apply obn; rfl; rfl; rfl; apply Bin.slice_nil; rfl
    apply OL.nx
    refine W.cond rfl (fun hb => by simp at hb) (fun _ => ?_)
    apply W.sk
    apply W.sr
    apply OL.buildSlice; rfl; rfl; rfl; exact Elems.au; rfl; rfl; (intro bk hbk; simp only [AllLe, and_true] at hbk)
    apply omv; rfl; rfl
    refine OL.cls (fun w' hw' => hw'.blk_row (base := w.heap.size) (m := 0) (sz := 1) (by omega) rfl (by decide)) ?_
    (apply OL.appendK (news := ints l)); rfl; rfl; rfl; rfl; (exact Hole.au); (exact fun w2 hw2 => (h.at hw2 (.head _) (fun k hk => by exact NotOwned.au)).slAt); (rw [ints_length, Nat.mul_one]); (exact ints_oneL _); (exact ⟨w, .head _, Nat.le_refl _⟩); (omega); (intro O1 q1 c1)
    simp only [Nat.zero_add, List.nil_append]
    apply oas; rfl; rfl
    apply OL.nx
    apply W.ret
    ((with_reducible apply At.fin1); rfl; rfl; intro w' hw')
    exact ⟨q1, c1, rfl, by (exact hw'.fr), rowInts hw' (.head _) (Nat.le_refl _), row_cap (hw'.item (.head _))⟩
end Go.Proofs.YtlboppiogeaicaaDoor.co
