/- Plain: parents, depths and binders as the reference finds them. No program in sight. No condition. -/
import Derived.Test.YtlboppiogeaicaaDoorCoS
namespace Go.Co
set_option linter.unusedVariables false
set_option linter.unusedSimpArgs false
/-- a tree, as both checks ask it -/
def TreeP (e : List Ex) : Prop := 0 < e.length ∧ Down e ∧ ∀ i : Nat, i + 1 < e.length → (kidsAll e).count (i : Int) = 1
theorem TreeP.tree {e : List Ex} (h : TreeP e) : IsTree e := isTree_of h.2.1 h.2.2
theorem kidsTo_all {e : List Ex} {i j : Nat} {x : Ex} (hx : e[i]? = some x) : ∃ r, kidsAll e = kidsTo e i j ++ r := by
  have hl := (List.getElem?_eq_some_iff.1 hx)
  obtain ⟨hl, rfl⟩ := hl
  refine ⟨(e[i].kids).drop j ++ kidsAll (e.drop (i + 1)), ?_⟩
  have h2 : kidsAll e = kidsAll (e.take i ++ e[i] :: e.drop (i + 1)) := by rw [← List.drop_eq_getElem_cons hl, List.take_append_drop]
  rw [h2]
  simp only [kidsTo, kidsAll, hx, Option.map_some, Option.getD_some, List.flatMap_append, List.flatMap_cons]
  rw [List.append_assoc, ← List.append_assoc (List.take j _), List.take_append_drop]
/-- the parents found so far -/
structure PI (e : List Ex) (P : List Int) (i j : Nat) : Prop where
  len : P.length = e.length
  nd : (kidsTo e i j).Nodup
  val : ∀ (k : Nat) (v : Int), P[k]? = some v → (v = -1 ∧ ¬ (k : Int) ∈ kidsTo e i j) ∨ (0 ≤ v ∧ (k : Int) ∈ kidsTo e i j ∧ ∃ m, Par e k v.toNat m)
  dn : ∀ (a : Nat) (x : Ex), a < i → e[a]? = some x → ∀ k ∈ x.kids, 0 ≤ k ∧ k < (a : Int)
theorem PI.start (e : List Ex) : PI e (List.replicate e.length (-1)) 0 0 where
  len := by simp
  nd := by rw [kidsTo_zero]; simp
  val := fun k v h => by
    rw [List.getElem?_replicate] at h
    split at h
    · exact .inl ⟨(Option.some.inj h).symm, by rw [kidsTo_zero]; simp⟩
    · cases h
  dn := fun a x h => by omega
theorem PI.step {e : List Ex} {P : List Int} {i j : Nat} {x : Ex} {k : Int} (h : PI e P i j) (hx : e[i]? = some x) (hk : x.kids[j]? = some k) (h0 : 0 ≤ k) (hi : k < (i : Int)) {v : Int} (hv : P[k.toNat]? = some v) (hv0 : v < 0) : PI e (P.set k.toNat (i : Int)) i (j + 1) := by
  have hkk : ((k.toNat : Nat) : Int) = k := by omega
  have hnot : ¬ k ∈ kidsTo e i j := by
    rcases h.val _ _ hv with ⟨_, h1⟩ | ⟨h1, _⟩
    · rwa [hkk] at h1
    · omega
  have hst := kidsTo_step hx hk
  refine ⟨by rw [List.length_set, h.len], ?_, fun m u hm => ?_, h.dn⟩
  · rw [hst]
    refine List.nodup_append.2 ⟨h.nd, by simp, fun a ha b hb => ?_⟩
    obtain rfl := List.mem_singleton.1 hb
    exact fun e => hnot (e ▸ ha)
  · rw [List.getElem?_set] at hm
    rw [hst]
    by_cases e1 : k.toNat = m
    · rw [if_pos e1] at hm
      split at hm
      · obtain rfl := Option.some.inj hm
        refine .inr ⟨by omega, by rw [← e1, hkk]; simp, ?_⟩
        refine ⟨j, x, by simpa using hx, by rw [← e1, hkk]; exact hk⟩
      · cases hm
    · rw [if_neg e1] at hm
      rcases h.val m u hm with ⟨h1, h2⟩ | ⟨h1, h2, h3⟩
      · refine .inl ⟨h1, fun h4 => ?_⟩
        rcases List.mem_append.1 h4 with h4 | h4
        · exact h2 h4
        · have := List.mem_singleton.1 h4
          omega
      · exact .inr ⟨h1, List.mem_append.2 (.inl h2), h3⟩
theorem PI.next {e : List Ex} {P : List Int} {i : Nat} {x : Ex} (h : PI e P i x.kids.length) (hx : e[i]? = some x) (hd : ∀ k ∈ x.kids, 0 ≤ k ∧ k < (i : Int)) : PI e P (i + 1) 0 where
  len := h.len
  nd := by rw [kidsTo_next hx]; exact h.nd
  val := by rw [kidsTo_next hx]; exact h.val
  dn := fun a y ha hy => by
    by_cases e1 : a = i
    · subst e1
      rw [hx] at hy
      obtain rfl := Option.some.inj hy
      exact hd
    · exact h.dn a y (by omega) hy
/-- a kid that already has a parent: no tree -/
theorem PI.twice {e : List Ex} {P : List Int} {i j : Nat} {x : Ex} {k : Int} (h : PI e P i j) (hx : e[i]? = some x) (hk : x.kids[j]? = some k) (h0 : 0 ≤ k) (hi : k < (i : Int)) {v : Int} (hv : P[k.toNat]? = some v) (hv0 : 0 ≤ v) : ¬ TreeP e := fun hg => by
  have hkk : ((k.toNat : Nat) : Int) = k := by omega
  have hin : k ∈ kidsTo e i j := by
    rcases h.val _ _ hv with ⟨h1, _⟩ | ⟨_, h1, _⟩
    · omega
    · rwa [hkk] at h1
  have hil := (List.getElem?_eq_some_iff.1 hx).1
  have h1 := hg.2.2 k.toNat (by omega)
  rw [hkk] at h1
  obtain ⟨r, hr⟩ := kidsTo_all (j := j + 1) hx
  rw [hr, kidsTo_step hx hk, List.count_append, List.count_append] at h1
  have := List.count_pos_iff.2 hin
  simp at h1
  omega
theorem PI.all {e : List Ex} {P : List Int} (h : PI e P e.length 0) : Down e := fun i x hx => h.dn i x (List.getElem?_eq_some_iff.1 hx).1 hx
theorem PI.good {e : List Ex} {P : List Int} (h : PI e P e.length 0) (h0 : 0 < e.length) (hp : ∀ (k : Nat) (v : Int), k + 1 < e.length → P[k]? = some v → 0 ≤ v) : TreeP e := by
  refine ⟨h0, h.all, fun i hi => ?_⟩
  obtain ⟨v, hv⟩ : ∃ v, P[i]? = some v := ⟨_, List.getElem?_eq_getElem (by rw [h.len]; omega)⟩
  have h1 := hp i v hi hv
  have hnd := h.nd
  rcases h.val i v hv with ⟨h2, _⟩ | ⟨_, h2, _⟩
  · omega
  · rw [kidsTo_end] at h2 hnd
    have h3 := List.count_pos_iff.2 h2
    have h4 := (List.nodup_iff_count.1 hnd) (i : Int)
    omega
theorem PI.bad {e : List Ex} {P : List Int} (h : PI e P e.length 0) {k : Nat} {v : Int} (hk : k + 1 < e.length) (hv : P[k]? = some v) (h0 : v < 0) : ¬ TreeP e := fun hg => by
  rcases h.val k v hv with ⟨_, h2⟩ | ⟨h2, _⟩
  · rw [kidsTo_end] at h2
    have h3 := hg.2.2 k hk
    have := List.count_eq_zero.2 h2
    omega
  · omega
/-- the list of the parents -/
structure Parents (e : List Ex) (P : List Int) : Prop where
  len : P.length = e.length
  par : ∀ k p m, Par e k p m → P[k]? = some (p : Int)
  root : P[e.length - 1]? = some (-1)
theorem PI.parents {e : List Ex} {P : List Int} (h : PI e P e.length 0) (hg : TreeP e) : Parents e P where
  len := h.len
  par := fun k p m hp => by
    have hl := hp.lt hg.2.1
    obtain ⟨v, hv⟩ : ∃ v, P[k]? = some v := ⟨_, List.getElem?_eq_getElem (by rw [h.len]; omega)⟩
    obtain ⟨x, hx, hk⟩ := hp
    rcases h.val k v hv with ⟨_, h2⟩ | ⟨h1, _, m', hp'⟩
    · rw [kidsTo_end] at h2
      exact absurd (mem_kidsAll.2 ⟨p, x, hx, List.mem_of_getElem? hk⟩) h2
    · obtain ⟨e1, e2⟩ := hg.tree.uniq k p m v.toNat m' ⟨x, hx, hk⟩ hp'
      rw [hv]
      congr 1
      omega
  root := by
    have h0 := hg.1
    obtain ⟨v, hv⟩ : ∃ v, P[e.length - 1]? = some v := ⟨_, List.getElem?_eq_getElem (by rw [h.len]; omega)⟩
    rcases h.val _ v hv with ⟨h1, _⟩ | ⟨_, _, m, hp⟩
    · rw [hv, h1]
    · have := hp.lt hg.2.1
      omega

/-! ### depths -/
inductive UnderN (e : List Ex) : Nat → Nat → Nat → Prop where
  | here {i : Nat} : UnderN e i i 0
  | up {i p m j d : Nat} (hp : Par e i p m) (h : UnderN e p j d) : UnderN e i j (d + 1)
theorem UnderN.le {e : List Ex} (hd : Down e) {i j d : Nat} (h : UnderN e i j d) : i + d ≤ j := by
  induction h with
  | here => omega
  | up hp _ ih => have := hp.lt hd; omega
theorem UnderN.down {e : List Ex} {i k j m d : Nat} (h : UnderN e i k d) (hp : Par e k j m) : UnderN e i j (d + 1) := by
  induction h with
  | here => exact .up hp .here
  | up hp' _ ih => exact .up hp' (ih hp)
theorem UnderN.uniq {e : List Ex} (ht : IsTree e) {i j d d' : Nat} (h : UnderN e i j d) (h' : UnderN e i j d') : d = d' := by
  induction h generalizing d' with
  | here =>
    cases h' with
    | here => rfl
    | up hp h2 => have := h2.le ht.down; have := (hp.lt ht.down).1; omega
  | up hp h ih =>
    cases h' with
    | here => have := h.le ht.down; have := (hp.lt ht.down).1; omega
    | up hp2 h2 =>
      obtain ⟨rfl, rfl⟩ := ht.uniq _ _ _ _ _ hp hp2
      rw [ih h2]
theorem high_kid {e : List Ex} (hd : Down e) {i p m : Nat} (hp : Par e i p m) : high (grow e i) + 1 ≤ high (grow e p) := by
  obtain ⟨x, hx, hk⟩ := hp
  rw [high_eq hx (hd p x hx)]
  have h1 : mx e x (m + 1) ≤ mx e x x.kids.length := by
    unfold mx
    have : (x.kids.take x.kids.length).map (fun k => grow e k.toNat) = (x.kids.take (m + 1)).map (fun k => grow e k.toNat) ++ ((x.kids.take x.kids.length).drop (m + 1)).map fun k => grow e k.toNat := by
      rw [← List.map_append]
      congr 1
      rw [List.take_length, List.take_append_drop]
    rw [this, highs_append]
    omega
  rw [mx_succ hk] at h1
  simp at h1
  omega
theorem high_ge {e : List Ex} (hd : Down e) {i j d : Nat} (h : UnderN e i j d) : high (grow e i) + d ≤ high (grow e j) := by
  induction h with
  | here => omega
  | up hp _ ih => have := high_kid hd hp; omega
theorem highs_ex : ∀ {l : List Tr}, highs l = 0 ∨ ∃ (m : Nat) (t : Tr), l[m]? = some t ∧ high t = highs l
  | [] => .inl rfl
  | t :: r => by
    rw [highs]
    rcases highs_ex (l := r) with h | ⟨m, u, h1, h2⟩
    · right
      exact ⟨0, t, rfl, by omega⟩
    · by_cases hc : highs r ≤ high t
      · exact .inr ⟨0, t, rfl, by omega⟩
      · exact .inr ⟨m + 1, u, by simpa using h1, by omega⟩
theorem high_ex {e : List Ex} (hd : Down e) : ∀ (i : Nat), i < e.length → ∃ j d, j < e.length ∧ UnderN e j i d ∧ d + 1 = high (grow e i) := by
  intro i
  induction i using Nat.strongRecOn with
  | _ i ih =>
    intro hi
    have hx : e[i]? = some e[i] := List.getElem?_eq_getElem hi
    have hks := hd i _ hx
    rw [high_eq hx hks]
    unfold mx
    rw [List.take_length]
    rcases highs_ex (l := e[i].kids.map fun k => grow e k.toNat) with h | ⟨m, t, h1, h2⟩
    · exact ⟨i, 0, hi, .here, by omega⟩
    · rw [List.getElem?_map] at h1
      cases hk : (e[i].kids)[m]? with
      | none => simp [hk] at h1
      | some k =>
        simp only [hk, Option.map_some, Option.some.injEq] at h1
        subst h1
        have hlt := hks k (List.mem_of_getElem? hk)
        have hkn : ((k.toNat : Nat) : Int) = k := by omega
        obtain ⟨j, d, hj, hu, hh⟩ := ih k.toNat (by omega) (by omega)
        exact ⟨j, d + 1, hj, hu.down ⟨_, hx, by rw [hkn]; exact hk⟩, by omega⟩
/-- the length of the way up -/
def dep (e : List Ex) (P : List Int) (i : Nat) : Nat :=
  match P[i]? with
  | some p => if h : 0 ≤ p ∧ i < p.toNat ∧ p.toNat < e.length then dep e P p.toNat + 1 else 1
  | none => 1
termination_by e.length - i
theorem dep_root {e : List Ex} {P : List Int} {i : Nat} (h : P[i]? = some (-1)) : dep e P i = 1 := by
  rw [dep, h]
  simp
theorem dep_up {e : List Ex} {P : List Int} {i : Nat} {p : Int} (h : P[i]? = some p) (h0 : 0 ≤ p ∧ i < p.toNat ∧ p.toNat < e.length) : dep e P i = dep e P p.toNat + 1 := by
  rw [dep, h]
  simp only [h0, and_self, dif_pos]
def depths (e : List Ex) (P : List Int) (n : Nat) : Nat := (List.range n).foldl (fun m i => max m (dep e P i)) 0
theorem depths_succ (e : List Ex) (P : List Int) (n : Nat) : depths e P (n + 1) = max (depths e P n) (dep e P n) := by
  unfold depths
  rw [List.range_succ, List.foldl_append]
  rfl
theorem dep_under {e : List Ex} {P : List Int} (ht : IsTree e) (hP : Parents e P) : ∀ {i : Nat}, i < e.length → ∃ d, UnderN e i (e.length - 1) d ∧ dep e P i = d + 1 := by
  intro i hi
  induction hm : e.length - i using Nat.strongRecOn generalizing i with
  | _ m ih =>
    by_cases hl : i + 1 < e.length
    · obtain ⟨p, q, hp⟩ := ht.one i hl
      have hlt := hp.lt ht.down
      obtain ⟨d, hu, hd⟩ := ih (e.length - p) (by omega) hlt.2 rfl
      refine ⟨d + 1, .up hp hu, ?_⟩
      rw [dep_up (hP.par i p q hp) (by omega)]
      simp only [Int.toNat_natCast]
      rw [hd]
    · have hi1 : i = e.length - 1 := by omega
      rw [hi1]
      exact ⟨0, .here, dep_root hP.root⟩
theorem depths_le {e : List Ex} {P : List Int} (ht : IsTree e) (hP : Parents e P) (h0 : 0 < e.length) : ∀ {n : Nat}, n ≤ e.length → depths e P n ≤ high (grow e (e.length - 1))
  | 0, _ => Nat.zero_le _
  | n + 1, h => by
    rw [depths_succ]
    have h1 := depths_le ht hP h0 (n := n) (by omega)
    obtain ⟨d, hu, hd⟩ := dep_under ht hP (i := n) (by omega)
    have h2 := high_ge ht.down hu
    have h3 : 0 < high (grow e n) := by
      have hx : e[n]? = some e[n] := List.getElem?_eq_getElem (by omega)
      rw [high_eq hx (ht.down n _ hx)]
      omega
    omega
theorem depths_ge {e : List Ex} {P : List Int} : ∀ {n i : Nat}, i < n → dep e P i ≤ depths e P n
  | n + 1, i, h => by
    rw [depths_succ]
    by_cases e1 : i = n
    · subst e1
      omega
    · have := depths_ge (e := e) (P := P) (n := n) (i := i) (by omega)
      omega
theorem depths_high {e : List Ex} {P : List Int} (ht : IsTree e) (hP : Parents e P) (h0 : 0 < e.length) : depths e P e.length = high (grow e (e.length - 1)) := by
  have h1 := depths_le ht hP h0 (Nat.le_refl _)
  obtain ⟨j, d, hj, hu, hh⟩ := high_ex ht.down (e.length - 1) (by omega)
  obtain ⟨d', hu', hd'⟩ := dep_under ht hP hj
  have := UnderN.uniq ht hu hu'
  have := depths_ge (e := e) (P := P) hj
  omega

/-! ### binders -/
def hitK (x : Ex) (i : Nat) (n : Int) (m : Nat) : Bool := decide (x.kids[m]? = some (i : Int)) && decide (n ∈ scopeX x m)
def hit (x : Ex) (i : Nat) (n : Int) : Bool := (List.range x.kids.length).any (hitK x i n)
def bnd (e : List Ex) (P : List Int) (n : Int) (i : Nat) : Int :=
  match P[i]? with
  | some p => if h : 0 ≤ p ∧ i < p.toNat ∧ p.toNat < e.length then (if hit (e.getD p.toNat ⟨0, 0, [], [], []⟩) i n then p else bnd e P n p.toNat) else -1
  | none => -1
termination_by e.length - i
theorem bnd_root {e : List Ex} {P : List Int} {n : Int} {i : Nat} (h : P[i]? = some (-1)) : bnd e P n i = -1 := by
  rw [bnd, h]
  simp
theorem bnd_up {e : List Ex} {P : List Int} {n : Int} {i p : Nat} {x : Ex} (h : P[i]? = some (p : Int)) (h0 : i < p) (hx : e[p]? = some x) : bnd e P n i = if hit x i n then (p : Int) else bnd e P n p := by
  have hl := (List.getElem?_eq_some_iff.1 hx).1
  rw [bnd, h]
  simp only [Int.toNat_natCast]
  rw [dif_pos ⟨by omega, h0, hl⟩]
  simp only [List.getD, hx, Option.getD_some]
theorem hit_par {e : List Ex} (ht : IsTree e) {i p m : Nat} {x : Ex} (hp : Par e i p m) (hx : e[p]? = some x) (n : Int) : hit x i n = true ↔ n ∈ scopeX x m := by
  obtain ⟨x', hx', hk⟩ := hp
  rw [hx] at hx'
  obtain rfl := Option.some.inj hx'
  unfold hit
  rw [List.any_eq_true]
  constructor
  · rintro ⟨m', hm', hh⟩
    unfold hitK at hh
    simp only [Bool.and_eq_true, decide_eq_true_eq] at hh
    obtain ⟨_, rfl⟩ := ht.uniq i p m p m' ⟨x, hx, hk⟩ ⟨x, hx, hh.1⟩
    exact hh.2
  · intro h
    refine ⟨m, List.mem_range.2 (List.getElem?_eq_some_iff.1 hk).1, ?_⟩
    unfold hitK
    simp only [Bool.and_eq_true, decide_eq_true_eq]
    exact ⟨hk, h⟩
/-- what the way up finds -/
theorem bnd_spec {e : List Ex} {P : List Int} (ht : IsTree e) (hP : Parents e P) (n : Int) : ∀ {i : Nat}, i < e.length →
    (bnd e P n i = -1 ∧ ∀ sc, Under e i (e.length - 1) sc → ¬ n ∈ sc) ∨ ∃ (k p m : Nat) (x : Ex) (sc : List Int), bnd e P n i = (p : Int) ∧ Under e i k sc ∧ ¬ n ∈ sc ∧ Par e k p m ∧ e[p]? = some x ∧ n ∈ scopeX x m := by
  intro i hi
  induction hm : e.length - i using Nat.strongRecOn generalizing i with
  | _ N ih =>
    by_cases hl : i + 1 < e.length
    · obtain ⟨p, m, hp⟩ := ht.one i hl
      have hlt := hp.lt ht.down
      obtain ⟨x, hx, hk⟩ := hp
      have hp : Par e i p m := ⟨x, hx, hk⟩
      rw [bnd_up (hP.par i p m hp) hlt.1 hx]
      by_cases hh : hit x i n = true
      · rw [if_pos hh]
        exact .inr ⟨i, p, m, x, [], rfl, .here, by simp, hp, hx, (hit_par ht hp hx n).1 hh⟩
      · rw [if_neg hh]
        have hns : ¬ n ∈ scopeX x m := fun h => hh ((hit_par ht hp hx n).2 h)
        rcases ih (e.length - p) (by omega) hlt.2 rfl with ⟨h1, h2⟩ | ⟨k, p', m', x', sc, h1, h2, h3, h4, h5, h6⟩
        · refine .inl ⟨h1, fun sc hu => ?_⟩
          cases hu with
          | here => simp
          | up hp2 hx2 hu2 =>
            obtain ⟨rfl, rfl⟩ := ht.uniq _ _ _ _ _ hp hp2
            rw [hx] at hx2
            obtain rfl := Option.some.inj hx2
            rw [List.mem_append]
            rintro (h | h)
            · exact hns h
            · exact h2 _ hu2 h
        · refine .inr ⟨k, p', m', x', scopeX x m ++ sc, h1, .up hp hx h2, ?_, h4, h5, h6⟩
          rw [List.mem_append]
          rintro (h | h)
          · exact hns h
          · exact h3 h
    · have hi1 : i = e.length - 1 := by omega
      rw [hi1]
      refine .inl ⟨bnd_root hP.root, fun sc hu => ?_⟩
      cases hu with
      | here => simp
      | up hp2 hx2 hu2 =>
        have := hu2.le ht.down
        have := hp2.lt ht.down
        omega
theorem Under.append {e : List Ex} {i j k : Nat} {sc sc' : List Int} (h : Under e i j sc) (h' : Under e j k sc') : Under e i k (sc ++ sc') := by
  induction h with
  | here => simpa using h'
  | up hp hx _ ih =>
    have := Under.up hp hx (ih h')
    simpa [List.append_assoc] using this
theorem bnd_neg {e : List Ex} {P : List Int} (ht : IsTree e) (hP : Parents e P) (n : Int) {i : Nat} (hi : i < e.length) : bnd e P n i < 0 ↔ ∀ sc, Under e i (e.length - 1) sc → ¬ n ∈ sc := by
  rcases bnd_spec ht hP n hi with ⟨h1, h2⟩ | ⟨k, p, m, x, sc, h1, h2, h3, h4, h5, h6⟩
  · rw [h1]
    exact ⟨fun _ => h2, fun _ => by omega⟩
  · rw [h1]
    constructor
    · intro h
      omega
    · intro h
      obtain ⟨sc', hu⟩ := ht.root (h4.lt ht.down).2
      have h7 := h _ (h2.append (.up h4 h5 hu))
      exact absurd (by simp [h6]) h7
end Go.Co
