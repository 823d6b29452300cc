/- Plain: the arrays of the check of trees. No program in sight. No condition. -/
import Derived.Test.YtlboppiogeaicaaDoorCoR
namespace Go.Co
open Go.Eng Go.RowKit
set_option linter.unusedVariables false
set_option linter.unusedSimpArgs false
theorem highs_append : ∀ (a b : List Tr), highs (a ++ b) = max (highs a) (highs b)
  | [], b => by simp [highs]
  | t :: r, b => by rw [List.cons_append, highs, highs, highs_append r b, Nat.max_assoc]
/-- the greatest height of the first kids -/
def mx (e : List Ex) (x : Ex) (j : Nat) : Nat := highs ((x.kids.take j).map fun k => grow e k.toNat)
theorem mx_zero (e : List Ex) (x : Ex) : mx e x 0 = 0 := by simp [mx, highs]
theorem mx_succ {e : List Ex} {x : Ex} {j : Nat} {k : Int} (h : x.kids[j]? = some k) : mx e x (j + 1) = max (mx e x j) (high (grow e k.toNat)) := by
  unfold mx
  rw [List.take_add_one, h]
  simp [highs_append, highs]
theorem grow_eqU {e : List Ex} {i : Nat} {x : Ex} (hx : e[i]? = some x) (h : ∀ k ∈ x.kids, 0 ≤ k ∧ k < (i : Int)) : grow e i = .mk x.op x.n x.binds (x.kids.map fun k => grow e k.toNat) x.alts := by
  rw [grow, hx]
  simp only [Tr.mk.injEq, true_and, and_true]
  refine List.map_congr_left fun k hk => ?_
  have := h k hk
  rw [dif_pos (by omega)]
theorem high_eq {e : List Ex} {i : Nat} {x : Ex} (hx : e[i]? = some x) (h : ∀ k ∈ x.kids, 0 ≤ k ∧ k < (i : Int)) : high (grow e i) = mx e x x.kids.length + 1 := by
  rw [grow_eqU hx h, high, mx, List.take_length]
theorem highs_le {B : Nat} : ∀ {l : List Tr}, (∀ t ∈ l, high t ≤ B) → highs l ≤ B
  | [], _ => by simp [highs]
  | t :: r, h => by
    rw [highs]
    exact Nat.max_le.2 ⟨h t (.head _), highs_le fun u hu => h u (.tail _ hu)⟩
theorem mx_le {e : List Ex} {x : Ex} {i j : Nat} (hk : ∀ k ∈ x.kids.take j, 0 ≤ k ∧ k < (i : Int)) (h : ∀ k, k < i → high (grow e k) ≤ k + 1) : mx e x j ≤ i := by
  refine highs_le fun t ht => ?_
  obtain ⟨k, hk2, rfl⟩ := List.mem_map.1 ht
  have h1 := hk k hk2
  have h2 := h k.toNat (by omega)
  omega
theorem high_le {e : List Ex} {n : Nat} (h : ∀ (j : Nat) (x : Ex), j < n → e[j]? = some x → ∀ k ∈ x.kids, 0 ≤ k ∧ k < (j : Int)) : ∀ k, k < n → k < e.length → high (grow e k) ≤ k + 1 := by
  intro k
  induction k using Nat.strongRecOn with
  | _ k ih =>
    intro hk hl
    have hx : e[k]? = some e[k] := List.getElem?_eq_getElem hl
    have hks := h k _ hk hx
    rw [high_eq hx hks]
    have := mx_le (e := e) (x := e[k]) (i := k) (j := e[k].kids.length) (fun c hc => hks c (List.mem_of_mem_take hc)) (fun c hc => ih c hc (by omega) (by omega))
    omega
theorem maxIf (a b : Nat) : (if (a : Int) < (b : Int) then (b : Int) else (a : Int)) = ((max a b : Nat) : Int) := by rw [Nat.max_def]; split <;> split <;> omega
def dl (e : List Ex) (i m : Nat) : List Int := (List.range e.length).map fun k => if k < i then (high (grow e k) : Int) else if k = i then (m : Int) else 0
def pl (e : List Ex) (l : List Int) : List Int := (List.range e.length).map fun (k : Nat) => (l.count (k : Int) : Int)
theorem dl_length (e : List Ex) (i m : Nat) : (dl e i m).length = e.length := by simp [dl]
theorem pl_length (e : List Ex) (l : List Int) : (pl e l).length = e.length := by simp [pl]
theorem ints_set (l : List Int) (o : Nat) (v : Int) : (ints l).set o (.int .i64 v) = ints (l.set o v) := by simp [ints, List.map_set]
theorem dl_zero (e : List Ex) : List.replicate e.length (Value.int .i64 0) = ints (dl e 0 0) := by
  refine List.ext_getElem? fun k => ?_
  by_cases h : k < e.length
  · simp [ints, dl, List.getElem?_replicate, h]
  · simp [ints, dl, List.getElem?_replicate, h]
theorem pl_zero (e : List Ex) : List.replicate e.length (Value.int .i64 0) = ints (pl e []) := by
  refine List.ext_getElem? fun k => ?_
  by_cases h : k < e.length
  · simp [ints, pl, List.getElem?_replicate, h]
  · simp [ints, pl, List.getElem?_replicate, h]
theorem dl_low {e : List Ex} {i m k : Nat} (hk : k < i) (hi : k < e.length) : (dl e i m)[k]? = some (high (grow e k) : Int) := by
  simp [dl, hi, hk]
theorem dl_at {e : List Ex} {i m : Nat} (hi : i < e.length) : (dl e i m)[i]? = some (m : Int) := by simp [dl, hi]
theorem dl_set {e : List Ex} {i m m' : Nat} (hi : i < e.length) : (dl e i m).set i (m' : Int) = dl e i m' := by
  refine List.ext_getElem? fun k => ?_
  rw [List.getElem?_set]
  by_cases h : i = k
  · subst h
    rw [if_pos rfl, dl_length, if_pos hi, dl_at hi]
  · rw [if_neg h]
    have h2 : ¬ k = i := fun e => h e.symm
    by_cases hk : k < e.length
    · simp [dl, hk, h2]
    · rw [List.getElem?_eq_none (by rw [dl_length]; omega), List.getElem?_eq_none (by rw [dl_length]; omega)]
theorem dl_next {e : List Ex} {i m : Nat} (hi : i < e.length) (h : high (grow e i) = m) : dl e i m = dl e (i + 1) 0 := by
  unfold dl
  refine List.map_congr_left fun k hk => ?_
  by_cases h1 : k < i
  · rw [if_pos h1, if_pos (by omega)]
  · rw [if_neg h1]
    by_cases h2 : k = i
    · subst h2
      rw [if_pos rfl, if_pos (by omega), h]
    · rw [if_neg h2, if_neg (by omega)]
      split <;> rfl
theorem pl_at {e : List Ex} {l : List Int} {k : Nat} (hk : k < e.length) : (pl e l)[k]? = some (l.count (k : Int) : Int) := by simp [pl, hk]
theorem pl_set {e : List Ex} {l : List Int} {k : Nat} (hk : k < e.length) : (pl e l).set k ((l.count (k : Int) : Int) + 1) = pl e (l ++ [(k : Int)]) := by
  refine List.ext_getElem? fun m => ?_
  rw [List.getElem?_set]
  by_cases h : k = m
  · subst h
    rw [if_pos rfl, pl_length, if_pos hk, pl_at hk, List.count_append]
    simp
  · rw [if_neg h]
    by_cases hm : m < e.length
    · rw [pl_at hm, pl_at hm, List.count_append]
      have : ¬ (k : Int) = (m : Int) := by omega
      simp [List.count_singleton, this]
    · rw [List.getElem?_eq_none (by rw [pl_length]; omega), List.getElem?_eq_none (by rw [pl_length]; omega)]
theorem treeE_big {e : List Ex} (h : 4096 < e.length) : treeE e = 2 := by unfold treeE; rw [if_pos h]
theorem treeE_bad {e : List Ex} (h : e.length ≤ 4096) (hb : ¬ (0 < e.length ∧ Down e ∧ ∀ i : Nat, i + 1 < e.length → (kidsAll e).count (i : Int) = 1)) : treeE e = 3 := by
  unfold treeE
  rw [if_neg (by omega), if_neg hb]
theorem treeE_ok {e : List Ex} (h : e.length ≤ 4096) (h0 : 0 < e.length) (hd : Down e) (h1 : ∀ i : Nat, i + 1 < e.length → (kidsAll e).count (i : Int) = 1) : treeE e = if 400 < high (grow e (e.length - 1)) then 2 else 0 := by
  unfold treeE
  rw [if_neg (by omega), if_pos ⟨h0, hd, h1⟩]
theorem treeE_zero {e : List Ex} (h : treeE e = 0) : e.length ≤ 4096 ∧ 0 < e.length ∧ IsTree e ∧ high (grow e (e.length - 1)) ≤ 400 := by
  unfold treeE at h
  split at h
  · cases h
  rename_i h1
  split at h
  · rename_i h2
    split at h
    · cases h
    · exact ⟨by omega, h2.1, isTree_of h2.2.1 h2.2.2, by omega⟩
  · cases h
theorem kidsAll_length {B : Nat} : ∀ {l : List Ex}, (∀ x ∈ l, x.kids.length ≤ B) → (kidsAll l).length ≤ l.length * B
  | [], _ => by simp [kidsAll]
  | x :: r, h => by
    have h1 := h x (.head _)
    have h2 := kidsAll_length (l := r) fun y hy => h y (.tail _ hy)
    have e1 : kidsAll (x :: r) = x.kids ++ kidsAll r := by simp [kidsAll]
    rw [e1, List.length_append, List.length_cons, Nat.succ_mul]
    omega
theorem kidsTo_length {B : Nat} {e : List Ex} {i j : Nat} (h : ∀ x ∈ e, x.kids.length ≤ B) (hi : i < e.length) : (kidsTo e i j).length ≤ (i + 1) * B := by
  have h1 := kidsAll_length (B := B) (l := e.take i) fun x hx => h x (List.mem_of_mem_take hx)
  have h2 := h _ (List.getElem_mem hi)
  have hx : e[i]? = some e[i] := List.getElem?_eq_getElem hi
  have h3 : (((e[i]?.map Ex.kids).getD []).take j).length ≤ B := by
    rw [hx]
    simp only [Option.map_some, Option.getD_some, List.length_take]
    omega
  have h4 : (e.take i).length ≤ i := by simp; omega
  have h5 : (e.take i).length * B ≤ i * B := Nat.mul_le_mul_right _ h4
  rw [kidsTo, List.length_append, Nat.succ_mul]
  omega
theorem count_le_length (l : List Int) (k : Int) : l.count k ≤ l.length := List.count_le_length
end Go.Co
