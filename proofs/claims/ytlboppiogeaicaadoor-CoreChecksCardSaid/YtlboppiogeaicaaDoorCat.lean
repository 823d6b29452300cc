/- Slices whose elements take several cells: the cells of a list of things, element by element; in-place append and clear; slices in three numbers. General. No condition. -/
import Derived.Test.YtlboppiogeaicaaDoorSli
import Derived.Test.YtlboppiogeaicaaDoorLift
namespace Go.Eng
open Go.RowKit
set_option linter.unusedVariables false
set_option linter.unusedSimpArgs false

theorem list_of {α : Type} (R : Nat → α → Prop) : ∀ (n : Nat), (∀ i, i < n → ∃ x, R i x) → ∃ l : List α, l.length = n ∧ ∀ i x, l[i]? = some x → R i x
  | 0, _ => ⟨[], rfl, fun i x h => by simp at h⟩
  | n + 1, h => by
    obtain ⟨l, hl, hr⟩ := list_of R n (fun i hi => h i (by omega))
    obtain ⟨x, hx⟩ := h n (by omega)
    refine ⟨l ++ [x], by simp [hl], fun i y hy => ?_⟩
    rcases Nat.lt_or_ge i l.length with hi | hi
    · rw [List.getElem?_append_left hi] at hy
      exact hr i y hy
    · rw [List.getElem?_append_right hi] at hy
      have h0 : i - l.length = 0 := by
        have := (List.getElem?_eq_some_iff.1 hy).1
        simpa using this
      rw [h0] at hy
      simp only [List.getElem?_cons_zero, Option.some.injEq] at hy
      subst hy
      obtain rfl : i = n := by omega
      exact hx
/-- the cells of the things of a list, one behind another -/
def cat {α : Type} (f : α → List Value) : List α → List Value
  | [] => []
  | x :: l => f x ++ cat f l
section
variable {α : Type} {f : α → List Value} {sz : Nat}
theorem cat_append (f : α → List Value) : ∀ (a b : List α), cat f (a ++ b) = cat f a ++ cat f b
  | [], b => rfl
  | x :: a, b => by rw [List.cons_append, cat, cat_append f a b, cat, List.append_assoc]
theorem cat_one (f : α → List Value) (x : α) : cat f [x] = f x := by simp [cat]
theorem cat_length (hf : ∀ x, (f x).length = sz) : ∀ (l : List α), (cat f l).length = l.length * sz
  | [] => by simp [cat]
  | x :: l => by rw [cat, List.length_append, cat_length hf l, hf, List.length_cons, Nat.succ_mul, Nat.add_comm]
theorem cat_take (hf : ∀ x, (f x).length = sz) : ∀ (l : List α) (i : Nat), (cat f l).take (i * sz) = cat f (l.take i)
  | l, 0 => by simp [cat]
  | [], i + 1 => by simp [cat]
  | x :: l, i + 1 => by
    rw [cat, List.take_succ_cons, cat, ← cat_take hf l i, Nat.succ_mul, Nat.add_comm, List.take_append, hf, List.take_of_length_le (by rw [hf]; omega)]
    congr 2
    omega
theorem cat_drop (hf : ∀ x, (f x).length = sz) : ∀ (l : List α) (i : Nat), (cat f l).drop (i * sz) = cat f (l.drop i)
  | l, 0 => by simp [cat]
  | [], i + 1 => by simp [cat]
  | x :: l, i + 1 => by
    rw [cat, List.drop_succ_cons, ← cat_drop hf l i, Nat.succ_mul, Nat.add_comm, List.drop_append, hf, List.drop_of_length_le (by rw [hf]; omega), List.nil_append]
    congr 1
    omega
theorem cat_get (hf : ∀ x, (f x).length = sz) {l : List α} {i : Nat} {x : α} (h : l[i]? = some x) : ∀ (j : Nat) (v : Value), (f x)[j]? = some v → (cat f l)[i * sz + j]? = some v := by
  intro j v hj
  have hi := (List.getElem?_eq_some_iff.1 h).1
  have hd := cat_drop hf l i
  rw [List.drop_eq_getElem_cons hi, cat] at hd
  have hx : l[i] = x := by
    rw [List.getElem?_eq_getElem hi] at h
    exact Option.some.inj h
  rw [hx] at hd
  have : ((cat f l).drop (i * sz))[j]? = some v := by
    rw [hd, List.getElem?_append_left (List.getElem?_eq_some_iff.1 hj).1]; exact hj
  rwa [List.getElem?_drop] at this
theorem cat_map {β : Type} (f : α → List Value) (g : β → α) : ∀ (l : List β), cat f (l.map g) = cat (fun x => f (g x)) l
  | [] => rfl
  | x :: l => by rw [List.map_cons, cat, cat_map f g l, cat]
theorem oneL_append : ∀ (a b : List Value), oneL a = true → oneL b = true → oneL (a ++ b) = true
  | [], b, _, hb => hb
  | v :: a, b, ha, hb => by
    simp only [oneL, Bool.and_eq_true] at ha
    rw [List.cons_append, oneL, ha.1, oneL_append a b ha.2 hb]; rfl
theorem cat_oneL (h : ∀ x, oneL (f x) = true) : ∀ (l : List α), oneL (cat f l) = true
  | [] => rfl
  | x :: l => oneL_append _ _ (h x) (cat_oneL h l)
/-- an element of a slice that is read -/
theorem SlAt.elem {w : World} {B : Nat} {q : Option Addr} {l : List α} (h : SlAt w B q (cat f l)) (hf : ∀ x, (f x).length = sz) (hsz : 0 < sz) {i : Nat} (hi : i < l.length) :
    ∃ a x, q = some a ∧ a.block < B ∧ l[i]? = some x ∧ CellsAt w (a.add (i * sz)) (f x) := by
  have hpos : 0 < (cat f l).length := by
    rw [cat_length hf]
    exact Nat.mul_pos (by omega) hsz
  obtain ⟨a, rfl, hab, hc⟩ := h hpos
  have hs : l[i]? = some l[i] := List.getElem?_eq_getElem hi
  exact ⟨a, l[i], rfl, hab, hs, fun j v hj => by rw [add_add]; exact hc _ v (cat_get hf hs j v hj)⟩
theorem SlAt.takeC {w : World} {B : Nat} {q : Option Addr} {l : List α} (h : SlAt w B q (cat f l)) (i : Nat) : SlAt w B q (cat f (l.take i)) := fun hv => by
  have e : cat f l = cat f (l.take i) ++ cat f (l.drop i) := by rw [← cat_append, List.take_append_drop]
  obtain ⟨a, rfl, hab, hc⟩ := h (by rw [e, List.length_append]; omega)
  refine ⟨a, rfl, hab, fun j v hj => hc j v ?_⟩
  rw [e, List.getElem?_append_left (List.getElem?_eq_some_iff.1 hj).1]; exact hj
theorem SlAt.dropC {w : World} {B : Nat} {q : Option Addr} {l : List α} {cap : Nat} (h : SlAt w B q (cat f l)) (hf : ∀ x, (f x).length = sz) (hcap : l.length ≤ cap) (i : Nat) : SlAt w B (cutq q cap i sz) (cat f (l.drop i)) := by
  rw [← cat_drop hf]
  exact h.cut (by rw [cat_length hf]; exact Nat.mul_le_mul_right _ hcap)

end
/-! the first place -/
/-- the place of the first one that satisfies p, from place k on; -1: none -/
def idxP {α : Type} (p : α → Bool) : List α → Nat → Int
  | [], _ => -1
  | s :: l, i => if p s then i else idxP p l (i + 1)
section
variable {α : Type} {f : α → List Value} {sz : Nat}
theorem idxP_get {p : α → Bool} {l : List α} {i k : Nat} {s : α} (h : l[i]? = some s) : idxP p (l.drop i) k = if p s then (k : Int) else idxP p (l.drop (i + 1)) (k + 1) := by
  have hi := (List.getElem?_eq_some_iff.1 h).1
  rw [List.drop_eq_getElem_cons hi, idxP]
  rw [List.getElem?_eq_getElem hi] at h
  rw [Option.some.inj h]
theorem idxP_end {p : α → Bool} {l : List α} {i k : Nat} (h : l.length ≤ i) : idxP p (l.drop i) k = -1 := by
  rw [List.drop_eq_nil_of_le h]; rfl
theorem idxP_nonneg (p : α → Bool) : ∀ (l : List α) (k : Nat), decide (0 ≤ idxP p l k) = l.any p
  | [], k => rfl
  | s :: l, k => by
    rw [idxP, List.any_cons]
    cases h : p s
    · simp only [Bool.false_eq_true, if_false, Bool.false_or]
      exact idxP_nonneg p l (k + 1)
    · simp only [if_true, Bool.true_or, decide_eq_true_eq]
      omega
theorem idxP_cases (p : α → Bool) : ∀ (l : List α) (k : Nat), (idxP p l k = -1 ∧ ∀ x ∈ l, p x = false) ∨ ∃ i x, l[i]? = some x ∧ p x = true ∧ idxP p l k = ((k + i : Nat) : Int) ∧ ∀ y ∈ l.take i, p y = false
  | [], k => .inl ⟨rfl, fun x hx => by cases hx⟩
  | s :: l, k => by
    cases h : p s with
    | true => exact .inr ⟨0, s, rfl, h, by simp [idxP, h], fun y hy => by simp at hy⟩
    | false =>
      rcases idxP_cases p l (k + 1) with ⟨h1, h2⟩ | ⟨i, x, h1, h2, h3, h4⟩
      · refine .inl ⟨by simp [idxP, h, h1], fun x hx => ?_⟩
        rcases List.mem_cons.1 hx with rfl | hx
        · exact h
        · exact h2 x hx
      · refine .inr ⟨i + 1, x, by simpa using h1, h2, by simp only [idxP, h, Bool.false_eq_true, if_false, h3]; omega, fun y hy => ?_⟩
        rw [List.take_succ_cons] at hy
        rcases List.mem_cons.1 hy with rfl | hy
        · exact h
        · exact h4 y hy

/-- a slice of structs that reads -/
theorem elems_of {H : Type} {enc : TypeId × Value → H} {P : Program} {w : World} {spare : Nat → Bool} {held : Bool} {t e : TypeId} {fuel : Nat} {cs : List Value} {x : DataW H × List MemPlace} (ht : P.underlying t = some (.slice e)) (hs : P.cellsOf e = sz) (hsz : 0 < sz) (hf : ∀ x, (f x).length = sz)
    (he : ∀ (n : Nat) (cs' : List Value) (y : DataW H × List MemPlace), n < fuel → DataW.trod enc P w 0 spare held n e cs' = some y → ∃ u : α, cs' = f u)
    (h : DataW.trod enc P w 0 spare held fuel t cs = some x) :
    ∃ (q : Option Addr) (l : List α) (cap : Nat), cs = [.slice q l.length cap] ∧ l.length ≤ cap ∧ cap ≤ maxLen ∧ SlAt w w.heap.size q (cat f l) := by
  obtain ⟨q, len, cap, rfl, hle, hcap, hq0, m, hm, hel⟩ := slice_reads ht hs h
  cases q with
  | none =>
    obtain rfl := hq0 rfl
    exact ⟨none, [], cap, rfl, hle, hcap, SlAt.nil⟩
  | some a =>
    obtain ⟨l, hl, hr⟩ := list_of (fun i (u : α) => CellsAt w (a.add (i * sz)) (f u)) len (fun i hi => by
      obtain ⟨cs', y, hc, hl1, ht'⟩ := hel a rfl i hi
      obtain ⟨u, rfl⟩ := he m cs' y hm ht'
      exact ⟨u, hc⟩)
    subst hl
    refine ⟨some a, l, cap, rfl, hle, hcap, fun hv => ⟨a, rfl, ?_, fun j v hj => ?_⟩⟩
    · rw [cat_length hf] at hv
      have hl0 : 0 < l.length := Nat.pos_of_mul_pos_right hv
      have h0 := hr 0 _ (List.getElem?_eq_getElem hl0)
      rw [Nat.zero_mul, add_zero_] at h0
      have hz : 0 < (f l[0]).length := by rw [hf]; exact hsz
      have := h0 0 _ (List.getElem?_eq_getElem hz)
      rw [add_zero_] at this
      exact cell_lt this
    · have hjl := (List.getElem?_eq_some_iff.1 hj).1
      rw [cat_length hf] at hjl
      have hi : j / sz < l.length := Nat.div_lt_of_lt_mul (by rwa [Nat.mul_comm] at hjl)
      have h0 := hr (j / sz) _ (List.getElem?_eq_getElem hi)
      have hm' : j % sz < (f l[j / sz]).length := by rw [hf]; exact Nat.mod_lt _ hsz
      have h1 := cat_get hf (List.getElem?_eq_getElem hi) (j % sz) _ (List.getElem?_eq_getElem hm')
      have ej : j / sz * sz + j % sz = j := by rw [Nat.mul_comm]; exact Nat.div_add_mod j sz
      rw [ej, hj] at h1
      have h2 := h0 (j % sz) _ (List.getElem?_eq_getElem hm')
      rw [add_add, ej] at h2
      rw [h2, h1]
end
end Go.Eng
