/- Plain: what the checks of core expressions compute. No program in sight. No condition. -/
import Derived.Test.YtlboppiogeaicaaDoorCoP
namespace Go.Co
set_option linter.unusedVariables false
set_option linter.unusedSimpArgs false
def firstE {α : Type} (f : α → Int) : List α → Int
  | [] => 0
  | x :: r => if f x = 0 then firstE f r else f x
theorem firstE_drop {α : Type} {f : α → Int} {l : List α} {i : Nat} {x : α} (h : l[i]? = some x) : firstE f (l.drop i) = if f x = 0 then firstE f (l.drop (i + 1)) else f x := by
  obtain ⟨h1, rfl⟩ := List.getElem?_eq_some_iff.1 h
  rw [List.drop_eq_getElem_cons h1, firstE]
theorem firstE_congr {α : Type} {f g : α → Int} : ∀ {l : List α}, (∀ x ∈ l, f x = g x) → firstE f l = firstE g l
  | [], _ => rfl
  | x :: r, h => by rw [firstE, firstE, h x (.head _), firstE_congr fun y hy => h y (.tail _ hy)]
theorem firstE_zero {α : Type} {f : α → Int} : ∀ {l : List α}, firstE f l = 0 ↔ ∀ x ∈ l, f x = 0
  | [] => by simp [firstE]
  | x :: r => by
    rw [firstE]
    split
    · rename_i h
      rw [firstE_zero]
      simp [h]
    · rename_i h
      simp [h]
def kidsAll (e : List Ex) : List Int := e.flatMap Ex.kids
/-- all kids so far: of the first i nodes, and j of node i -/
def kidsTo (e : List Ex) (i j : Nat) : List Int := kidsAll (e.take i) ++ ((e[i]?.map Ex.kids).getD []).take j
theorem kidsTo_zero (e : List Ex) : kidsTo e 0 0 = [] := by simp [kidsTo, kidsAll]
theorem kidsTo_step {e : List Ex} {i j : Nat} {x : Ex} {k : Int} (hx : e[i]? = some x) (hk : x.kids[j]? = some k) : kidsTo e i (j + 1) = kidsTo e i j ++ [k] := by
  simp [kidsTo, hx, List.take_add_one, hk]
theorem kidsTo_next {e : List Ex} {i : Nat} {x : Ex} (hx : e[i]? = some x) : kidsTo e (i + 1) 0 = kidsTo e i x.kids.length := by
  simp [kidsTo, hx, List.take_add_one, kidsAll]
theorem kidsTo_end (e : List Ex) : kidsTo e e.length 0 = kidsAll e := by simp [kidsTo]
theorem mem_kidsAll {e : List Ex} {k : Int} : k ∈ kidsAll e ↔ ∃ (i : Nat) (x : Ex), e[i]? = some x ∧ k ∈ x.kids := by
  unfold kidsAll
  rw [List.mem_flatMap]
  constructor
  · rintro ⟨x, hx, hk⟩
    obtain ⟨i, hi⟩ := List.getElem?_of_mem hx
    exact ⟨i, x, hi, hk⟩
  · rintro ⟨i, x, hx, hk⟩
    exact ⟨x, List.mem_of_getElem? hx, hk⟩
open Classical in
/-- 0: a tree; 2: too deep or too large; 3: no tree -/
noncomputable def treeE (e : List Ex) : Int :=
  if 4096 < e.length then 2
  else if 0 < e.length ∧ Down e ∧ ∀ i : Nat, i + 1 < e.length → (kidsAll e).count (i : Int) = 1 then (if 400 < high (grow e (e.length - 1)) then 2 else 0)
  else 3
/-- places in the list of all kids -/
theorem count_par {e : List Ex} {i : Nat} : ∀ (p m : Nat), Par e i p m → (i : Int) ∈ kidsAll e := fun p m ⟨x, h1, h2⟩ => mem_kidsAll.2 ⟨p, x, h1, List.mem_of_getElem? h2⟩
theorem count_two {l : List Int} {k : Int} {a b : Nat} (hab : a < b) (ha : l[a]? = some k) (hb : l[b]? = some k) : 2 ≤ l.count k := by
  have h1 : k ∈ l.take b := List.mem_of_getElem? (i := a) (by rw [List.getElem?_take_of_lt hab]; exact ha)
  have h2 : k ∈ l.drop b := List.mem_of_getElem? (i := 0) (by rw [List.getElem?_drop]; exact hb)
  have := List.take_append_drop b l
  rw [← this, List.count_append]
  have := List.count_pos_iff.2 h1
  have := List.count_pos_iff.2 h2
  omega
theorem kidsAll_place {e : List Ex} {p m : Nat} {x : Ex} {k : Int} (hx : e[p]? = some x) (hk : x.kids[m]? = some k) : (kidsAll e)[(kidsAll (e.take p)).length + m]? = some k := by
  have h1 : kidsAll e = kidsAll (e.take p) ++ (x.kids ++ kidsAll (e.drop (p + 1))) := by
    have hl := (List.getElem?_eq_some_iff.1 hx)
    obtain ⟨hl, rfl⟩ := hl
    have h2 : kidsAll e = kidsAll (e.take p ++ e[p] :: e.drop (p + 1)) := by rw [← List.drop_eq_getElem_cons hl, List.take_append_drop]
    rw [h2]
    simp only [kidsAll, List.flatMap_append, List.flatMap_cons]
  rw [h1, List.getElem?_append_right (by omega), Nat.add_sub_cancel_left, List.getElem?_append_left (List.getElem?_eq_some_iff.1 hk).1]
  exact hk
theorem kidsAll_mono {e : List Ex} {p p' : Nat} {x : Ex} (hx : e[p]? = some x) (hp : p < p') : (kidsAll (e.take p)).length + x.kids.length ≤ (kidsAll (e.take p')).length := by
  have hl := (List.getElem?_eq_some_iff.1 hx).1
  have h1 : e.take p' = e.take (p + 1) ++ (e.take p').drop (p + 1) := by
    conv => lhs; rw [← List.take_append_drop (p + 1) (e.take p')]
    rw [List.take_take, Nat.min_eq_left (by omega)]
  rw [h1]
  simp [kidsAll, List.take_add_one, hx]
theorem isTree_of {e : List Ex} (hd : Down e) (h : ∀ i : Nat, i + 1 < e.length → (kidsAll e).count (i : Int) = 1) : IsTree e where
  down := hd
  one := fun i hi => by
    have h1 := h i hi
    have h2 : (i : Int) ∈ kidsAll e := List.count_pos_iff.1 (by omega)
    obtain ⟨p, x, hx, hk⟩ := mem_kidsAll.1 h2
    obtain ⟨m, hm⟩ := List.getElem?_of_mem hk
    exact ⟨p, m, x, hx, hm⟩
  uniq := fun i p m p' m' h1 h2 => by
    have hlt := (h1.lt hd)
    have hc := h i (by have := hlt.2; omega)
    obtain ⟨x, hx, hk⟩ := h1
    obtain ⟨x', hx', hk'⟩ := h2
    have e1 := kidsAll_place hx hk
    have e2 := kidsAll_place hx' hk'
    have hm := (List.getElem?_eq_some_iff.1 hk).1
    have hm' := (List.getElem?_eq_some_iff.1 hk').1
    rcases Nat.lt_trichotomy p p' with hp | rfl | hp
    · have := kidsAll_mono hx hp
      have := count_two (a := _) (b := _) (by omega) e1 e2
      omega
    · rw [hx] at hx'
      obtain rfl := Option.some.inj hx'
      rcases Nat.lt_trichotomy m m' with h3 | rfl | h3
      · have := count_two (a := _) (b := _) (by omega) e1 e2
        omega
      · exact ⟨rfl, rfl⟩
      · have := count_two (a := _) (b := _) (by omega) e2 e1
        omega
    · have := kidsAll_mono hx' hp
      have := count_two (a := _) (b := _) (by omega) e2 e1
      omega

/-! ### Nodes by themselves -/

def altOk (x : Ex) (i : Nat) (a : Al) : Bool :=
  !((x.alts.take i).any fun b => decide (b.tag = a.tag)) && decide (-1 ≤ a.tag) && !(decide (x.op = 7) && decide (a.tag = -1) && (decide (i + 1 < x.alts.length) || decide (0 < a.binds.length)))
    && !(decide (x.op = 13) && !(decide (i = 0) == decide (a.tag = -1))) && !(decide (x.op = 13) && !decide (a.binds.length = min (i + 1) 2))
def altsOk (x : Ex) : Bool := (List.range x.alts.length).all fun i => altOk x i (x.alts.getD i ⟨0, []⟩)
def altsB (x : Ex) : Bool := altsOk x && decide (x.kids.length = 1 + x.alts.length) && (decide (x.op = 7) || decide (0 < x.alts.length))
def primN (n : Int) : Nat := if n = 7 ∨ n = 9 then 1 else if n = 11 then 3 else 2
/-- numbers of kids and identifiers, and whether N is used -/
def sh (x : Ex) : Option (Nat × Nat × Bool) :=
  if x.op = 0 ∨ x.op = 1 ∨ x.op = 17 then some (0, 0, true)
  else if x.op = 2 then some (1, x.binds.length, false)
  else if x.op = 3 then some (max 1 x.kids.length, 0, false)
  else if x.op = 4 then some (2, 1, false)
  else if x.op = 5 then some (x.binds.length + 1, max 1 x.binds.length, false)
  else if x.op = 6 ∨ x.op = 14 ∨ x.op = 15 then some (x.kids.length, 0, true)
  else if x.op = 8 then (if 0 ≤ x.n ∧ x.n ≤ 11 then some (primN x.n, 0, true) else none)
  else if x.op = 9 then some (x.binds.length, x.binds.length, false)
  else if x.op = 10 ∨ x.op = 12 ∨ x.op = 16 then some (1, 0, true)
  else if x.op = 11 then some (2, 0, true)
  else none
def shapeB (x : Ex) : Bool :=
  if x.op = 7 ∨ x.op = 13 then altsB x && decide (x.binds.length = 0) && decide (x.n = 0)
  else match sh x with
    | none => false
    | some (k, b, u) => decide (x.kids.length = k) && decide (x.binds.length = b) && decide (x.alts.length = 0) && (u || decide (x.n = 0))
def idB (n : Int) : Bool := decide (0 ≤ n) && decide (n ≤ 1048575)
def lowN (op : Int) : Int := if op = 1 then -1073741824 else if op = 17 then 1 else 0
def highN (op : Int) : Int := if op = 1 then 1073741823 else if op = 6 then 255 else if op = 17 then 6 else if op = 16 then 15 else 1048575
def altR (op : Int) (a : Al) : Bool := !(decide (255 < a.tag) && decide (op = 7) || decide (1048576 ≤ a.tag)) && a.binds.all idB
def rangesOk (x : Ex) : Bool := decide (lowN x.op ≤ x.n) && decide (x.n ≤ highN x.op) && x.binds.all idB && x.alts.all (altR x.op)
def wide (x : Ex) : Nat := x.alts.foldl (fun m a => max m a.binds.length) x.binds.length
def rangesE (x : Ex) : Int :=
  if rangesOk x = false then 4
  else if (if x.op = 2 then 6 else 16) < wide x ∨ ((x.op = 6 ∨ x.op = 15) ∧ 16 < x.kids.length) ∨ (x.op = 3 ∧ 7 < x.kids.length) ∨ (x.op = 14 ∧ 6 < x.kids.length) then 2 else 0
/-- what a node asks of its kids -/
def bindOk (e : List Ex) (x : Ex) (i : Nat) : Bool :=
  !(decide (x.op = 5) && !decide ((e.getD (x.kids.getD i 0).toNat ⟨0, 0, [], [], []⟩).op = 2) || decide (x.op = 9) && decide (0 < i) && !decide (x.binds.getD (i - 1) 0 < x.binds.getD i 0))
def kidsB (e : List Ex) (x : Ex) : Bool := (List.range x.binds.length).all (bindOk e x)
def nodeE (e : List Ex) (x : Ex) : Int := if shapeB x = false then 3 else if ¬ rangesE x = 0 then rangesE x else if kidsB e x = false then 3 else 0
def flatBad (flat : Bool) (op : Int) : Bool := flat && (decide (op = 2) || decide (op = 5) || decide (op = 12) || decide (op = 13)) || !flat && (decide (op = 14) || decide (op = 15) || decide (op = 16))
/-- what a node binds -/
def bindersX (x : Ex) : List Int := (if x.op = 2 ∨ x.op = 4 ∨ x.op = 5 then x.binds else []) ++ x.alts.flatMap Al.binds
open Classical in
noncomputable def bodyE (e : List Ex) (params : List Int) (flat : Bool) : Int :=
  if ¬ treeE e = 0 then treeE e
  else if ¬ firstE (fun x => if flatBad flat x.op then 3 else nodeE e x) e = 0 then firstE (fun x => if flatBad flat x.op then 3 else nodeE e x) e
  else if ¬ (params ++ e.flatMap bindersX).Nodup then 7
  else if ∃ n ∈ fv (grow e (e.length - 1)) [], ¬ n ∈ params then 6 else 0
end Go.Co
