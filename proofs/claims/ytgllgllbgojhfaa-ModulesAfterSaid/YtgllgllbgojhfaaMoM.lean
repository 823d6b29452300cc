/- Plain functions that tell what modules.Check and the reference's ModulesError compute, and that they agree. No program in sight. -/
import Derived.Test.YtgllgllbgojhfaaSli
namespace Go.Mo
open Go.Eng
set_option linter.unusedVariables false
set_option linter.unusedSimpArgs false

def dupA (l : List ByteArray) : Bool := (List.range l.length).any fun i => hasB (l.take i) (l.getD i ByteArray.empty)
def dupB (l : List ByteArray) : Bool := (List.range l.length).any fun i => hasB (l.drop (i + 1)) (l.getD i ByteArray.empty)
def miss (l : List ByteArray) (ll : List (List ByteArray)) : Bool := ll.any fun m => m.any fun s => !hasB l s
def chk (l : List ByteArray) (ll : List (List ByteArray)) : Int := if 16 < l.length then 2 else if ll.length ≠ l.length then 3 else if dupA l then 7 else if miss l ll then 6 else 0
def err (l : List ByteArray) (ll : List (List ByteArray)) : Int := if 16 < l.length then 2 else if l.length ≠ ll.length then 3 else if dupB l then 7 else if miss l ll then 6 else 0

theorem getD_of {l : List ByteArray} {i : Nat} {s : ByteArray} (h : l[i]? = some s) : l.getD i ByteArray.empty = s := by
  rw [List.getD_eq_getElem?_getD, h]; rfl
theorem dupA_yes {l : List ByteArray} {i : Nat} {s : ByteArray} (h : l[i]? = some s) (hd : hasB (l.take i) s = true) : dupA l = true :=
  List.any_eq_true.2 ⟨i, List.mem_range.2 (List.getElem?_eq_some_iff.1 h).1, by rw [getD_of h]; exact hd⟩
theorem dupA_no {l : List ByteArray} (h : ∀ i s, l[i]? = some s → hasB (l.take i) s = false) : dupA l = false := by
  unfold dupA
  rw [List.any_eq_false]
  intro i hi
  rw [List.mem_range] at hi
  have h1 : l[i]? = some l[i] := List.getElem?_eq_getElem hi
  rw [getD_of h1, h i _ h1]
  simp
theorem dupB_yes {l : List ByteArray} {i : Nat} {s : ByteArray} (h : l[i]? = some s) (hd : hasB (l.drop (i + 1)) s = true) : dupB l = true :=
  List.any_eq_true.2 ⟨i, List.mem_range.2 (List.getElem?_eq_some_iff.1 h).1, by rw [getD_of h]; exact hd⟩
theorem dupB_no {l : List ByteArray} (h : ∀ i s, l[i]? = some s → hasB (l.drop (i + 1)) s = false) : dupB l = false := by
  unfold dupB
  rw [List.any_eq_false]
  intro i hi
  rw [List.mem_range] at hi
  have h1 : l[i]? = some l[i] := List.getElem?_eq_getElem hi
  rw [getD_of h1, h i _ h1]
  simp
theorem dup_eq (l : List ByteArray) : dupA l = dupB l := by
  rw [Bool.eq_iff_iff]
  constructor
  · intro h
    obtain ⟨i, hi, hd⟩ := List.any_eq_true.1 h
    rw [List.mem_range] at hi
    have h1 : l[i]? = some l[i] := List.getElem?_eq_getElem hi
    rw [getD_of h1, hasB_iff] at hd
    obtain ⟨j, hj, he⟩ := List.getElem_of_mem hd
    rw [List.length_take] at hj
    rw [List.getElem_take] at he
    have hj2 : j < l.length := by omega
    refine dupB_yes (i := j) (s := l[i]) (by rw [List.getElem?_eq_getElem hj2, he]) (hasB_iff.2 ?_)
    refine List.mem_of_getElem? (i := i - (j + 1)) ?_
    rw [List.getElem?_drop, show j + 1 + (i - (j + 1)) = i by omega]
    exact h1
  · intro h
    obtain ⟨i, hi, hd⟩ := List.any_eq_true.1 h
    rw [List.mem_range] at hi
    have h1 : l[i]? = some l[i] := List.getElem?_eq_getElem hi
    rw [getD_of h1, hasB_iff] at hd
    obtain ⟨j, hj, he⟩ := List.getElem_of_mem hd
    rw [List.length_drop] at hj
    rw [List.getElem_drop] at he
    have hj2 : i + 1 + j < l.length := by omega
    refine dupA_yes (i := i + 1 + j) (s := l[i]) (by rw [List.getElem?_eq_getElem hj2, he]) (hasB_iff.2 ?_)
    refine List.mem_of_getElem? (i := i) ?_
    rw [List.getElem?_take_of_lt (by omega)]
    exact h1
theorem chk_err (l : List ByteArray) (ll : List (List ByteArray)) : chk l ll = err l ll := by
  unfold chk err
  rw [dup_eq]
  by_cases h : ll.length = l.length
  · simp [h]
  · rw [if_pos h, if_pos (fun e => h e.symm)]
theorem miss_yes {l : List ByteArray} {ll : List (List ByteArray)} {i j : Nat} {m : List ByteArray} {s : ByteArray} (h : ll[i]? = some m) (hs : m[j]? = some s) (hd : hasB l s = false) : miss l ll = true :=
  List.any_eq_true.2 ⟨m, List.mem_of_getElem? h, List.any_eq_true.2 ⟨s, List.mem_of_getElem? hs, by rw [hd]; rfl⟩⟩
theorem miss_no {l : List ByteArray} {ll : List (List ByteArray)} (h : ∀ (i : Nat) (m : List ByteArray), ll[i]? = some m → ∀ (j : Nat) (s : ByteArray), m[j]? = some s → hasB l s = true) : miss l ll = false := by
  unfold miss
  rw [List.any_eq_false]
  intro m hm
  obtain ⟨i, hi, rfl⟩ := List.getElem_of_mem hm
  simp only [Bool.not_eq_true, List.any_eq_false]
  intro s hs
  obtain ⟨j, hj, rfl⟩ := List.getElem_of_mem hs
  rw [h i _ (List.getElem?_eq_getElem hi) j _ (List.getElem?_eq_getElem hj)]
  simp

theorem strs_take (l : List ByteArray) (i : Nat) : strs (l.take i) = (strs l).take i := by simp [strs, List.map_take]
theorem strs_drop (l : List ByteArray) (i : Nat) : strs (l.drop i) = (strs l).drop i := by simp [strs, List.map_drop]
theorem take_at {w : World} {B : Nat} {q : Option Addr} {l : List ByteArray} (h : SlAt w B q (strs l)) (i : Nat) : SlAt w B q (strs (l.take i)) := fun hv => by
  rw [strs_take, List.length_take] at hv
  obtain ⟨a, rfl, hab, hc⟩ := h (by omega)
  refine ⟨a, rfl, hab, fun j v hj => hc j v ?_⟩
  rw [strs_take] at hj
  have hlt := (List.getElem?_eq_some_iff.1 hj).1
  rw [List.length_take] at hlt
  rwa [List.getElem?_take_of_lt (by omega)] at hj
theorem drop_at {w : World} {B : Nat} {q : Option Addr} {l : List ByteArray} {cap : Nat} (h : SlAt w B q (strs l)) (hcap : l.length ≤ cap) (i : Nat) : SlAt w B (cutq q cap i 1) (strs (l.drop i)) := by
  rw [strs_drop]
  have := h.cut (cap := cap) (i := i) (sz := 1) (by rw [strs_length]; omega)
  rwa [Nat.mul_one] at this
/-- the slice q holds the slices of strings ll -/
structure StrRows (w : World) (B : Nat) (q : Option Addr) (ll : List (List ByteArray)) : Prop where
  get : ∀ i m, ll[i]? = some m → ∃ a q' cap', q = some a ∧ a.block < B ∧ w.cell? (a.add (i * 1)) = some (.slice q' m.length cap') ∧ m.length ≤ cap' ∧ m.length ≤ 9223372036854775807 ∧ SlAt w B q' (strs m)
theorem StrRows.keep {w w' : World} {B B' : Nat} {q : Option Addr} {ll : List (List ByteArray)} (h : StrRows w B q ll) (hb : ∀ p : Addr, p.block < B → w'.cell? p = w.cell? p) (hB : B ≤ B') : StrRows w' B' q ll := ⟨fun i m hm => by
  obtain ⟨a, q', cap', rfl, hab, hc, hcap, hlen, hs⟩ := h.get i m hm
  exact ⟨a, q', cap', rfl, by omega, (hb _ (by rw [add_block]; exact hab)).trans hc, hcap, hlen, hs.keep hb hB⟩⟩

/-! the order -/
def nm (l : List ByteArray) (i : Nat) : ByteArray := l.getD i ByteArray.empty
def ready (l : List ByteArray) (ll : List (List ByteArray)) (done : List ByteArray) (i : Nat) : Bool := !hasB done (nm l i) && !((ll.getD i []).any fun s => !hasB done s)
def step (l : List ByteArray) (ll : List (List ByteArray)) (done : List ByteArray) (b : Int) (i : Nat) : Int :=
  if (ready l ll done i && (decide (b < 0) || Op.bytesLess (nm l i).toList (nm l b.toNat).toList)) = true then i else b
def best (l : List ByteArray) (ll : List (List ByteArray)) (done : List ByteArray) (k : Nat) : Int := (List.range k).foldl (step l ll done) (-1)
theorem best_succ (l : List ByteArray) (ll : List (List ByteArray)) (done : List ByteArray) (k : Nat) : best l ll done (k + 1) = step l ll done (best l ll done k) k := by
  unfold best; rw [List.range_succ, List.foldl_append]; rfl
theorem best_in (l : List ByteArray) (ll : List (List ByteArray)) (done : List ByteArray) : ∀ k, -1 ≤ best l ll done k ∧ best l ll done k < k
  | 0 => by unfold best; simp
  | k + 1 => by
    have ih := best_in l ll done k
    rw [best_succ]
    unfold step
    split <;> omega
def ordFrom (l : List ByteArray) (ll : List (List ByteArray)) : Nat → List Nat → List ByteArray → Option (List Nat)
  | 0, out, _ => some out
  | f + 1, out, done => if best l ll done l.length < 0 then none else ordFrom l ll f (out ++ [(best l ll done l.length).toNat]) (done ++ [nm l (best l ll done l.length).toNat])
def ord (l : List ByteArray) (ll : List (List ByteArray)) : Option (List Nat) := ordFrom l ll l.length [] []
/-- what Order returns: the numbers and the error -/
def ordR (l : List ByteArray) (ll : List (List ByteArray)) : List Nat × Int :=
  if chk l ll ≠ 0 then ([], chk l ll) else match ord l ll with | none => ([], 8) | some out => (out, 0)
def ints (l : List Nat) : List Value := l.map fun (i : Nat) => Value.int .i64 (i : Int)
theorem chk_len {l : List ByteArray} {ll : List (List ByteArray)} (h : chk l ll = 0) : l.length ≤ 16 ∧ ll.length = l.length := by
  unfold chk at h
  by_cases h1 : 16 < l.length
  · rw [if_pos h1] at h; cases h
  · rw [if_neg h1] at h
    by_cases h2 : ll.length = l.length
    · exact ⟨by omega, h2⟩
    · rw [if_pos h2] at h; cases h
end Go.Mo
