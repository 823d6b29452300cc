/- Texts of the proof of ModulesCycles, part 2: rules of a calculus for walking, plain laws, and walks of the functions that the law reaches. No condition. -/
import Derived.Lib.SlicesCompact
import Derived.Test.YtgllgllbgojhfaaProg
import Derived.Shelf.Lays
import Derived.Test.YtgllgllbgojhfaaRows
import Derived.Shelf.Sort.Plain
import Derived.Shelf.Slices.CompactS
import Derived.Shelf.Slices.In.SortNone
import Derived.RangeFuncNested
import Derived.MapKept
import Derived.LaidEqlPtr
import Derived.Lib.Builder
import Derived.Laws.Pointers
import Derived.ArgAppend
import Derived.Test.YtgllgllbgojhfaaModulesCycles1
set_option linter.unusedVariables false
set_option linter.unusedSimpArgs false
set_option linter.unusedSectionVars false
/- Plain functions that tell what modules.Check and the reference's ModulesError compute, and that they agree. No program in sight. -/
namespace Go.Mo
open Go.Eng
def dupA (l : List ByteArray) : Bool := (List.range l.length).any fun i => hasB (l.take i) (l.getD i ByteArray.empty)
def dupB (l : List ByteArray) : Bool := (List.range l.length).any fun i => hasB (l.drop (i + 1)) (l.getD i ByteArray.empty)
def miss (l : List ByteArray) (ll : List (List ByteArray)) : Bool := ll.any fun m => m.any fun s => !hasB l s
def chk (l : List ByteArray) (ll : List (List ByteArray)) : Int := if 16 < l.length then 2 else if ll.length ≠ l.length then 3 else if dupA l then 7 else if miss l ll then 6 else 0
def err (l : List ByteArray) (ll : List (List ByteArray)) : Int := if 16 < l.length then 2 else if l.length ≠ ll.length then 3 else if dupB l then 7 else if miss l ll then 6 else 0
theorem getD_of {l : List ByteArray} {i : Nat} {s : ByteArray} (h : l[i]? = some s) : l.getD i ByteArray.empty = s := by
  rw [List.getD_eq_getElem?_getD, h]; rfl
theorem dupA_yes {l : List ByteArray} {i : Nat} {s : ByteArray} (h : l[i]? = some s) (hd : hasB (l.take i) s = true) : dupA l = true :=
  List.any_eq_true.2 ⟨i, List.mem_range.2 (List.getElem?_eq_some_iff.1 h).1, by rw [getD_of h]; exact hd⟩
theorem dupA_no {l : List ByteArray} (h : ∀ i s, l[i]? = some s → hasB (l.take i) s = false) : dupA l = false := by
  unfold dupA
  rw [List.any_eq_false]
  intro i hi
  rw [List.mem_range] at hi
  have h1 : l[i]? = some l[i] := List.getElem?_eq_getElem hi
  rw [getD_of h1, h i _ h1]
  simp
theorem dupB_yes {l : List ByteArray} {i : Nat} {s : ByteArray} (h : l[i]? = some s) (hd : hasB (l.drop (i + 1)) s = true) : dupB l = true :=
  List.any_eq_true.2 ⟨i, List.mem_range.2 (List.getElem?_eq_some_iff.1 h).1, by rw [getD_of h]; exact hd⟩
theorem dupB_no {l : List ByteArray} (h : ∀ i s, l[i]? = some s → hasB (l.drop (i + 1)) s = false) : dupB l = false := by
  unfold dupB
  rw [List.any_eq_false]
  intro i hi
  rw [List.mem_range] at hi
  have h1 : l[i]? = some l[i] := List.getElem?_eq_getElem hi
  rw [getD_of h1, h i _ h1]
  simp
theorem dup_eq (l : List ByteArray) : dupA l = dupB l := by
  rw [Bool.eq_iff_iff]
  constructor
  · intro h
    obtain ⟨i, hi, hd⟩ := List.any_eq_true.1 h
    rw [List.mem_range] at hi
    have h1 : l[i]? = some l[i] := List.getElem?_eq_getElem hi
    rw [getD_of h1, hasB_iff] at hd
    obtain ⟨j, hj, he⟩ := List.getElem_of_mem hd
    rw [List.length_take] at hj
    rw [List.getElem_take] at he
    have hj2 : j < l.length := by omega
    refine dupB_yes (i := j) (s := l[i]) (by rw [List.getElem?_eq_getElem hj2, he]) (hasB_iff.2 ?_)
    refine List.mem_of_getElem? (i := i - (j + 1)) ?_
    rw [List.getElem?_drop, show j + 1 + (i - (j + 1)) = i by omega]
    exact h1
  · intro h
    obtain ⟨i, hi, hd⟩ := List.any_eq_true.1 h
    rw [List.mem_range] at hi
    have h1 : l[i]? = some l[i] := List.getElem?_eq_getElem hi
    rw [getD_of h1, hasB_iff] at hd
    obtain ⟨j, hj, he⟩ := List.getElem_of_mem hd
    rw [List.length_drop] at hj
    rw [List.getElem_drop] at he
    have hj2 : i + 1 + j < l.length := by omega
    refine dupA_yes (i := i + 1 + j) (s := l[i]) (by rw [List.getElem?_eq_getElem hj2, he]) (hasB_iff.2 ?_)
    refine List.mem_of_getElem? (i := i) ?_
    rw [List.getElem?_take_of_lt (by omega)]
    exact h1
theorem chk_err (l : List ByteArray) (ll : List (List ByteArray)) : chk l ll = err l ll := by
  unfold chk err
  rw [dup_eq]
  by_cases h : ll.length = l.length
  · simp [h]
  · rw [if_pos h, if_pos (fun e => h e.symm)]
theorem miss_yes {l : List ByteArray} {ll : List (List ByteArray)} {i j : Nat} {m : List ByteArray} {s : ByteArray} (h : ll[i]? = some m) (hs : m[j]? = some s) (hd : hasB l s = false) : miss l ll = true :=
  List.any_eq_true.2 ⟨m, List.mem_of_getElem? h, List.any_eq_true.2 ⟨s, List.mem_of_getElem? hs, by rw [hd]; rfl⟩⟩
theorem miss_no {l : List ByteArray} {ll : List (List ByteArray)} (h : ∀ (i : Nat) (m : List ByteArray), ll[i]? = some m → ∀ (j : Nat) (s : ByteArray), m[j]? = some s → hasB l s = true) : miss l ll = false := by
  unfold miss
  rw [List.any_eq_false]
  intro m hm
  obtain ⟨i, hi, rfl⟩ := List.getElem_of_mem hm
  simp only [Bool.not_eq_true, List.any_eq_false]
  intro s hs
  obtain ⟨j, hj, rfl⟩ := List.getElem_of_mem hs
  rw [h i _ (List.getElem?_eq_getElem hi) j _ (List.getElem?_eq_getElem hj)]
  simp
theorem strs_take (l : List ByteArray) (i : Nat) : strs (l.take i) = (strs l).take i := by simp [strs, List.map_take]
theorem strs_drop (l : List ByteArray) (i : Nat) : strs (l.drop i) = (strs l).drop i := by simp [strs, List.map_drop]
theorem take_at {w : World} {B : Nat} {q : Option Addr} {l : List ByteArray} (h : SlAt w B q (strs l)) (i : Nat) : SlAt w B q (strs (l.take i)) := fun hv => by
  rw [strs_take, List.length_take] at hv
  obtain ⟨a, rfl, hab, hc⟩ := h (by omega)
  refine ⟨a, rfl, hab, fun j v hj => hc j v ?_⟩
  rw [strs_take] at hj
  have hlt := (List.getElem?_eq_some_iff.1 hj).1
  rw [List.length_take] at hlt
  rwa [List.getElem?_take_of_lt (by omega)] at hj
theorem drop_at {w : World} {B : Nat} {q : Option Addr} {l : List ByteArray} {cap : Nat} (h : SlAt w B q (strs l)) (hcap : l.length ≤ cap) (i : Nat) : SlAt w B (cutq q cap i 1) (strs (l.drop i)) := by
  rw [strs_drop]
  have := h.cut (cap := cap) (i := i) (sz := 1) (by rw [strs_length]; omega)
  rwa [Nat.mul_one] at this
/-- the slice q holds the slices of strings ll -/
structure StrRows (w : World) (B : Nat) (q : Option Addr) (ll : List (List ByteArray)) : Prop where
  get : ∀ i m, ll[i]? = some m → ∃ a q' cap', q = some a ∧ a.block < B ∧ w.cell? (a.add (i * 1)) = some (.slice q' m.length cap') ∧ m.length ≤ cap' ∧ m.length ≤ 9223372036854775807 ∧ SlAt w B q' (strs m)
theorem StrRows.keep {w w' : World} {B B' : Nat} {q : Option Addr} {ll : List (List ByteArray)} (h : StrRows w B q ll) (hb : ∀ p : Addr, p.block < B → w'.cell? p = w.cell? p) (hB : B ≤ B') : StrRows w' B' q ll := ⟨fun i m hm => by
  obtain ⟨a, q', cap', rfl, hab, hc, hcap, hlen, hs⟩ := h.get i m hm
  exact ⟨a, q', cap', rfl, by omega, (hb _ (by rw [add_block]; exact hab)).trans hc, hcap, hlen, hs.keep hb hB⟩⟩
/-! the order -/
def nm (l : List ByteArray) (i : Nat) : ByteArray := l.getD i ByteArray.empty
def ready (l : List ByteArray) (ll : List (List ByteArray)) (done : List ByteArray) (i : Nat) : Bool := !hasB done (nm l i) && !((ll.getD i []).any fun s => !hasB done s)
def step (l : List ByteArray) (ll : List (List ByteArray)) (done : List ByteArray) (b : Int) (i : Nat) : Int :=
  if (ready l ll done i && (decide (b < 0) || Op.bytesLess (nm l i).toList (nm l b.toNat).toList)) = true then i else b
def best (l : List ByteArray) (ll : List (List ByteArray)) (done : List ByteArray) (k : Nat) : Int := (List.range k).foldl (step l ll done) (-1)
theorem best_succ (l : List ByteArray) (ll : List (List ByteArray)) (done : List ByteArray) (k : Nat) : best l ll done (k + 1) = step l ll done (best l ll done k) k := by
  unfold best; rw [List.range_succ, List.foldl_append]; rfl
theorem best_in (l : List ByteArray) (ll : List (List ByteArray)) (done : List ByteArray) : ∀ k, -1 ≤ best l ll done k ∧ best l ll done k < k
  | 0 => by unfold best; simp
  | k + 1 => by
    have ih := best_in l ll done k
    rw [best_succ]
    unfold step
    split <;> omega
def ordFrom (l : List ByteArray) (ll : List (List ByteArray)) : Nat → List Nat → List ByteArray → Option (List Nat)
  | 0, out, _ => some out
  | f + 1, out, done => if best l ll done l.length < 0 then none else ordFrom l ll f (out ++ [(best l ll done l.length).toNat]) (done ++ [nm l (best l ll done l.length).toNat])
def ord (l : List ByteArray) (ll : List (List ByteArray)) : Option (List Nat) := ordFrom l ll l.length [] []
/-- what Order returns: the numbers and the error -/
def ordR (l : List ByteArray) (ll : List (List ByteArray)) : List Nat × Int :=
  if chk l ll ≠ 0 then ([], chk l ll) else match ord l ll with | none => ([], 8) | some out => (out, 0)
def ints (l : List Nat) : List Value := l.map fun (i : Nat) => Value.int .i64 (i : Int)
theorem chk_len {l : List ByteArray} {ll : List (List ByteArray)} (h : chk l ll = 0) : l.length ≤ 16 ∧ ll.length = l.length := by
  unfold chk at h
  by_cases h1 : 16 < l.length
  · rw [if_pos h1] at h; cases h
  · rw [if_neg h1] at h
    by_cases h2 : ll.length = l.length
    · exact ⟨by omega, h2⟩
    · rw [if_pos h2] at h; cases h
end Go.Mo

/- Plain: what the reference's Reaches keeps of its matrix. No program in sight. -/
namespace Go.Mo
open Go.Eng
def dir (l : List ByteArray) (ll : List (List ByteArray)) (i j : Nat) : Bool := hasB (ll.getD i []) (nm l j)
inductive Path (l : List ByteArray) (ll : List (List ByteArray)) : Nat → Nat → Prop where
  | one {i j : Nat} (hi : i < l.length) (hj : j < l.length) (h : dir l ll i j = true) : Path l ll i j
  | two {i j k : Nat} (h1 : Path l ll i k) (h2 : Path l ll k j) : Path l ll i j
structure GoodM (l : List ByteArray) (ll : List (List ByteArray)) (M : List (List Bool)) : Prop where
  len : M.length = l.length
  row : ∀ (i : Nat) (r : List Bool), M[i]? = some r → r.length = l.length
  snd : ∀ (i j : Nat) (r : List Bool), M[i]? = some r → r[j]? = some true → Path l ll i j
  inc : ∀ (i j : Nat) (r : List Bool), M[i]? = some r → j < l.length → dir l ll i j = true → r[j]? = some true
theorem GoodM.set {l : List ByteArray} {ll : List (List ByteArray)} {M : List (List Bool)} (h : GoodM l ll M) {i j k : Nat} {r rk : List Bool} (hi : M[i]? = some r) (hk : M[k]? = some rk) (h1 : r[k]? = some true) (h2 : rk[j]? = some true) :
    GoodM l ll (M.set i (r.set j true)) := by
  have hlt := (List.getElem?_eq_some_iff.1 hi).1
  have hjl : j < r.length := by
    have := (List.getElem?_eq_some_iff.1 h2).1
    rw [h.row k rk hk] at this
    rw [h.row i r hi]; exact this
  have key : ∀ (i' : Nat) (r' : List Bool), (M.set i (r.set j true))[i']? = some r' → (i' = i ∧ r' = r.set j true) ∨ (M[i']? = some r') := fun i' r' he => by
    by_cases e : i = i'
    · subst e
      rw [List.getElem?_set_self hlt] at he
      exact .inl ⟨rfl, (Option.some.inj he).symm⟩
    · rw [List.getElem?_set_ne e] at he
      exact .inr he
  refine ⟨by rw [List.length_set]; exact h.len, fun i' r' he => ?_, fun i' j' r' he hj => ?_, fun i' j' r' he hj hd => ?_⟩
  · rcases key i' r' he with ⟨rfl, rfl⟩ | he
    · rw [List.length_set]; exact h.row _ _ hi
    · exact h.row _ _ he
  · rcases key i' r' he with ⟨rfl, rfl⟩ | he
    · by_cases e : j = j'
      · subst e
        exact .two (h.snd _ _ _ hi h1) (h.snd _ _ _ hk h2)
      · rw [List.getElem?_set_ne e] at hj
        exact h.snd _ _ _ hi hj
    · exact h.snd _ _ _ he hj
  · rcases key i' r' he with ⟨rfl, rfl⟩ | he
    · by_cases e : j = j'
      · subst e
        exact List.getElem?_set_self hjl
      · rw [List.getElem?_set_ne e]
        exact h.inc _ _ _ hi hj hd
    · exact h.inc _ _ _ he hj hd
def initRow (l m : List ByteArray) : List Bool := l.map fun s => hasB m s
def initM (l : List ByteArray) (ll : List (List ByteArray)) (i : Nat) : List (List Bool) := (List.range i).map fun k => initRow l (ll.getD k [])
theorem GoodM.init (l : List ByteArray) (ll : List (List ByteArray)) : GoodM l ll (initM l ll l.length) := by
  have key : ∀ (i : Nat) (r : List Bool), (initM l ll l.length)[i]? = some r → i < l.length ∧ r = initRow l (ll.getD i []) := fun i r he => by
    have hlt : i < l.length := by
      have := (List.getElem?_eq_some_iff.1 he).1
      simpa [initM] using this
    refine ⟨hlt, ?_⟩
    unfold initM at he
    rw [List.getElem?_map, List.getElem?_range hlt] at he
    exact (Option.some.inj he).symm
  have cell : ∀ (i j : Nat), j < l.length → (initRow l (ll.getD i []))[j]? = some (dir l ll i j) := fun i j hj => by
    unfold initRow dir nm
    rw [show l.getD j ByteArray.empty = l[j] by rw [List.getD_eq_getElem?_getD, List.getElem?_eq_getElem hj]; rfl, List.getElem?_map, List.getElem?_eq_getElem hj]; rfl
  refine ⟨by simp [initM], fun i r he => ?_, fun i j r he hj => ?_, fun i j r he hj hd => ?_⟩
  · obtain ⟨hi, rfl⟩ := key i r he
    simp [initRow]
  · obtain ⟨hi, rfl⟩ := key i r he
    have hjl : j < l.length := by
      have := (List.getElem?_eq_some_iff.1 hj).1
      simpa [initRow] using this
    rw [cell i j hjl] at hj
    exact .one hi hjl (Option.some.inj hj)
  · obtain ⟨hi, rfl⟩ := key i r he
    rw [cell i j hj, hd]
/-! the reference's order -/
def mget (M : List (List Bool)) (i j : Nat) : Bool := (M.getD i []).getD j false
theorem mget_of {M : List (List Bool)} {i j : Nat} {r : List Bool} {b : Bool} (h : M[i]? = some r) (hb : r[j]? = some b) : mget M i j = b := by
  unfold mget
  rw [List.getD_eq_getElem?_getD (l := M), h, Option.getD_some, List.getD_eq_getElem?_getD, hb]; rfl
def bad (M : List (List Bool)) (out : List Nat) (i j : Nat) : Bool := mget M i j && (!decide (j ∈ out) || decide (i = j))
def okTo (M : List (List Bool)) (out : List Nat) (i j : Nat) : Bool := !decide (i ∈ out) && !((List.range j).any (bad M out i))
theorem okTo_zero (M : List (List Bool)) (out : List Nat) (i : Nat) : okTo M out i 0 = !decide (i ∈ out) := by simp [okTo]
theorem okTo_succ (M : List (List Bool)) (out : List Nat) (i j : Nat) : okTo M out i (j + 1) = (okTo M out i j && !bad M out i j) := by
  unfold okTo
  rw [List.range_succ, List.any_append, List.any_cons, List.any_nil, Bool.or_false, Bool.not_or, Bool.and_assoc]
def stepR (l : List ByteArray) (M : List (List Bool)) (out : List Nat) (b : Int) (i : Nat) : Int :=
  if (okTo M out i l.length && (decide (b < 0) || Op.bytesLess (nm l i).toList (nm l b.toNat).toList)) = true then i else b
def bestR (l : List ByteArray) (M : List (List Bool)) (out : List Nat) (k : Nat) : Int := (List.range k).foldl (stepR l M out) (-1)
theorem bestR_succ (l : List ByteArray) (M : List (List Bool)) (out : List Nat) (k : Nat) : bestR l M out (k + 1) = stepR l M out (bestR l M out k) k := by
  unfold bestR; rw [List.range_succ, List.foldl_append]; rfl
theorem bestR_in (l : List ByteArray) (M : List (List Bool)) (out : List Nat) : ∀ k, -1 ≤ bestR l M out k ∧ bestR l M out k < k
  | 0 => by unfold bestR; simp
  | k + 1 => by
    have ih := bestR_in l M out k
    rw [bestR_succ]
    unfold stepR
    split <;> omega
def mordFrom (l : List ByteArray) (M : List (List Bool)) : Nat → List Nat → Option (List Nat)
  | 0, out => some out
  | f + 1, out => if bestR l M out l.length < 0 then none else mordFrom l M f (out ++ [(bestR l M out l.length).toNat])
def usedL (n : Nat) (out : List Nat) : List Bool := (List.range n).map fun i => decide (i ∈ out)
theorem usedL_get {n i : Nat} (out : List Nat) (h : i < n) : (usedL n out)[i]? = some (decide (i ∈ out)) := by
  unfold usedL; rw [List.getElem?_map, List.getElem?_range h]; rfl
theorem usedL_set {n b : Nat} (out : List Nat) (h : b < n) : (usedL n out).set b true = usedL n (out ++ [b]) := by
  apply List.ext_getElem?
  intro i
  by_cases hi : i < n
  · rw [usedL_get _ hi]
    by_cases e : b = i
    · subst e
      rw [List.getElem?_set_self (by simpa [usedL] using hi)]
      simp
    · rw [List.getElem?_set_ne e, usedL_get _ hi]
      have : ¬ i = b := fun h => e h.symm
      simp [this]
  · rw [List.getElem?_eq_none (by simp [usedL]; omega), List.getElem?_eq_none (by simp [usedL]; omega)]
end Go.Mo

/- Plain: Order and the reference's ModuleOrder choose alike. No program in sight. -/
namespace Go.Mo
open Go.Eng
/-- of an accepted list: no name twice, every import is a name -/
theorem chk_nodup {l : List ByteArray} {ll : List (List ByteArray)} (h : chk l ll = 0) : (∀ i j, i < l.length → j < l.length → nm l i = nm l j → i = j) ∧ (∀ i s, s ∈ ll.getD i [] → ∃ j, j < l.length ∧ nm l j = s) := by
  obtain ⟨h1, h2⟩ := chk_len h
  unfold chk at h
  rw [if_neg (by omega), if_neg (by omega)] at h
  have hd : dupA l = false := by
    cases hx : dupA l
    · rfl
    · simp [hx] at h
  have hm : miss l ll = false := by
    rw [hd] at h
    cases hx : miss l ll
    · rfl
    · simp [hx] at h
  have hnm : ∀ i, i < l.length → l[i]? = some (nm l i) := fun i hi => by
    have h3 : l[i]? = some l[i] := List.getElem?_eq_getElem hi
    rw [h3, show nm l i = l[i] from getD_of h3]
  have hlt : ∀ i j, i < j → j < l.length → nm l i ≠ nm l j := fun i j hij hj he => by
    have : dupA l = true := dupA_yes (i := j) (s := nm l j) (hnm j hj) (hasB_iff.2 (by
      rw [← he]
      refine List.mem_of_getElem? (i := i) ?_
      rw [List.getElem?_take_of_lt hij]
      exact hnm i (by omega)))
    rw [hd] at this
    cases this
  refine ⟨fun i j hi hj he => ?_, fun i s hs => ?_⟩
  · rcases Nat.lt_trichotomy i j with h3 | h3 | h3
    · exact absurd he (hlt i j h3 hj)
    · exact h3
    · exact absurd he.symm (hlt j i h3 hi)
  · rw [List.getD_eq_getElem?_getD] at hs
    cases hi : ll[i]? with
    | none => rw [hi] at hs; cases hs
    | some m =>
      rw [hi, Option.getD_some] at hs
      obtain ⟨j, hj⟩ := List.mem_iff_getElem?.1 hs
      cases hb : hasB l s with
      | false =>
        have := miss_yes hi hj hb
        rw [hm] at this
        cases this
      | true =>
        obtain ⟨k, hk⟩ := List.mem_iff_getElem?.1 (hasB_iff.1 hb)
        exact ⟨k, (List.getElem?_eq_some_iff.1 hk).1, getD_of hk⟩
/-- what is done is closed under imports -/
structure Closed (l : List ByteArray) (ll : List (List ByteArray)) (out : List Nat) : Prop where
  lt : ∀ i ∈ out, i < l.length
  cl : ∀ i ∈ out, ∀ j, j < l.length → dir l ll i j = true → j ∈ out
theorem Closed.path {l : List ByteArray} {ll : List (List ByteArray)} {out : List Nat} (h : Closed l ll out) {i j : Nat} (hp : Path l ll i j) : (∀ k, k < l.length → dir l ll i k = true → k ∈ out) → j ∈ out := by
  induction hp with
  | one hi hj hd => exact fun hk => hk _ hj hd
  | two h1 h2 ih1 ih2 => exact fun hk => ih2 (fun k' hk' hd => h.cl _ (ih1 hk) k' hk' hd)
section
variable {l : List ByteArray} {ll : List (List ByteArray)} {M : List (List Bool)} {out : List Nat}
theorem done_iff (h : chk l ll = 0) (hc : Closed l ll out) {i : Nat} (hi : i < l.length) : hasB (out.map (nm l)) (nm l i) = decide (i ∈ out) := by
  rw [Bool.eq_iff_iff, hasB_iff, decide_eq_true_eq, List.mem_map]
  constructor
  · rintro ⟨k, hk, he⟩
    rw [← (chk_nodup h).1 k i (hc.lt k hk) hi he]
    exact hk
  · exact fun hm => ⟨i, hm, rfl⟩
theorem ready_iff (h : chk l ll = 0) (hc : Closed l ll out) {i : Nat} (hi : i < l.length) : ready l ll (out.map (nm l)) i = true ↔ i ∉ out ∧ ∀ k, k < l.length → dir l ll i k = true → k ∈ out := by
  unfold ready
  rw [done_iff h hc hi, Bool.and_eq_true, Bool.not_eq_true', Bool.not_eq_true', decide_eq_false_iff_not, List.any_eq_false]
  refine and_congr_right fun _ => ⟨fun hs k hk hd => ?_, fun hk s hs => ?_⟩
  · have := hs (nm l k) (hasB_iff.1 hd)
    rw [done_iff h hc hk] at this
    simpa using this
  · obtain ⟨j, hj, rfl⟩ := (chk_nodup h).2 i s hs
    rw [done_iff h hc hj]
    have := hk j hj (hasB_iff.2 hs)
    simp [this]
theorem okTo_iff (hM : GoodM l ll M) {i : Nat} (hi : i < l.length) : okTo M out i l.length = true ↔ i ∉ out ∧ ∀ j, j < l.length → mget M i j = true → j ∈ out ∧ i ≠ j := by
  unfold okTo
  rw [Bool.and_eq_true, Bool.not_eq_true', Bool.not_eq_true', decide_eq_false_iff_not, List.any_eq_false]
  refine and_congr_right fun _ => ⟨fun hs j hj hm => ?_, fun hs j hj => ?_⟩
  · have := hs j (List.mem_range.2 hj)
    simp only [bad, hm, Bool.true_and, Bool.or_eq_true, Bool.not_eq_true', decide_eq_false_iff_not, decide_eq_true_eq, not_or, Classical.not_not] at this
    exact this
  · intro hb
    rw [bad, Bool.and_eq_true] at hb
    obtain ⟨h1, h2⟩ := hs j (List.mem_range.1 hj) hb.1
    simp [h1, h2] at hb
theorem mget_iff (hM : GoodM l ll M) {i j : Nat} (hi : i < l.length) (hj : j < l.length) : (mget M i j = true → Path l ll i j) ∧ (dir l ll i j = true → mget M i j = true) := by
  obtain ⟨r, hr⟩ : ∃ r, M[i]? = some r := ⟨_, List.getElem?_eq_getElem (by rw [hM.len]; exact hi)⟩
  have hrl := hM.row _ _ hr
  have hb : r[j]? = some (r[j]'(by omega)) := List.getElem?_eq_getElem (by omega)
  rw [mget_of hr hb]
  exact ⟨fun h => hM.snd i j r hr (by rw [hb, h]), fun h => by
    have := hM.inc i j r hr hj h
    rw [hb] at this
    exact Option.some.inj this⟩
theorem ready_ok (h : chk l ll = 0) (hM : GoodM l ll M) (hc : Closed l ll out) {i : Nat} (hi : i < l.length) : ready l ll (out.map (nm l)) i = okTo M out i l.length := by
  rw [Bool.eq_iff_iff, ready_iff h hc hi, okTo_iff hM hi]
  refine and_congr_right fun hno => ⟨fun hd j hj hm => ?_, fun hs k hk hd => (hs k hk ((mget_iff hM hi hk).2 hd)).1⟩
  have hjo := hc.path ((mget_iff hM hi hj).1 hm) hd
  exact ⟨hjo, fun e => hno (e ▸ hjo)⟩
theorem step_eq (h : chk l ll = 0) (hM : GoodM l ll M) (hc : Closed l ll out) {i : Nat} (hi : i < l.length) (b : Int) : step l ll (out.map (nm l)) b i = stepR l M out b i := by
  unfold step stepR; rw [ready_ok h hM hc hi]
theorem best_eq (h : chk l ll = 0) (hM : GoodM l ll M) (hc : Closed l ll out) : ∀ k, k ≤ l.length → best l ll (out.map (nm l)) k = bestR l M out k
  | 0, _ => rfl
  | k + 1, hk => by rw [best_succ, bestR_succ, best_eq h hM hc k (by omega), step_eq h hM hc (by omega)]
theorem best_ready (done : List ByteArray) : ∀ k, 0 ≤ best l ll done k → ready l ll done (best l ll done k).toNat = true
  | 0, h => by simp [best] at h
  | k + 1, h => by
    rw [best_succ] at h ⊢
    unfold step at h ⊢
    split
    · rename_i hc
      rw [Bool.and_eq_true] at hc
      simpa using hc.1
    · rename_i hc
      rw [if_neg hc] at h
      exact best_ready done k h
theorem Closed.push (h : chk l ll = 0) (hc : Closed l ll out) {b : Nat} (hb : b < l.length) (hr : ready l ll (out.map (nm l)) b = true) : Closed l ll (out ++ [b]) := by
  have hr' := ((ready_iff h hc hb).1 hr).2
  refine ⟨fun i hi => ?_, fun i hi j hj hd => ?_⟩
  · rcases List.mem_append.1 hi with hi | hi
    · exact hc.lt i hi
    · rw [List.mem_singleton.1 hi]; exact hb
  · refine List.mem_append.2 (.inl ?_)
    rcases List.mem_append.1 hi with hi | hi
    · exact hc.cl i hi j hj hd
    · rw [List.mem_singleton.1 hi] at hd
      exact hr' j hj hd
theorem ord_mord (h : chk l ll = 0) (hM : GoodM l ll M) : ∀ (f : Nat) (out : List Nat), Closed l ll out → ordFrom l ll f out (out.map (nm l)) = mordFrom l M f out
  | 0, out, _ => rfl
  | f + 1, out, hc => by
    rw [ordFrom, mordFrom, best_eq h hM hc _ (Nat.le_refl _)]
    by_cases hn : bestR l M out l.length < 0
    · rw [if_pos hn, if_pos hn]
    · rw [if_neg hn, if_neg hn]
      have hin := bestR_in l M out l.length
      have hr : ready l ll (out.map (nm l)) (bestR l M out l.length).toNat = true := by
        rw [← best_eq h hM hc _ (Nat.le_refl _)]
        exact best_ready _ _ (by rw [best_eq h hM hc _ (Nat.le_refl _)]; omega)
      have := ord_mord h hM f (out ++ [(bestR l M out l.length).toNat]) (hc.push h (by omega) hr)
      rw [List.map_append, List.map_cons, List.map_nil] at this
      exact this
theorem ord_eq (h : chk l ll = 0) (hM : GoodM l ll M) : ord l ll = mordFrom l M l.length [] :=
  ord_mord h hM l.length [] ⟨fun i hi => (by cases hi), fun i hi => (by cases hi)⟩
theorem mord_len : ∀ (f : Nat) (out r : List Nat), mordFrom l M f out = some r → r.length = out.length + f
  | 0, out, r, h => by rw [mordFrom] at h; rw [← Option.some.inj h]; rfl
  | f + 1, out, r, h => by
    rw [mordFrom] at h
    split at h
    · cases h
    · have := mord_len f _ r h
      simp at this
      omega
end
end Go.Mo

/- Plain: what reaches the changed modules; the reference's matrix tells all paths; sorted lists without doubles. No program in sight. -/
namespace Go.Mo
open Go.Eng
/-! all paths -/
/-- a path over nodes under K -/
def PB (l : List ByteArray) (ll : List (List ByteArray)) : Nat → Nat → Nat → Prop
  | 0, i, j => dir l ll i j = true
  | k + 1, i, j => PB l ll k i j ∨ (PB l ll k i k ∧ PB l ll k k j)
section
variable {l : List ByteArray} {ll : List (List ByteArray)}
theorem PB.up {i j : Nat} : ∀ {K K' : Nat}, K ≤ K' → PB l ll K i j → PB l ll K' i j
  | K, 0, h, hp => by
    obtain rfl : K = 0 := by omega
    exact hp
  | K, K' + 1, h, hp => by
    rcases Nat.lt_or_ge K (K' + 1) with h1 | h1
    · exact .inl (PB.up (by omega) hp)
    · obtain rfl : K = K' + 1 := by omega
      exact hp
theorem PB.via {i j m : Nat} : ∀ {K : Nat}, m < K → PB l ll K i m → PB l ll K m j → PB l ll K i j
  | 0, h, _, _ => by omega
  | K + 1, h, h1, h2 => by
    rcases Nat.lt_or_ge m K with hm | hm
    · rcases h1 with h1 | ⟨h1, h1'⟩
      · rcases h2 with h2 | ⟨h2, h2'⟩
        · exact .inl (PB.via hm h1 h2)
        · exact .inr ⟨PB.via hm h1 h2, h2'⟩
      · rcases h2 with h2 | ⟨h2, h2'⟩
        · exact .inr ⟨h1, PB.via hm h1' h2⟩
        · exact .inr ⟨h1, h2'⟩
    · obtain rfl : m = K := by omega
      have g1 : PB l ll m i m := by rcases h1 with h1 | h1; exact h1; exact h1.1
      have g2 : PB l ll m m j := by rcases h2 with h2 | h2; exact h2; exact h2.2
      exact .inr ⟨g1, g2⟩
theorem Path.lt {i j : Nat} (h : Path l ll i j) : i < l.length ∧ j < l.length := by
  induction h with
  | one hi hj _ => exact ⟨hi, hj⟩
  | two _ _ ih1 ih2 => exact ⟨ih1.1, ih2.2⟩
theorem Path.pb {i j : Nat} (h : Path l ll i j) : PB l ll l.length i j := by
  induction h with
  | one hi hj hd => exact PB.up (Nat.zero_le _) hd
  | two h1 h2 ih1 ih2 => exact PB.via h1.lt.2 ih1 ih2
/-- where the reference's loops stand -/
def St (l : List ByteArray) (ll : List (List ByteArray)) (k i j : Nat) (M : List (List Bool)) : Prop :=
  GoodM l ll M ∧ ∃ M0, (∀ a b, a < l.length → b < l.length → PB l ll k a b → mget M0 a b = true) ∧ (∀ a b, mget M0 a b = true → mget M a b = true) ∧
    (∀ a b, a < l.length → b < l.length → (a < i ∨ (a = i ∧ b < j)) → mget M0 a k = true → mget M0 k b = true → mget M a b = true)
theorem St.init : St l ll 0 0 0 (initM l ll l.length) :=
  ⟨GoodM.init l ll, _, fun a b ha hb h => (mget_iff (GoodM.init l ll) ha hb).2 h, fun _ _ h => h, fun a b _ _ h => by omega⟩
theorem mget_set {M : List (List Bool)} {i j a b : Nat} {r : List Bool} (hr : M[i]? = some r) (hj : j < r.length) : mget (M.set i (r.set j true)) a b = if a = i ∧ b = j then true else mget M a b := by
  have hi := (List.getElem?_eq_some_iff.1 hr).1
  unfold mget
  by_cases ha : a = i
  · subst ha
    rw [List.getD_eq_getElem?_getD (l := M.set a _), List.getElem?_set_self hi, Option.getD_some, List.getD_eq_getElem?_getD (l := M), hr, Option.getD_some]
    by_cases hb : b = j
    · subst hb
      rw [if_pos ⟨rfl, rfl⟩, List.getD_eq_getElem?_getD, List.getElem?_set_self hj]; rfl
    · rw [if_neg (fun h => hb h.2), List.getD_eq_getElem?_getD, List.getElem?_set_ne (fun e => hb e.symm), List.getD_eq_getElem?_getD]
  · rw [if_neg (fun h => ha h.1), List.getD_eq_getElem?_getD (l := M.set i _), List.getElem?_set_ne (fun e => ha e.symm), List.getD_eq_getElem?_getD (l := M)]
theorem St.set {k i j : Nat} {M : List (List Bool)} (h : St l ll k i j M) {r rk : List Bool} (hi : M[i]? = some r) (hk : M[k]? = some rk) (h1 : r[k]? = some true) (h2 : rk[j]? = some true) (hj : j < r.length) : St l ll k i (j + 1) (M.set i (r.set j true)) := by
  obtain ⟨hM, M0, h3, h4, h5⟩ := h
  refine ⟨hM.set hi hk h1 h2, M0, h3, fun a b hab => ?_, fun a b ha hb hab hak hkb => ?_⟩
  · rw [mget_set hi hj]
    split
    · rfl
    · exact h4 a b hab
  · rw [mget_set hi hj]
    split
    · rfl
    · rename_i hne
      refine h5 a b ha hb ?_ hak hkb
      rcases hab with hab | ⟨rfl, hb2⟩
      · exact .inl hab
      · refine .inr ⟨rfl, ?_⟩
        have : b ≠ j := fun e => hne ⟨rfl, e⟩
        omega
theorem St.skip {k i j : Nat} {M : List (List Bool)} (h : St l ll k i j M) {r rk : List Bool} {c1 c2 : Bool} (hi : M[i]? = some r) (hk : M[k]? = some rk) (h1 : r[k]? = some c1) (h2 : rk[j]? = some c2) (hc : (c1 && c2) = false) : St l ll k i (j + 1) M := by
  obtain ⟨hM, M0, h3, h4, h5⟩ := h
  refine ⟨hM, M0, h3, h4, fun a b ha hb hab hak hkb => ?_⟩
  by_cases hne : a = i ∧ b = j
  · obtain ⟨rfl, rfl⟩ := hne
    have g1 := h4 _ _ hak
    have g2 := h4 _ _ hkb
    rw [mget_of hi h1] at g1
    rw [mget_of hk h2] at g2
    rw [g1, g2] at hc
    cases hc
  · refine h5 a b ha hb ?_ hak hkb
    rcases hab with hab | ⟨rfl, hb2⟩
    · exact .inl hab
    · refine .inr ⟨rfl, ?_⟩
      have : b ≠ j := fun e => hne ⟨rfl, e⟩
      omega
theorem St.row {k i : Nat} {M : List (List Bool)} (h : St l ll k i l.length M) : St l ll k (i + 1) 0 M := by
  obtain ⟨hM, M0, h3, h4, h5⟩ := h
  exact ⟨hM, M0, h3, h4, fun a b ha hb hab => h5 a b ha hb (by omega)⟩
theorem St.next {k : Nat} {M : List (List Bool)} (hk : k < l.length) (h : St l ll k l.length 0 M) : St l ll (k + 1) 0 0 M := by
  obtain ⟨hM, M0, h3, h4, h5⟩ := h
  refine ⟨hM, M, fun a b ha hb hp => ?_, fun _ _ h => h, fun a b _ _ h => by omega⟩
  rcases hp with hp | ⟨hp, hq⟩
  · exact h4 _ _ (h3 a b ha hb hp)
  · exact h5 a b ha hb (.inl ha) (h3 a k ha hk hp) (h3 k b hk hb hq)
theorem St.all {M : List (List Bool)} (h : St l ll l.length 0 0 M) : ∀ i j, i < l.length → j < l.length → (mget M i j = true ↔ Path l ll i j) := fun i j hi hj => by
  obtain ⟨hM, M0, h3, h4, h5⟩ := h
  exact ⟨(mget_iff hM hi hj).1, fun hp => h4 _ _ (h3 i j hi hj hp.pb)⟩
/-! what reaches the changed ones -/
variable {ch : List ByteArray}
def Rch (l : List ByteArray) (ll : List (List ByteArray)) (ch : List ByteArray) (i : Nat) : Prop := nm l i ∈ ch ∨ ∃ j, j < l.length ∧ Path l ll i j ∧ nm l j ∈ ch
def addI (l : List ByteArray) (ll : List (List ByteArray)) (xs : List ByteArray) (i : Nat) : Bool := !hasB xs (nm l i) && (ll.getD i []).any (hasB xs)
/-- how many names are still without -/
def cnt (l : List ByteArray) (xs : List ByteArray) : Nat := (l.filter fun s => !hasB xs s).length
structure GoodX (l : List ByteArray) (ll : List (List ByteArray)) (ch xs : List ByteArray) : Prop where
  inn : ∀ s ∈ xs, ∃ i, i < l.length ∧ nm l i = s ∧ Rch l ll ch i
  sub : ∀ s ∈ ch, s ∈ xs
  len : xs.length + cnt l xs ≤ ch.length + l.length
theorem cnt_push {xs : List ByteArray} {s : ByteArray} (hs : s ∈ l) (hn : hasB xs s = false) : cnt l (xs ++ [s]) < cnt l xs := by
  unfold cnt
  have key : ∀ m : List ByteArray, (m.filter fun u => !hasB (xs ++ [s]) u).length ≤ (m.filter fun u => !hasB xs u).length ∧ (s ∈ m → (m.filter fun u => !hasB (xs ++ [s]) u).length < (m.filter fun u => !hasB xs u).length) := by
    intro m
    induction m with
    | nil => exact ⟨Nat.le_refl _, fun h => by cases h⟩
    | cons u m ih =>
      have hu : hasB (xs ++ [s]) u = (hasB xs u || decide (u = s)) := by simp [hasB]
      rw [List.filter_cons, List.filter_cons, hu]
      by_cases e : u = s
      · subst e
        rw [hn]
        simp only [decide_true, Bool.or_true, Bool.not_true, Bool.false_eq_true, if_false, Bool.not_false, if_true, List.length_cons]
        exact ⟨by omega, fun _ => by omega⟩
      · rw [decide_eq_false e, Bool.or_false]
        cases hx : hasB xs u with
        | true =>
          simp only [Bool.not_true, Bool.false_eq_true, if_false]
          exact ⟨ih.1, fun h => ih.2 (by rcases List.mem_cons.1 h with h | h; exact absurd h.symm e; exact h)⟩
        | false =>
          simp only [Bool.not_false, if_true, List.length_cons]
          exact ⟨by omega, fun h => by have := ih.2 (by rcases List.mem_cons.1 h with h | h; exact absurd h.symm e; exact h); omega⟩
  exact (key l).2 hs
theorem nm_mem {i : Nat} (hi : i < l.length) : nm l i ∈ l := by
  unfold nm
  rw [List.getD_eq_getElem?_getD, List.getElem?_eq_getElem hi]
  exact List.getElem_mem hi
theorem GoodX.push (hc : chk l ll = 0) {xs : List ByteArray} (h : GoodX l ll ch xs) {i : Nat} (hi : i < l.length) (ha : addI l ll xs i = true) : GoodX l ll ch (xs ++ [nm l i]) := by
  unfold addI at ha
  simp only [Bool.and_eq_true, Bool.not_eq_true'] at ha
  refine ⟨fun s hs => ?_, fun s hs => List.mem_append_left _ (h.sub s hs), ?_⟩
  · rcases List.mem_append.1 hs with hs | hs
    · exact h.inn s hs
    · rw [List.mem_singleton.1 hs]
      refine ⟨i, hi, rfl, ?_⟩
      obtain ⟨m, hm, hx⟩ := List.any_eq_true.1 ha.2
      obtain ⟨j, hj, ej, hr⟩ := h.inn m (hasB_iff.1 hx)
      have hd : dir l ll i j = true := by unfold dir; rw [ej]; exact hasB_iff.2 hm
      rcases hr with hr | ⟨k, hk, hp, hr⟩
      · exact .inr ⟨j, hj, .one hi hj hd, hr⟩
      · exact .inr ⟨k, hk, .two (.one hi hj hd) hp, hr⟩
  · have := cnt_push (nm_mem hi) ha.1
    have := h.len
    rw [List.length_append, List.length_cons, List.length_nil]
    omega
/-- at the end: the names with what reaches the changed ones -/
theorem GoodX.all (hc : chk l ll = 0) {xs : List ByteArray} (h : GoodX l ll ch xs) (hd : ∀ i, i < l.length → addI l ll xs i = false) {i : Nat} (hi : i < l.length) : nm l i ∈ xs ↔ Rch l ll ch i := by
  constructor
  · intro hm
    obtain ⟨j, hj, e, hr⟩ := h.inn _ hm
    rw [(chk_nodup hc).1 j i hj hi e] at hr
    exact hr
  · have step : ∀ {a b : Nat}, Path l ll a b → nm l b ∈ xs → nm l a ∈ xs := by
      intro a b hp
      induction hp with
      | one ha hb hdir =>
        intro hx
        have := hd _ ha
        unfold addI at this
        rw [Bool.and_eq_false_iff] at this
        rcases this with this | this
        · exact hasB_iff.1 (by simpa using this)
        · exact absurd this (by rw [Bool.not_eq_false]; exact List.any_eq_true.2 ⟨_, hasB_iff.1 hdir, hasB_iff.2 hx⟩)
      | two _ _ ih1 ih2 => exact fun hx => ih1 (ih2 hx)
    rintro (hr | ⟨j, hj, hp, hr⟩)
    · exact h.sub _ hr
    · exact step hp (h.sub _ hr)
/-- what the reference tests -/
def isR (l : List ByteArray) (M : List (List Bool)) (ch : List ByteArray) (i : Nat) (k : Nat) : Bool := hasB ch (nm l i) || (List.range k).any fun j => mget M i j && hasB ch (nm l j)
theorem isR_zero (l : List ByteArray) (M : List (List Bool)) (ch : List ByteArray) (i : Nat) : isR l M ch i 0 = hasB ch (nm l i) := by simp [isR]
theorem isR_succ (l : List ByteArray) (M : List (List Bool)) (ch : List ByteArray) (i k : Nat) : isR l M ch i (k + 1) = (isR l M ch i k || (mget M i k && hasB ch (nm l k))) := by
  unfold isR; rw [List.range_succ, List.any_append, List.any_cons, List.any_nil, Bool.or_false, Bool.or_assoc]
def outR (l : List ByteArray) (M : List (List Bool)) (ch : List ByteArray) (k : Nat) : List ByteArray := ((List.range k).filter fun i => isR l M ch i l.length).map (nm l)
theorem outR_succ (l : List ByteArray) (M : List (List Bool)) (ch : List ByteArray) (k : Nat) : outR l M ch (k + 1) = outR l M ch k ++ if isR l M ch k l.length then [nm l k] else [] := by
  unfold outR
  rw [List.range_succ, List.filter_append, List.map_append]
  congr 1
  rw [List.filter_cons]
  split <;> rfl
theorem isR_iff {M : List (List Bool)} (hM : ∀ i j, i < l.length → j < l.length → (mget M i j = true ↔ Path l ll i j)) {i : Nat} (hi : i < l.length) : isR l M ch i l.length = true ↔ Rch l ll ch i := by
  unfold isR Rch
  rw [Bool.or_eq_true, hasB_iff, List.any_eq_true]
  refine or_congr_right ⟨fun ⟨j, hj, h⟩ => ?_, fun ⟨j, hj, hp, h⟩ => ⟨j, List.mem_range.2 hj, ?_⟩⟩
  · rw [Bool.and_eq_true, hasB_iff] at h
    have hj' := List.mem_range.1 hj
    exact ⟨j, hj', (hM i j hi hj').1 h.1, h.2⟩
  · rw [Bool.and_eq_true, hasB_iff]
    exact ⟨(hM i j hi hj).2 hp, h⟩
end
/-! sorted lists -/
theorem strict_eq {α : Type} {le : α → α → Prop} (anti : ∀ a b, le a b → le b a → a = b) : ∀ {a b : List α}, a.Pairwise le → b.Pairwise le → a.Nodup → b.Nodup → (∀ x, x ∈ a ↔ x ∈ b) → a = b
  | [], [], _, _, _, _, _ => rfl
  | [], y :: b, _, _, _, _, h => by have := (h y).2 (.head _); cases this
  | x :: a, [], _, _, _, _, h => by have := (h x).1 (.head _); cases this
  | x :: a, y :: b, ha, hb, na, nb, h => by
    have hx : x = y := by
      rcases List.mem_cons.1 ((h x).1 (.head _)) with e | e
      · exact e
      · rcases List.mem_cons.1 ((h y).2 (.head _)) with e2 | e2
        · exact e2.symm
        · exact anti x y ((List.pairwise_cons.1 ha).1 y e2) ((List.pairwise_cons.1 hb).1 x e)
    subst hx
    congr 1
    refine strict_eq anti (List.pairwise_cons.1 ha).2 (List.pairwise_cons.1 hb).2 (List.nodup_cons.1 na).2 (List.nodup_cons.1 nb).2 fun z => ?_
    have := h z
    rw [List.mem_cons, List.mem_cons] at this
    constructor
    · intro hz
      rcases this.1 (.inr hz) with e | e
      · subst e; exact absurd hz (List.nodup_cons.1 na).1
      · exact e
    · intro hz
      rcases this.2 (.inr hz) with e | e
      · subst e; exact absurd hz (List.nodup_cons.1 nb).1
      · exact e
abbrev leB (x y : List UInt8) : Bool := decide (x ≤ y)
def srt (xs : List (List UInt8)) : List (List UInt8) := xs.mergeSort leB
theorem srt_sorted (xs : List (List UInt8)) : (srt xs).Pairwise (fun x y => x ≤ y) := by
  have h := List.pairwise_mergeSort (le := leB) (fun a b c h1 h2 => by simp [leB] at *; exact List.le_trans h1 h2) (fun a b => by simp [leB]; exact List.le_total a b) xs
  exact h.imp fun h => of_decide_eq_true h
theorem srt_mem (xs : List (List UInt8)) (x : List UInt8) : x ∈ srt xs ↔ x ∈ xs := List.mem_mergeSort
theorem srt_len (xs : List (List UInt8)) : (srt xs).length = xs.length := List.length_mergeSort _
theorem cu_spec {d : List (List UInt8)} (hs : d.Pairwise (fun x y => x ≤ y)) : ∀ m, m ≤ d.length →
    (∀ x ∈ Lib.compactUpTo d.toArray m, ∃ j, j < m ∧ d[j]? = some x) ∧ (∀ j x, j < m → d[j]? = some x → x ∈ Lib.compactUpTo d.toArray m) ∧ (Lib.compactUpTo d.toArray m).Nodup ∧ (Lib.compactUpTo d.toArray m).Pairwise (fun x y => x ≤ y)
  | 0, _ => by simp [Lib.compactUpTo]
  | m + 1, hm => by
    obtain ⟨h1, h2, h3, h4⟩ := cu_spec hs m (by omega)
    have hg : ∀ j, j < d.length → d.toArray[j]! = d.getD j [] ∧ d[j]? = some (d.getD j []) := fun j hj => by
      rw [List.getD_eq_getElem?_getD, List.getElem?_eq_getElem hj]
      exact ⟨by rw [getElem!_pos d.toArray j (by simpa using hj)]; simp, rfl⟩
    have hle : ∀ i j x y, i < j → d[i]? = some x → d[j]? = some y → x ≤ y := fun i j x y hij hi hj => by
      obtain ⟨hil, rfl⟩ := List.getElem?_eq_some_iff.1 hi
      obtain ⟨hjl, rfl⟩ := List.getElem?_eq_some_iff.1 hj
      exact List.pairwise_iff_getElem.1 hs i j hil hjl hij
    obtain ⟨e1, e2⟩ := hg m (by omega)
    rw [Lib.compactUpTo_succ, e1]
    cases hk : Lib.keeps d.toArray m with
    | true =>
      rw [if_pos rfl]
      have hnot : d.getD m [] ∉ Lib.compactUpTo d.toArray m := by
        intro hin
        obtain ⟨j, hj, ej⟩ := h1 _ hin
        obtain ⟨f1, f2⟩ := hg (m - 1) (by omega)
        have hne : d.getD m [] ≠ d.getD (m - 1) [] := by
          intro e
          have := Lib.keeps_neg (d := d.toArray) (m := m) (by omega) (by rw [e1, f1, e])
          rw [this] at hk; cases hk
        have hlast := hle (m - 1) m _ _ (by omega) f2 e2
        rcases Nat.lt_or_ge j (m - 1) with h | h
        · exact hne (List.le_antisymm (hle j (m - 1) _ _ h ej f2) hlast)
        · obtain rfl : j = m - 1 := by omega
          rw [f2] at ej
          exact hne (Option.some.inj ej).symm
      refine ⟨fun x hx => ?_, fun j x hj hx => ?_, ?_, ?_⟩
      · rcases List.mem_append.1 hx with hx | hx
        · obtain ⟨j, hj, e⟩ := h1 x hx
          exact ⟨j, by omega, e⟩
        · rw [List.mem_singleton.1 hx]
          exact ⟨m, by omega, e2⟩
      · rcases Nat.lt_or_ge j m with h | h
        · exact List.mem_append_left _ (h2 j x h hx)
        · obtain rfl : j = m := by omega
          rw [e2] at hx
          rw [← Option.some.inj hx]
          exact List.mem_append_right _ (.head _)
      · rw [List.nodup_append]
        refine ⟨h3, by simp, fun a ha b hb e => ?_⟩
        rw [List.mem_singleton.1 hb] at e
        exact hnot (e ▸ ha)
      · rw [List.pairwise_append]
        refine ⟨h4, List.pairwise_singleton _ _, fun a ha b hb => ?_⟩
        rw [List.mem_singleton.1 hb]
        obtain ⟨j, hj, e⟩ := h1 a ha
        exact hle j m _ _ hj e e2
    | false =>
      rw [if_neg (by simp), List.append_nil]
      refine ⟨fun x hx => ?_, fun j x hj hx => ?_, h3, h4⟩
      · obtain ⟨j, hj, e⟩ := h1 x hx
        exact ⟨j, by omega, e⟩
      · rcases Nat.lt_or_ge j m with h | h
        · exact h2 j x h hx
        · obtain rfl : j = m := by omega
          have hpos : 0 < j := by
            rcases Nat.eq_zero_or_pos j with e | e
            · subst e
              rw [Lib.keeps_lt_one _ 0 (by omega)] at hk; cases hk
            · exact e
          obtain ⟨f1, f2⟩ := hg (j - 1) (by omega)
          have heq : d.getD j [] = d.getD (j - 1) [] := by
            refine Classical.byContradiction fun hne => ?_
            have := Lib.keeps_pos (d := d.toArray) (m := j) (by rw [e1, f1]; exact hne)
            rw [this] at hk; cases hk
          rw [e2] at hx
          rw [← Option.some.inj hx, heq]
          exact h2 (j - 1) _ (by omega) f2
theorem compact_spec {d : List (List UInt8)} (hs : d.Pairwise (fun x y => x ≤ y)) : (∀ x, x ∈ Lib.compact d ↔ x ∈ d) ∧ (Lib.compact d).Nodup ∧ (Lib.compact d).Pairwise (fun x y => x ≤ y) := by
  obtain ⟨h1, h2, h3, h4⟩ := cu_spec hs d.length (Nat.le_refl _)
  refine ⟨fun x => ⟨fun hx => ?_, fun hx => ?_⟩, h3, h4⟩
  · obtain ⟨j, _, e⟩ := h1 x hx
    exact List.mem_of_getElem? e
  · obtain ⟨j, hj⟩ := List.mem_iff_getElem?.1 hx
    exact h2 j x (List.getElem?_eq_some_iff.1 hj).1 hj
/-- sorted and without doubles, whichever way -/
theorem compact_srt {a b : List (List UInt8)} (hb : b.Nodup) (h : ∀ x, x ∈ a ↔ x ∈ b) : Lib.compact (srt a) = srt b := by
  obtain ⟨h1, h2, h3⟩ := compact_spec (srt_sorted a)
  refine strict_eq (le := fun x y => x ≤ y) (fun _ _ => List.le_antisymm) h3 (srt_sorted b) h2 ?_ fun x => by rw [h1, srt_mem, srt_mem, h]
  exact (List.mergeSort_perm b leB).nodup_iff.2 hb
end Go.Mo

/- A region that draws its order, whose pure operations come first, whatever its other ones wait for, and whose other ones then follow one behind another. General. No condition. -/
namespace Go.Eng
open Go.RowKit
/-- an operation that makes nothing and writes nothing -/
def pureB (o : Oper) : Bool := match o.op with
  | .move _ => true
  | .assign _ => true
  | .pick .. => true
  | .build .. => true
  | .load .. => true
  | .nilCheck _ => true
  | .binOp .. => true
  | .unOp .. => true
  | .convert .. => true
  | .makeFunc .. => true
  | .slice .. => true
  | .fieldAddr .. => true
  | .field .. => true
  | .indexAddr .. => true
  | .index .. => true
  | .lookup .. => true
  | .extract .. => true
  | .call c => match c.callee with
    | .builtin .len => true
    | .builtin .min => true
    | .builtin .max => true
    | _ => false
  | _ => false
/-- an operation that looks at memory -/
def depB (o : Oper) : Bool := match o.op with
  | .load .. => true
  | .lookup .. => true
  | .index .. => true
  | .convert .. => true
  | _ => false
section
variable {P : Program} {ops : Array Oper} {C0 : World → Prop}
theorem value_only {M : Sem Value} {w : World} {n : Next} {w' : World} (h : (do pure (.value (← M)) : Sem Next).run P w = .ok n w') : ∃ u, n = .value u := by
  rw [Sem.run_bind] at h
  generalize M.run P w = r at h
  cases r with
  | ok v w1 => simp [Result.andThen] at h; exact ⟨v, h.1.symm⟩
  | halt x w1 => simp [Result.andThen] at h
theorem value_bind {α : Type} {M : Sem α} {f : α → Sem Next} (hf : ∀ x w n w', (f x).run P w = .ok n w' → ∃ u, n = .value u) (w : World) (n : Next) (w' : World) (h : (M >>= f).run P w = .ok n w') : ∃ u, n = .value u := by
  rw [Sem.run_bind] at h
  generalize M.run P w = r at h
  cases r with
  | ok v w1 => exact hf _ _ _ _ h
  | halt x w1 => simp [Result.andThen] at h
theorem pure_value {o : Oper} {ρ : Operand → Value} {w : World} {n : Next} {w' : World} (hp : pureB o = true) (h : (execOp ρ o).run P w = .ok n w') : ∃ u, n = .value u := by
  obtain ⟨dst, op, type, pos, after, guard⟩ := o
  cases op <;> simp only [pureB, Bool.false_eq_true] at hp <;> simp only [execOp] at h <;> try (exact value_only h)
  case move x => simp at h; exact ⟨_, h.1.symm⟩
  case assign x => simp at h; exact ⟨_, h.1.symm⟩
  case pick c a b =>
    rw [Sem.run_bind] at h
    generalize (asBool (ρ c)).run P w = r at h
    cases r with
    | ok v w1 => simp [Result.andThen] at h; exact ⟨_, h.1.symm⟩
    | halt x w1 => simp [Result.andThen] at h
  case nilCheck x =>
    split at h
    · simp [runtimePanic] at h
    · simp [runtimePanic] at h
    · simp [runtimePanic] at h
    · split at h
      · simp [runtimePanic] at h
      · refine value_bind (fun p => value_bind (fun q => ?_)) _ _ _ h
        intro w n w' h
        split at h
        · simp only [unsupported, Sem.run_bind] at h
          simp at h
        · simp at h; exact ⟨_, h.1.symm⟩
      · simp at h; exact ⟨_, h.1.symm⟩
    · simp at h; exact ⟨_, h.1.symm⟩
  case call c =>
    obtain ⟨callee, args, ats⟩ := c
    cases callee with
    | builtin b =>
      cases b <;> simp only [Bool.false_eq_true] at hp <;> simp only [resolve, invoke, builtin, Sem.run_bind, Sem.run_pure, Result.andThen_ok] at h
      case len =>
        generalize (Builtin.len_ ats type (Array.map ρ args)).run P w = r at h
        cases r with
        | ok v w1 => simp [Result.andThen] at h; exact ⟨v, h.1.symm⟩
        | halt x w1 => simp [Result.andThen] at h
      case min =>
        generalize (Builtin.min_ ats type (Array.map ρ args)).run P w = r at h
        cases r with
        | ok v w1 => simp [Result.andThen] at h; exact ⟨v, h.1.symm⟩
        | halt x w1 => simp [Result.andThen] at h
      case max =>
        generalize (Builtin.max_ ats type (Array.map ρ args)).run P w = r at h
        cases r with
        | ok v w1 => simp [Result.andThen] at h; exact ⟨v, h.1.symm⟩
        | halt x w1 => simp [Result.andThen] at h
    | value f => simp at hp
    | invoke r m => simp at hp
theorem still_of {D : World → Prop} {o : Oper} {ρ : Operand → Value} {w : World} {v : Value} (hp : pureB o = true) (h : Oper.quietUpon P D w v ((execOp ρ o).run P w)) : (execOp ρ o).run P w = .ok (.value v) w := by
  cases hr : (execOp ρ o).run P w with
  | ok n w' =>
    obtain ⟨u, rfl⟩ := pure_value hp hr
    rw [hr] at h
    simp only [Oper.quietUpon] at h
    rw [h.1, h.2]
  | halt x w' => rw [hr] at h; simp only [Oper.quietUpon] at h
/-! ### What one operation yields, where the class is asked of operations that look at memory alone -/
def YieldsZ (P : Program) (ops : Array Oper) (C0 : World → Prop) (o : Oper) (v : Value) (a : Act) : Prop :=
  (Region.wanted o (yielded ops a.tmps) = true ∧ ∀ w, (depB o = true → C0 w) → (execOp a.eval o).run P w = .ok (.value v) w) ∨
  (Region.wanted o (yielded ops a.tmps) = false ∧ v = undef)
theorem YieldsZ.of_same {o : Oper} {v : Value} {a a' : Act} (hy : YieldsZ P ops C0 o v a) (he : execOp a'.eval o = execOp a.eval o)
    (hw : Region.wanted o (yielded ops a'.tmps) = Region.wanted o (yielded ops a.tmps)) : YieldsZ P ops C0 o v a' := by
  unfold YieldsZ at *
  rw [he, hw]
  exact hy
variable {Q : Exit → Act → World → Prop}
theorem YieldsZ.wpOp {i : Nat} {o : Oper} {v : Value} {a : Act} (hi : ops[i]? = some o) (hy : YieldsZ P ops C0 o v a) {K : Act → World → Prop} {w : World} (hw0 : depB o = true → C0 w) (h : K (a.put o.dst v) w) : wpOp P ops Q i K a w := by
  unfold Go.wpOp
  simp only [hi]
  rcases hy with ⟨hw, hv⟩ | ⟨hw, rfl⟩
  · simp only [hw, if_true, Oper.wp, hv w hw0, Oper.upon]; exact .inl h
  · simp only [hw, Bool.false_eq_true, if_false]; exact h
theorem wpOp_putZ {j : Nat} {oi oj : Oper} {v : Value} (hj : ops[j]? = some oj) (hap : oi.apart ops oj = true)
    (hsi : ∀ cs b, oi.op ≠ .select cs b) (hsj : ∀ cs b, oj.op ≠ .select cs b) (hQ : ∀ c a w, ¬ Q (.panic c) a w) {K : Act → World → Prop} {a : Act} {w : World}
    (hy : YieldsZ P ops C0 oi v a) (h : wpOp P ops Q j K (a.put oi.dst v) w) :
    wpOp P ops Q j (fun a' w' => YieldsZ P ops C0 oi v a' ∧ K (a'.put oi.dst v) w') a w := by
  obtain ⟨h1, h2, h3⟩ := Oper.apart_spec hap
  have keep : ∀ (a : Act), YieldsZ P ops C0 oi v a → ∀ u, YieldsZ P ops C0 oi v (a.put oj.dst u) := fun a hy u =>
    hy.of_same (execOp_put oi hsi a oj.dst u h3) (wanted_put oi a oj.dst u h3)
  have keepD : ∀ d, YieldsZ P ops C0 oi v { a with defers := d :: a.defers } := fun d => hy.of_same rfl rfl
  unfold Go.wpOp at *
  simp only [hj] at *
  rw [wanted_put oj a oi.dst v h1] at h
  split
  · rename_i hw
    simp only [hw, if_true] at h
    rcases h with h | ⟨hasks, hlets⟩
    case inr => exact .inr ⟨by unfold Oper.asks at *; rw [execOp_put oj hsj a oi.dst v h1] at hasks; exact hasks, hlets⟩
    refine .inl ?_
    unfold Oper.wp at *
    rw [execOp_put oj hsj a oi.dst v h1] at h
    generalize (execOp a.eval oj).run P w = r at *
    cases r with
    | ok n w' =>
      cases n <;> simp only [Oper.upon] at h ⊢
      case value u => exact ⟨keep a hy u, by rw [← Act.put_comm a v u h2]; exact h⟩
      case skip => exact ⟨keep a hy _, by rw [← Act.put_comm a v undef h2]; exact h⟩
      case defer d =>
        refine ⟨keep _ (keepD d) _, ?_⟩
        rw [← Act.put_comm _ v undef h2, ← Act.put_defers]
        exact h
      case enter f args =>
        refine Calls.mono h fun e w'' he => ?_
        cases e with
        | returned u => exact ⟨keep a hy u, by rw [← Act.put_comm a v u h2]; exact he⟩
        | panicked c => exact absurd he (hQ _ _ _)
        | outgrown => exact he
      case row row args => exact Rows.mono h fun u w'' he => ⟨keep a hy u, by rw [← Act.put_comm a v u h2]; exact he⟩
    | halt x w' =>
      cases x <;> simp only [Oper.upon] at h ⊢
      case panic u => exact absurd h (hQ _ _ _)
  · rename_i hw
    simp only [hw] at h
    exact ⟨keep a hy _, by rw [← Act.put_comm a v undef h2]; exact h⟩
/-! ### Whatever order: what some operations keep is told -/
def wpZ (P : Program) (ops : Array Oper) (C0 : World → Prop) (need : Nat → Bool) (Q : Exit → Act → World → Prop) : Nat → Array Bool → Act → World → Prop
  | 0, li, a, w => Region.ready .any ops li = [] ∧ Q .normal a w
  | f + 1, li, a, w => (Region.ready .any ops li = [] → Q .normal a w) ∧ ∀ i ∈ Region.ready .any ops li, wpOp P ops Q i (fun a' w' => (need i = true → C0 w → C0 w') ∧ wpZ P ops C0 need Q f (li.setIfInBounds i true) a' w') a w
theorem wpAny_of_Z {need : Nat → Bool} : ∀ (f : Nat) (li : Array Bool) (a : Act) (w : World), wpZ P ops C0 need Q f li a w → wpAny P .any ops Q f li a w
  | 0, _, _, _, h => h
  | f + 1, li, a, w, h => ⟨h.1, fun i hi => wpOp_mono (fun a' w' h' => wpAny_of_Z f _ a' w' h'.2) (h.2 i hi)⟩
theorem wpZ_first {need : Nat → Bool} {i : Nat} {oi : Oper} {v : Value} (hi : ops[i]? = some oi) (hsel : ∀ (j : Nat) (o : Oper) cs b, ops[j]? = some o → o.op ≠ .select cs b) (hQ : ∀ c a w, ¬ Q (.panic c) a w) :
    ∀ (fuel : Nat) (li : Array Bool) (a : Act) (w : World), Dn ops li →
      (∀ j oj, ops[j]? = some oj → j ≠ i → li.getD j true = false → waitsB ops ops.size j i = false → oi.apart ops oj = true ∧ (depB oi = true → need j = true)) →
      i ∈ Region.ready .any ops li → YieldsZ P ops C0 oi v a → (depB oi = true → C0 w) →
      wpZ P ops C0 need Q fuel (li.setIfInBounds i true) (a.put oi.dst v) w → wpZ P ops C0 need Q (fuel + 1) li a w := by
  intro fuel
  induction fuel with
  | zero =>
    intro li a w hD _ hr hy hC H
    refine ⟨fun h => (by rw [h] at hr; cases hr), fun j hj => ?_⟩
    by_cases hji : j = i
    · subst hji; exact hy.wpOp hi hC ⟨fun _ h => h, H⟩
    · have := ready_mono hj hji
      rw [H.1] at this
      cases this
  | succ fuel ih =>
    intro li a w hD hfree hr hy hC H
    refine ⟨fun h => (by rw [h] at hr; cases hr), fun j hj => ?_⟩
    by_cases hji : j = i
    · subst hji; exact hy.wpOp hi hC ⟨fun _ h => h, H⟩
    · have h1 := H.2 j (ready_mono hj hji)
      obtain ⟨hjun, oj, hoj, hall⟩ := mem_ready.1 hj
      have hnw : waitsB ops ops.size j i = false := by
        cases hw : waitsB ops ops.size j i with
        | false => rfl
        | true =>
          have h2 := waits_done hD _ j oj hoj hall hw
          rw [getD_ft (mem_ready.1 hr).1] at h2
          cases h2
      obtain ⟨hap, hn⟩ := hfree j oj hoj hji hjun hnw
      have h2 := wpOp_putZ hoj hap (fun cs b => hsel i oi cs b hi) (fun cs b => hsel j oj cs b hoj) hQ hy h1
      have hfree' : ∀ k ok, ops[k]? = some ok → k ≠ i → (li.setIfInBounds j true).getD k true = false → waitsB ops ops.size k i = false → oi.apart ops ok = true ∧ (depB oi = true → need k = true) := fun k ok hk hki hun hno => by
        refine hfree k ok hk hki ?_ hno
        by_cases hjk : j = k
        · subst hjk; exact hjun
        · rw [getD_set_ne true hjk] at hun; exact hun
      refine wpOp_mono (fun a' w' h3 => ⟨h3.2.1, ih (li.setIfInBounds j true) a' w' (hD.set hj) hfree' (ready_mono hr (Ne.symm hji)) h3.1 (fun hd => h3.2.1 (hn hd) (hC hd)) ?_⟩) h2
      rw [Array.setIfInBounds_comm _ _ hji]
      exact h3.2.2
/-! ### The pure ones first -/
def freeZ (ops : Array Oper) (li : Array Bool) (i : Nat) : Bool :=
  match ops[i]? with
  | none => false
  | some oi => (List.range ops.size).all fun j => Nat.beq j i || (li.getD j true || (waitsB ops ops.size j i || (match ops[j]? with
      | some oj => oi.apart ops oj
      | none => true)))
/-- must operation k keep the class for one of the pure ones? -/
def needZ (ops : Array Oper) (xi : List Nat) (k : Nat) : Bool := xi.any fun i => (match ops[i]? with | some o => depB o | none => false) && !waitsB ops ops.size k i
theorem freeZ_spec {i : Nat} {oi : Oper} {li : Array Bool} {xi : List Nat} (hi : ops[i]? = some oi) (hx : i ∈ xi) (h : freeZ ops li i = true) (j : Nat) (oj : Oper) (hj : ops[j]? = some oj) (hne : j ≠ i) (hun : li.getD j true = false) (hno : waitsB ops ops.size j i = false) :
    oi.apart ops oj = true ∧ (depB oi = true → needZ ops xi j = true) := by
  simp only [freeZ, hi, List.all_eq_true, List.mem_range] at h
  have h1 := h j (Array.getElem?_eq_some_iff.1 hj).1
  have hb : Nat.beq j i = false := by
    rw [Bool.eq_false_iff]; intro hb; exact hne (Nat.eq_of_beq_eq_true hb)
  simp only [hj, hun, hno, hb, Bool.false_or] at h1
  refine ⟨h1, fun hd => List.any_eq_true.2 ⟨i, hx, ?_⟩⟩
  simp [hi, hd, hno]
def preZ (ops : Array Oper) : List Nat → Array Bool → Bool
  | [], _ => true
  | i :: r, li => (Region.ready .any ops li).contains i && (freeZ ops li i && preZ ops r (li.setIfInBounds i true))
def runZ : List Nat → Array Bool → Array Bool
  | [], li => li
  | i :: r, li => runZ r (li.setIfInBounds i true)
def seqZ (ops : Array Oper) : List Nat → Array Bool → Bool
  | [], li => (Region.ready .any ops li).isEmpty
  | k :: t, li => (Region.ready .any ops li == [k]) && seqZ ops t (li.setIfInBounds k true)
def wpZL (P : Program) (ops : Array Oper) (C0 : World → Prop) (K : Act → Prop) : List Oper → Act → Prop
  | [], a => K a
  | o :: r, a => if Region.wanted o (yielded ops a.tmps) then ∃ v, (∀ w, (depB o = true → C0 w) → (execOp a.eval o).run P w = .ok (.value v) w) ∧ wpZL P ops C0 K r (a.put o.dst v) else wpZL P ops C0 K r (a.put o.dst undef)
def wpT (P : Program) (ops : Array Oper) (C0 : World → Prop) (need : Nat → Bool) (Q : Exit → Act → World → Prop) : List (Nat × Oper) → Act → World → Prop
  | [], a, w => Q .normal a w
  | (k, _) :: r, a, w => wpOp P ops Q k (fun a' w' => (need k = true → C0 w') ∧ wpT P ops C0 need Q r a' w') a w
theorem wpZ_seq {need : Nat → Bool} : ∀ (y : List (Nat × Oper)) (li : Array Bool) (a : Act) (w : World), seqZ ops (y.map (·.1)) li = true → wpT P ops C0 need Q y a w → wpZ P ops C0 need Q y.length li a w
  | [], li, a, w, hB, h => ⟨by simpa [seqZ] using hB, h⟩
  | (k, o) :: r, li, a, w, hB, h => by
    simp only [List.map_cons, seqZ, Bool.and_eq_true, beq_iff_eq] at hB
    refine ⟨fun h' => (by rw [hB.1] at h'; cases h'), fun i hi => ?_⟩
    rw [hB.1, List.mem_singleton] at hi
    subst hi
    exact wpOp_mono (fun a' w' h3 => ⟨fun hn _ => h3.1 hn, wpZ_seq r _ a' w' hB.2 h3.2⟩) h
theorem wpZ_pre {xi0 : List Nat} (hs : Region.noSelect ops = true) (hQ : ∀ c a w, ¬ Q (.panic c) a w) {K : Act → Prop} {f : Nat} {w : World} (hw : C0 w) : ∀ (x : List (Nat × Oper)) (li : Array Bool) (a : Act), (∀ p ∈ x, p.1 ∈ xi0 ∧ ops[p.1]? = some p.2) → Dn ops li →
    preZ ops (x.map (·.1)) li = true → wpZL P ops C0 K (x.map (·.2)) a → (∀ a, K a → wpZ P ops C0 (needZ ops xi0) Q f (runZ (x.map (·.1)) li) a w) → wpZ P ops C0 (needZ ops xi0) Q (x.length + f) li a w
  | [], li, a, _, _, _, h, hK => by
    rw [List.length_nil, Nat.zero_add]; exact hK a h
  | (i, o) :: r, li, a, hx, hD, hB, h, hK => by
    obtain ⟨hmem, hi⟩ := hx _ (.head _)
    simp only [List.map_cons, preZ, Bool.and_eq_true] at hB
    obtain ⟨hr, hf, hB'⟩ := hB
    have hr' : i ∈ Region.ready .any ops li := by simpa using hr
    have key : ∃ v, YieldsZ P ops C0 o v a ∧ wpZL P ops C0 K (r.map (·.2)) (a.put o.dst v) := by
      simp only [List.map_cons, wpZL] at h
      split at h
      · rename_i hw
        obtain ⟨v, h1, h2⟩ := h
        exact ⟨v, .inl ⟨hw, h1⟩, h2⟩
      · rename_i hw
        exact ⟨undef, .inr ⟨by simpa using hw, rfl⟩, h⟩
    obtain ⟨v, hy, h2⟩ := key
    rw [List.length_cons, show r.length + 1 + f = (r.length + f) + 1 by omega]
    exact wpZ_first hi (Region.noSelect_spec hs) hQ _ li a w hD (freeZ_spec hi hmem hf) hr' hy (fun _ => hw)
      (wpZ_pre hs hQ hw r _ _ (fun p hp => hx p (.tail _ hp)) (hD.set hr') hB' h2 hK)
def NoPanic (Q : Exit → Act → World → Prop) : Exit → Act → World → Prop := fun e a w => match e with
  | .panic _ => False
  | e => Q e a w
theorem wpOp_np {i : Nat} {K : Act → World → Prop} {a : Act} {w : World} (h : wpOp P ops (NoPanic Q) i K a w) : wpOp P ops Q i K a w := by
  have hp : ∀ e a w, e ≠ .normal → NoPanic Q e a w → Q e a w := fun e a w _ h => by
    cases e <;> first | exact h | exact h.elim
  unfold wpOp at *
  split
  · rename_i ho; simp only [ho] at h; exact h
  · rename_i o ho
    simp only [ho] at h
    split
    · rename_i hw
      rw [if_pos hw] at h
      rcases h with h | ⟨h, a', w', hq⟩
      · refine .inl ?_
        unfold Oper.wp at h ⊢
        exact upon_Q hp h
      · exact .inr ⟨h, a', w', hq⟩
    · rename_i hw
      rw [if_neg hw] at h
      exact h
theorem wpAny_np : ∀ (f : Nat) (li : Array Bool) (a : Act) (w : World), wpAny P .any ops (NoPanic Q) f li a w → wpAny P .any ops Q f li a w
  | 0, _, _, _, h => h
  | f + 1, li, a, w, h => ⟨h.1, fun i hi => wpOp_np (wpOp_mono (fun a' w' h' => wpAny_np f _ a' w' h') (h.2 i hi))⟩
end
/-- the pure operations that wait for none of the others, and the others -/
inductive ZSplit : Nat → List Nat → List Oper → List (Nat × Oper) → List (Nat × Oper) → Prop where
  | nil {k : Nat} {tl : List Nat} : ZSplit k tl [] [] []
  | pure {k : Nat} {tl : List Nat} {o : Oper} {r : List Oper} {x y : List (Nat × Oper)} (hp : (pureB o && o.after.toList.all fun e => tl.all fun t => !Nat.beq t e.on) = true) (h : ZSplit (k + 1) tl r x y) : ZSplit k tl (o :: r) ((k, o) :: x) y
  | tail {k : Nat} {tl : List Nat} {o : Oper} {r : List Oper} {x y : List (Nat × Oper)} (h : ZSplit (k + 1) (k :: tl) r x y) : ZSplit k tl (o :: r) x ((k, o) :: y)
theorem ZSplit.spec {k : Nat} {tl : List Nat} {l : List Oper} {x y : List (Nat × Oper)} (h : ZSplit k tl l x y) : (∀ p ∈ x, k ≤ p.1 ∧ l[p.1 - k]? = some p.2 ∧ pureB p.2 = true) ∧ (∀ p ∈ y, k ≤ p.1 ∧ l[p.1 - k]? = some p.2) ∧ x.length + y.length = l.length := by
  induction h with
  | nil => simp
  | @pure k tl o r x y hp h ih =>
    simp only [Bool.and_eq_true] at hp
    refine ⟨fun p hpm => ?_, fun p hpm => ?_, by simp only [List.length_cons]; omega⟩
    · rcases List.mem_cons.1 hpm with rfl | hpm
      · exact ⟨Nat.le_refl _, by simp, hp.1⟩
      · obtain ⟨h1, h2, h3⟩ := ih.1 p hpm
        exact ⟨by omega, by rw [show p.1 - k = (p.1 - (k + 1)) + 1 by omega, List.getElem?_cons_succ]; exact h2, h3⟩
    · obtain ⟨h1, h2⟩ := ih.2.1 p hpm
      exact ⟨by omega, by rw [show p.1 - k = (p.1 - (k + 1)) + 1 by omega, List.getElem?_cons_succ]; exact h2⟩
  | @tail k tl o r x y h ih =>
    refine ⟨fun p hpm => ?_, fun p hpm => ?_, by simp only [List.length_cons]; omega⟩
    · obtain ⟨h1, h2, h3⟩ := ih.1 p hpm
      exact ⟨by omega, by rw [show p.1 - k = (p.1 - (k + 1)) + 1 by omega, List.getElem?_cons_succ]; exact h2, h3⟩
    · rcases List.mem_cons.1 hpm with rfl | hpm
      · exact ⟨Nat.le_refl _, by simp⟩
      · obtain ⟨h1, h2⟩ := ih.2.1 p hpm
        exact ⟨by omega, by rw [show p.1 - k = (p.1 - (k + 1)) + 1 by omega, List.getElem?_cons_succ]; exact h2⟩
structure ZL (P : Program) (n : Nm) (ops : Array Oper) (C0 : World → Prop) (K : Act → Prop) (rest : List (Nat × Oper)) (l : Env) : Prop where
  run : ∀ a, Sees n l a → wpZL P ops C0 K (rest.map (·.2)) a
structure TL (P : Program) (n : Nm) (ops : Array Oper) (C0 : World → Prop) (need : Nat → Bool) (Q : Exit → Act → World → Prop) (y : List (Nat × Oper)) (l : Env) (C : World → Prop) : Prop where
  run : ∀ a w, Sees n l a → C w → wpT P ops C0 need Q y a w
def TQ (P : Program) (ops : Array Oper) (C0 : World → Prop) (need : Nat → Bool) (k : Nat) (r : List (Nat × Oper)) (Q : Exit → Act → World → Prop) : Exit → Act → World → Prop := fun e a w => match e with
  | .normal => (need k = true → C0 w) ∧ wpT P ops C0 need Q r a w
  | e => Q e a w
def zB (ops : Array Oper) (xi yi : List Nat) : Bool := Region.noSelect ops && (preZ ops xi (Array.replicate ops.size false) && seqZ ops yi (runZ xi (Array.replicate ops.size false)))
section
variable {P : Program} {n : Nm} {l : Env} {C C0 : World → Prop} {ops : Array Oper} {Q : Exit → Act → World → Prop} {K : Act → Prop} {o : Oper} {k : Nat} {x y r : List (Nat × Oper)} {need : Nat → Bool}
theorem W.regz {id : Nat} {l0 : List Oper} (hs : ZSplit 0 [] l0 x y) (hm : P.follows .mixedOrders = true) (hB : zB l0.toArray (x.map (·.1)) (y.map (·.1)) = true) (hC : ∀ w, C w → C { w with drawn := w.drawn + 1 })
    (h : ZL P n l0.toArray C (fun a' => ∀ w', C w' → wpT P l0.toArray C (needZ l0.toArray (x.map (·.1))) (NoPanic Q) y a' w') x l) : W P n (.region id l0.toArray true) Q l C := ⟨fun a w hs' hc => by
  simp only [zB, Bool.and_eq_true] at hB
  obtain ⟨h1, h2, h3⟩ := hB
  obtain ⟨hx, hy, hlen⟩ := hs.spec
  refine wpp_region_any hm (wpAny_np _ _ _ _ (wpAny_of_Z (C0 := C) (need := needZ l0.toArray (x.map (·.1))) _ _ _ _ ?_))
  have key := wpZ_pre (P := P) (ops := l0.toArray) (C0 := C) (Q := NoPanic Q) (xi0 := x.map (·.1)) (f := y.length) (w := { w with drawn := w.drawn + 1 }) h1 (fun _ _ _ h => h) (hC w hc) x (Array.replicate l0.toArray.size false) a
    (fun p hp => ⟨List.mem_map.2 ⟨p, hp, rfl⟩, by have := (hx p hp).2.1; simpa using this⟩) (fun j o _ hj => by rw [getD_rep] at hj; cases hj) h2 (h.run a hs')
    (fun a' hK => wpZ_seq y _ a' _ h3 (hK _ (hC w hc)))
  have e : x.length + y.length = l0.toArray.size := by simpa using hlen
  exact (congrArg (fun s => wpZ P l0.toArray C (needZ l0.toArray (x.map (·.1))) (NoPanic Q) s (Array.replicate l0.toArray.size false) a { w with drawn := w.drawn + 1 }) e).mp key⟩
theorem ZL.nil (h : TL P n ops C0 need Q y l C0) : ZL P n ops C0 (fun a' => ∀ w', C0 w' → wpT P ops C0 need Q y a' w') [] l := ⟨fun a hs w hc => h.run a w hs hc⟩
theorem ZL.step {d : Nat} {c : Bool} {v : Value} (hp : pureB o = true) (hg : Guard l ops o.guard c) (hd : o.dst = some d) (hn : Nat.ble (d + 1) n.n = true) (hv : Pev P n l (fun w => depB o = true → C0 w) o c v)
    (kk : ZL P n ops C0 K r ((d, c, v) :: l)) : ZL P n ops C0 K ((k, o) :: r) l := by
  have hn' := Nat.le_of_ble_eq_true hn
  refine ⟨fun a hs => ?_⟩
  show wpZL P ops C0 K (o :: r.map (·.2)) a
  unfold wpZL
  rw [hg.wanted hs]
  cases c with
  | true => exact ⟨v, fun w hw => still_of hp (hv.run rfl a w hs hw), by rw [hd]; exact kk.run _ (hs.put hn' true v)⟩
  | false => rw [hd]; exact kk.run _ (hs.put hn' false v)
theorem ZL.op {d : Nat} {c : Bool} {v : Value} (hb : (pureB o && !depB o) = true) (hg : Guard l ops o.guard c) (hd : o.dst = some d) (hn : Nat.ble (d + 1) n.n = true) (hv : Pev P n l (fun _ => True) o c v)
    (kk : ZL P n ops C0 K r ((d, c, v) :: l)) : ZL P n ops C0 K ((k, o) :: r) l := by
  simp only [Bool.and_eq_true, Bool.not_eq_true'] at hb
  exact ZL.step hb.1 hg hd hn ⟨fun hc a w hs hw => by
    have := hv.run hc a w hs trivial
    rw [still_of hb.1 this]; exact ⟨rfl, rfl⟩⟩ kk
theorem ZL.ld {d : Nat} {c : Bool} {v : Value} (hb : (pureB o && depB o) = true) (hg : Guard l ops o.guard c) (hd : o.dst = some d) (hn : Nat.ble (d + 1) n.n = true) (hv : Pev P n l C0 o c v)
    (kk : ZL P n ops C0 K r ((d, c, v) :: l)) : ZL P n ops C0 K ((k, o) :: r) l := by
  simp only [Bool.and_eq_true] at hb
  exact ZL.step hb.1 hg hd hn ⟨fun hc a w hs hw => by
    have := hv.run hc a w hs (hw hb.2)
    rw [still_of hb.1 this]; exact ⟨rfl, rfl⟩⟩ kk
theorem TL.nil (h : At n Q .normal l C) : TL P n ops C0 need Q [] l C := ⟨fun a w hs hc => h.run a w hs hc⟩
theorem TL.one (hi : ops[k]? = some o) (h : OL P n ops (TQ P ops C0 need k r Q) [o] l C) : TL P n ops C0 need Q ((k, o) :: r) l C := ⟨fun a w hs hc => by
  have hp : ∀ ex a w, ex ≠ .normal → TQ P ops C0 need k r Q ex a w → Q ex a w := fun ex a w hne h => by
    cases ex <;> first | exact h | exact absurd rfl hne
  have h := h.run a w hs hc
  show wpOp P ops Q k _ a w
  unfold wpOp
  simp only [hi]
  unfold wpList at h
  split
  · rename_i hw
    rw [if_pos hw] at h
    rcases h with h | ⟨h, a', w', hq⟩
    · refine .inl ?_
      unfold Oper.wp at h ⊢
      exact upon_Q hp h
    · exact .inr ⟨h, a', w', hp _ _ _ (by simp) hq⟩
  · rename_i hw
    rw [if_neg hw] at h
    exact h⟩
theorem At.tn (hk : need k = false) (h : TL P n ops C0 need Q r l C) : At n (TQ P ops C0 need k r Q) .normal l C := ⟨fun a w hs hc => ⟨fun h' => (by rw [hk] at h'; cases h'), h.run a w hs hc⟩⟩
theorem At.tk (hk : ∀ w, C w → C0 w) (h : TL P n ops C0 need Q r l C) : At n (TQ P ops C0 need k r Q) .normal l C := ⟨fun a w hs hc => ⟨fun _ => hk w hc, h.run a w hs hc⟩⟩
theorem At.np (h : At n Q .normal l C) : At n (NoPanic Q) .normal l C := ⟨h.run⟩
end
/-! a guard that is known, among the quiet operations -/
section
variable {P : Program} {n : Nm} {l : Env} {C : World → Prop} {c : Bool} {d : Option Nat} {op : Op} {ty : TypeId} {pos : String} {af : Array Edge} {g : Option (Nat × Bool)} {ops : Array Oper} {K : Act → Prop} {rest : List Oper}
theorem QL.gateOff {dd : Nat} (hg : Guard l ops g c) (hc : c = false) (hn : Nat.ble (dd + 1) n.n = true) (h : QL P n ops C K rest ((dd, false, undef) :: l)) : QL P n ops C K (⟨some dd, op, ty, pos, af, g⟩ :: rest) l := by
  have hn' := Nat.le_of_ble_eq_true hn
  refine ⟨fun a hs => ?_⟩
  unfold wpQuiet
  rw [hg.wanted hs]
  subst hc
  exact h.run _ (hs.put hn' false undef)
end
end Go.Eng

/-
  DERIVED: THE SHELF's CONTRACTS AT THIS DUMP, IN PLAIN WORDS (tools/lay-plain.mjs out of 'YtgllgllbgojhfaaShelfD.lean', which tools/lay-shelf.mjs wrote): THE SAME DECLARATIONS UNDER THE SAME NAMES: 'import', 'namespace', 'open', 'def', 'theorem' AND NOTHING ELSE: no command of the shelf's: FOR A HAND-IN. Each laying: the table of numbers ('.._ren') and one theorem, a field a fact of the dump's own or the kernel's comparison; each contract: ONE APPLICATION.
-/
namespace Go.Proofs
open Go.Shelf
def Try.lays190_ren : Go.Shelf.Ren := ⟨fun | 190 => 9 | 125 => 20 | 258 => 19 | 128 => 36 | 129 => 37 | 302 => 27 | 303 => 28 | 304 => 29 | 305 => 30 | 306 => 31 | 307 => 32 | 308 => 33 | 309 => 34 | 310 => 35 | 333 => 42 | 329 => 43 | 330 => 44 | 334 => 45 | 335 => 46 | 336 => 47 | 344 => 49 | n => n, fun | 31 => 22 | 9 => 9 | 3 => 3 | 46 => 44 | 0 => 0 | 51 => 62 | 53 => 64 | 4 => 4 | 183 => 54 | 182 => 53 | 131 => 59 | 5 => 5 | 218 => 66 | 222 => 70 | 228 => 73 | 229 => 74 | n => n, fun | n => n⟩
theorem Try.lays190 : Go.Proofs.Lays.n190 Try.prog Try.lays190_ren := {
  mixed := by kernel_rfl
  f125 := Try.func20.trans (congrArg some (by kernel_rfl))
  f128 := Try.func36.trans (congrArg some (by kernel_rfl))
  f129 := Try.func37.trans (congrArg some (by kernel_rfl))
  f190 := Try.func9.trans (congrArg some (by kernel_rfl))
  f258 := Try.func19.trans (congrArg some (by kernel_rfl))
  f302 := Try.func27.trans (congrArg some (by kernel_rfl))
  f303 := Try.func28.trans (congrArg some (by kernel_rfl))
  f304 := Try.func29.trans (congrArg some (by kernel_rfl))
  f305 := Try.func30.trans (congrArg some (by kernel_rfl))
  f306 := Try.func31.trans (congrArg some (by kernel_rfl))
  f307 := Try.func32.trans (congrArg some (by kernel_rfl))
  f308 := Try.func33.trans (congrArg some (by kernel_rfl))
  f309 := Try.func34.trans (congrArg some (by kernel_rfl))
  f310 := Try.func35.trans (congrArg some (by kernel_rfl))
  f329 := Try.func43.trans (congrArg some (by kernel_rfl))
  f330 := Try.func44.trans (congrArg some (by kernel_rfl))
  f333 := Try.func42.trans (congrArg some (by kernel_rfl))
  f334 := Try.func45.trans (congrArg some (by kernel_rfl))
  f335 := Try.func46.trans (congrArg some (by kernel_rfl))
  f336 := Try.func47.trans (congrArg some (by kernel_rfl))
  f344 := Try.func49.trans (congrArg some (by kernel_rfl))
  t0 := Try.underlying0
  a0 := Try.isAgg0
  z0 := Try.sizeOf0
  v0 := Try.zeroValue0
  t3 := Try.underlying3
  a3 := Try.isAgg3
  z3 := Try.sizeOf3
  v3 := Try.zeroValue3
  t4 := Try.underlying4
  a4 := Try.isAgg4
  z4 := Try.sizeOf4
  v4 := Try.zeroValue4
  t5 := Try.underlying5
  a5 := Try.isAgg5
  z5 := Try.sizeOf5
  v5 := Try.zeroValue5
  t9 := Try.underlying9
  a9 := Try.isAgg9
  z9 := Try.sizeOf9
  v9 := Try.zeroValue9
  t31 := Try.underlying22
  a31 := Try.isAgg22
  z31 := Try.sizeOf22
  v31 := Try.zeroValue22
  t46 := Try.underlying44
  a46 := Try.isAgg44
  z46 := Try.sizeOf44
  v46 := Try.zeroValue44
  t51 := Try.underlying62
  a51 := Try.isAgg62
  z51 := Try.sizeOf62
  v51 := Try.zeroValue62
  t53 := Try.underlying64
  a53 := Try.isAgg64
  z53 := Try.sizeOf64
  v53 := Try.zeroValue64
  t131 := Try.underlying59
  a131 := Try.isAgg59
  z131 := Try.sizeOf59
  v131 := Try.zeroValue59
  t182 := Try.underlying53
  a182 := Try.isAgg53
  z182 := Try.sizeOf53
  v182 := Try.zeroValue53
  t183 := Try.underlying54
  a183 := Try.isAgg54
  z183 := Try.sizeOf54
  v183 := Try.zeroValue54
  t218 := Try.underlying66
  a218 := Try.isAgg66
  z218 := Try.sizeOf66
  v218 := Try.zeroValue66
  t222 := Try.underlying70
  a222 := Try.isAgg70
  z222 := Try.sizeOf70
  v222 := Try.zeroValue70
  t228 := Try.underlying73
  a228 := Try.isAgg73
  z228 := Try.sizeOf73
  v228 := Try.zeroValue73
  t229 := Try.underlying74
  a229 := Try.isAgg74
  z229 := Try.sizeOf74
  v229 := Try.zeroValue74 }
def Try.lays194_ren : Go.Shelf.Ren := ⟨fun | 194 => 16 | n => n, fun | 31 => 22 | 9 => 9 | 3 => 3 | 4 => 4 | 0 => 0 | n => n, fun | n => n⟩
theorem Try.lays194 : Go.Proofs.Lays.n194 Try.prog Try.lays194_ren := {
  mixed := by kernel_rfl
  f194 := Try.func16.trans (congrArg some (by kernel_rfl))
  t0 := Try.underlying0
  a0 := Try.isAgg0
  z0 := Try.sizeOf0
  v0 := Try.zeroValue0
  t3 := Try.underlying3
  a3 := Try.isAgg3
  z3 := Try.sizeOf3
  v3 := Try.zeroValue3
  t4 := Try.underlying4
  a4 := Try.isAgg4
  z4 := Try.sizeOf4
  v4 := Try.zeroValue4
  t9 := Try.underlying9
  a9 := Try.isAgg9
  z9 := Try.sizeOf9
  v9 := Try.zeroValue9
  t31 := Try.underlying22
  a31 := Try.isAgg22
  z31 := Try.sizeOf22
  v31 := Try.zeroValue22 }
end Go.Proofs

/- The sort and the compaction of a grown row of strings, by the library's contracts; a sort of nothing. Conditions: none. -/
namespace Go.Proofs.Ytgllgllbgojhfaa.mo
open Go.RowKit Go.Eng Go.Mo Go.Shelf Go.Sort
set_option maxRecDepth 100000
def bss (l : List ByteArray) : List (List UInt8) := l.map fun s => s.data.toList
def ssb (l : List (List UInt8)) : List ByteArray := l.map fun s => ⟨s.toArray⟩
theorem enc_ssb (l : List (List UInt8)) : l.map encStr = strs (ssb l) := by simp [strs, ssb]
theorem ssb_bss : ∀ l : List ByteArray, ssb (bss l) = l
  | [] => rfl
  | s :: l => by
    show (⟨s.data.toList.toArray⟩ : ByteArray) :: ssb (bss l) = _
    rw [ssb_bss l, Array.toArray_toList]
theorem bss_ssb : ∀ l : List (List UInt8), bss (ssb l) = l
  | [] => rfl
  | s :: l => by
    show s :: bss (ssb l) = _
    rw [bss_ssb l]
theorem ssb_len (l : List (List UInt8)) : (ssb l).length = l.length := by simp [ssb]
theorem bss_len (l : List ByteArray) : (bss l).length = l.length := by simp [bss]
theorem strs_enc (l : List ByteArray) : strs l = (bss l).map encStr := by rw [enc_ssb, ssb_bss]
theorem bss_mem {l : List ByteArray} {s : ByteArray} : s.data.toList ∈ bss l ↔ s ∈ l := by
  unfold bss
  rw [List.mem_map]
  exact ⟨fun ⟨u, hu, e⟩ => by
    have : u = s := by
      apply ByteArray.ext
      exact Array.toList_inj.1 e
    exact this ▸ hu, fun h => ⟨s, h, rfl⟩⟩
/-- the row sorted -/
def srtS (xs : List ByteArray) : List ByteArray := ssb (srt (bss xs))
theorem srtS_len (xs : List ByteArray) : (srtS xs).length = xs.length := by unfold srtS; rw [ssb_len, srt_len, bss_len]
def cmpS (xs : List ByteArray) : List ByteArray := ssb (Lib.compact (bss xs))
theorem Sort_calls {p : Nat} {H : List Eng.Item} {S : List World} {w : World} {base cap : Nat} {O : Nat → Prop} {q : Option Addr} {xs : List ByteArray} {F : Eng.Item → List Eng.Item}
    (hh : Hole p H (Eng.row base O q xs.length cap 9 1 (strs xs)) F) (h : Cls H S w) (hlen : xs.length < 4611686018427387904) :
    Calls Try.prog 9 #[.slice q xs.length cap] w fun e w' => e = .returned (.tuple #[]) ∧ Cls (F (Eng.row base O q xs.length cap 9 1 (strs (srtS xs)))) S w' := by
  by_cases h0 : xs.length = 0
  · obtain rfl : xs = [] := List.eq_nil_of_length_eq_zero h0
    refine (Any.slices_Sort_string_none Try.lays190 q cap w).mono fun e w' he => ⟨he.1, ?_⟩
    rw [he.2]
    have e2 : srtS [] = [] := by simp [srtS, bss, srt, ssb]
    rw [e2, hh.eq.2, set_same hh.eq.1]
    exact h
  · have hi := h.holds _ (List.mem_of_getElem? hh.eq.1)
    obtain ⟨g, rfl⟩ := row_some hi (by omega)
    rw [strs_enc] at hi
    obtain ⟨h1, h2⟩ := row_holds (d := (bss xs).toArray) hi
    have hc := Any.slices_Sort_string Try.lays190 g 0 cap (bss xs) w h1 h2 (by rw [bss_len]; exact hlen)
    rw [bss_len] at hc
    refine hc.mono fun e w' he => ⟨he.1, ?_⟩
    obtain ⟨n, os, hw⟩ := he.2
    have hp := Cls.rowPut hh h (srt (bss xs)).toArray (by simp [srt_len, bss_len]) hw
    rw [List.toList_toArray, enc_ssb] at hp
    exact hp
theorem compact_len (l : List (List UInt8)) : (Lib.compact l).length ≤ l.length := by
  unfold Lib.compact Lib.compactUpTo
  rw [List.length_map]
  exact Nat.le_trans (List.length_filter_le _ _) (by rw [List.length_range]; exact Nat.le_refl _)
theorem Compact_calls {p : Nat} {H : List Eng.Item} {S : List World} {w : World} {base cap : Nat} {O : Nat → Prop} {q : Option Addr} {xs : List ByteArray} {F : Eng.Item → List Eng.Item}
    (hh : Hole p H (Eng.row base O q xs.length cap 9 1 (strs xs)) F) (hF : ∀ i, Hole p (F i) i F) (h : Cls H S w) (hlen : xs.length < 4611686018427387904) :
    Calls Try.prog 16 #[.slice q xs.length cap] w fun e w' => e = .returned (.slice q (cmpS xs).length cap) ∧ Cls (F (Eng.row base O q (cmpS xs).length cap 9 1 (strs (cmpS xs)))) S w' := by
  by_cases h0 : xs.length = 0
  · obtain rfl : xs = [] := List.eq_nil_of_length_eq_zero h0
    refine (Any.slices_Compact_string_empty Try.lays194 q cap w).mono fun e w' he => ?_
    have e2 : cmpS [] = [] := by simp [cmpS, bss, Lib.compact, Lib.compactUpTo, ssb]
    rw [he.2, e2, hh.eq.2, set_same hh.eq.1]
    exact ⟨he.1, h⟩
  · have hi := h.holds _ (List.mem_of_getElem? hh.eq.1)
    have hcap := row_cap hi
    obtain ⟨g, rfl⟩ := row_some hi (by omega)
    rw [strs_enc] at hi
    obtain ⟨h1, h2⟩ := row_holds (d := (bss xs).toArray) hi
    have hcl := compact_len (bss xs)
    rw [bss_len] at hcl
    have hml : (cmpS xs).length = (Lib.compact (bss xs)).length := ssb_len _
    have hc := Any.slices_Compact_string Try.lays194 g 0 cap (bss xs) w h1 (by rw [bss_len]; omega) (by rw [bss_len]; exact hcap)
    rw [bss_len] at hc
    refine hc.mono fun e w' he => ⟨by rw [he.1, hml], ?_⟩
    obtain ⟨n, hw⟩ := he.2
    obtain ⟨D, hD⟩ : ∃ D : Array (List UInt8), D = (Lib.compact (bss xs) ++ List.replicate (xs.length - (Lib.compact (bss xs)).length) []).toArray := ⟨_, rfl⟩
    rw [← hD] at hw
    have hDl : D.size = xs.length := by rw [hD, List.size_toArray, List.length_append, List.length_replicate]; omega
    have hw2 : w' = Sort.grow (putRow encStr (Sort.ahead w n) g 0 D) #[] := by rw [hw, Sort.grow_empty]
    have hp := Cls.rowPut hh h D hDl hw2
    rw [hD] at hp
    rw [List.toList_toArray, List.map_append] at hp
    refine Cls.rowPop (m := xs.length) _ _ (hF _) (by omega) ?_ hp
    rw [Nat.mul_one, hml, List.take_left' (by simp), enc_ssb]
    rfl
end Go.Proofs.Ytgllgllbgojhfaa.mo

/- The walks of slices.Index, Contains, IndexFunc, ContainsFunc at strings, of the reference's has, and of Order's function literal. Conditions: none. -/
namespace Go.Proofs.Ytgllgllbgojhfaa.mo
open Go.RowKit Go.Eng
set_option maxRecDepth 100000
/-- the place of the first string that satisfies p, from place i on; -1: none -/
def idxFrom (p : ByteArray → Bool) : List ByteArray → Nat → Int
  | [], _ => -1
  | s :: l, i => if p s then i else idxFrom p l (i + 1)
theorem idxFrom_get {p : ByteArray → Bool} {l : List ByteArray} {i k : Nat} {s : ByteArray} (h : l[i]? = some s) : idxFrom p (l.drop i) k = if p s then (k : Int) else idxFrom p (l.drop (i + 1)) (k + 1) := by
  have hi := (List.getElem?_eq_some_iff.1 h).1
  rw [List.drop_eq_getElem_cons hi, idxFrom]
  rw [List.getElem?_eq_getElem hi] at h
  rw [Option.some.inj h]
theorem idxFrom_end {p : ByteArray → Bool} {l : List ByteArray} {i k : Nat} (h : l.length ≤ i) : idxFrom p (l.drop i) k = -1 := by
  rw [List.drop_eq_nil_of_le h]; rfl
theorem idxFrom_nonneg (p : ByteArray → Bool) : ∀ (l : List ByteArray) (k : Nat), decide (0 ≤ idxFrom p l k) = l.any p
  | [], k => rfl
  | s :: l, k => by
    rw [idxFrom, List.any_cons]
    cases h : p s
    · simp only [Bool.false_eq_true, if_false, Bool.false_or]
      exact idxFrom_nonneg p l (k + 1)
    · simp only [if_true, Bool.true_or, decide_eq_true_eq]
      omega
theorem Index_calls (q : Option Addr) (cap : Nat) (l : List ByteArray) (s : ByteArray) (w : World) (hlen : l.length ≤ 9223372036854775807) (h : SlAt w w.heap.size q (strs l)) :
    Calls Try.prog 18 #[.slice q l.length cap, .string s] w fun e w' => e = .returned (.int .i64 (idxFrom (fun u => decide (s = u)) l 0)) ∧ Ext w w' := by
  refine enter Try.func18 rfl Try.ntmps18 rfl (Cls.start w) ?_
  (simp only [argEnv, Nat.zero_add, Nat.reduceAdd])
  apply W.sr
  apply oas; rfl; rfl
  apply OL.nx
  apply W.seq
  apply W.sr
  apply omv; rfl; rfl
  apply oop; rfl; apply Pev.len_slice; rfl; exact yes; rfl
  apply omv; rfl; rfl
  apply OL.nx
  apply W.block
  refine W.loop (G := Nat) (fun i => i ≤ l.length ∧ idxFrom (fun u => decide (s = u)) (l.drop i) i = idxFrom (fun u => decide (s = u)) l 0) (fun i => l.length - i)
    (fun i => [(8, true, .int .i64 (i : Int)), (7, true, .int .i64 (l.length : Int)), (0, true, .slice q l.length cap), (1, true, .string s)])
    (fun i => Cls [] [w]) 0 ⟨by omega, rfl⟩ (by exact Sub.au) (fun w' hw' => hw') ?_
  rintro i ⟨hi, hrest⟩
  apply W.sr
  apply obn; rfl; rfl; rfl; apply Bin.lss
  apply OL.nx
  apply W.seq
  (refine W.cnd (fun hlt => ?_) (fun hlt => ?_)) <;> (try (exfalso; first | omega | exact hlt trivial | contradiction))
  · obtain ⟨a, u, rfl, hab, hu, hcell⟩ := h.str (show i < l.length by omega)
    rw [idxFrom_get hu] at hrest
    apply W.sk
    apply W.sb
    apply W.sr
    apply omv; rfl; rfl
    apply oas; rfl; rfl
    apply OL.nsr
    apply omv; rfl; rfl
    apply omv; rfl; rfl
    apply omv; rfl; rfl
    apply oop; rfl; apply Pev.idx; rfl; exact yes; rfl; exact yes; rfl; rfl; intro hcond; omega
    apply oop; rfl; apply Pev.load_kept; rfl; exact yes; exact .head _; rfl; intro hcond; assumption; intro hcond; (rw [add_block]; assumption); intro hcond; exact NotOwned.au
    apply obn; rfl; rfl; rfl; apply Bin.str_eql
    apply OL.nx
    (refine W.cnd (fun heq => ?_) (fun heq => ?_)) <;> (try (exfalso; first | omega | exact heq trivial | contradiction))
    · apply W.sr
      apply omv; rfl; rfl
      apply oas; rfl; rfl
      apply OL.nx
      refine W.rt ?_
      ((with_reducible apply At.fin1); rfl; rfl; intro w' hw')
      rw [if_pos (by simpa using heq)] at hrest
      exact ⟨by rw [hrest], by (exact hw'.fr)⟩
    · apply W.skip
      with_reducible apply At.in_normal
      with_reducible apply At.next
      apply W.reg
      apply obn; rfl; rfl; rfl; apply Bin.add_in; omega
      apply omv; rfl; rfl
      apply OL.nil
      rw [if_neg (by simpa using heq)] at hrest
      exact At.again (i + 1) ⟨by omega, hrest⟩ (by omega) (by exact Sub.au) (fun w' hw' => hw')
  · refine W.xt ?_
    with_reducible apply At.next
    apply W.sr
    apply oas; rfl; rfl
    apply OL.nx
    apply W.ret
    ((with_reducible apply At.fin1); rfl; rfl; intro w' hw')
    rw [idxFrom_end (by omega)] at hrest
    exact ⟨by rw [hrest], by (exact hw'.fr)⟩
theorem Contains_calls (q : Option Addr) (cap : Nat) (l : List ByteArray) (s : ByteArray) (w : World) (hlen : l.length ≤ 9223372036854775807) (h : SlAt w w.heap.size q (strs l)) :
    Calls Try.prog 7 #[.slice q l.length cap, .string s] w fun e w' => e = .returned (.bool (hasB l s)) ∧ Ext w w' := by
  refine enter Try.func7 rfl Try.ntmps7 rfl (Cls.start w) ?_
  (simp only [argEnv, Nat.zero_add, Nat.reduceAdd])
  apply W.sr
  apply oas; rfl; rfl
  apply OL.nsr
  apply omv; rfl; rfl
  apply omv; rfl; rfl
  (((first | (with_reducible apply OL.op) | (with_reducible apply QL.op)); (exact Guard.au); rfl; rfl); (exact Pev.call rfl (by exact Args.au) (fun _ w2 hw2 => (Index_calls q cap l s w2 hlen (h.keep (hw2.below (s := w) (by exact mau) (Nat.le_refl _) (fun k hk => by exact NotOwned.au)) (hw2.kp w (by exact mau)).size)).mono (fun e w3 h => ⟨h.1, hw2.ext h.2⟩))))
  apply obn; rfl; rfl; rfl; apply Bin.geq
  apply oas; rfl; rfl
  apply OL.nx
  apply W.ret
  ((with_reducible apply At.fin1); rfl; rfl; intro w' hw')
  exact ⟨by rw [idxFrom_nonneg]; rfl, by (exact hw'.fr)⟩
theorem has_calls (q : Option Addr) (cap : Nat) (l : List ByteArray) (s : ByteArray) (w : World) (hlen : l.length ≤ 9223372036854775807) (h : SlAt w w.heap.size q (strs l)) :
    Calls Try.prog 17 #[.slice q l.length cap, .string s] w fun e w' => e = .returned (.bool (hasB l s)) ∧ Ext w w' := by
  refine enter Try.func17 rfl Try.ntmps17 rfl (Cls.start w) ?_
  (simp only [argEnv, Nat.zero_add, Nat.reduceAdd])
  apply W.sr
  apply oas; rfl; rfl
  apply OL.nx
  apply W.seq
  apply W.sr
  apply omv; rfl; rfl
  apply oop; rfl; apply Pev.len_slice; rfl; exact yes; rfl
  apply omv; rfl; rfl
  apply OL.nx
  apply W.block
  refine W.loop (G := Nat) (fun i => i ≤ l.length ∧ hasB (l.drop i) s = hasB l s) (fun i => l.length - i)
    (fun i => [(9, true, .int .i64 (i : Int)), (8, true, .int .i64 (l.length : Int)), (7, true, .slice q l.length cap), (1, true, .string s)])
    (fun i => Cls [] [w]) 0 ⟨by omega, rfl⟩ (by exact Sub.au) (fun w' hw' => hw') ?_
  rintro i ⟨hi, hrest⟩
  apply W.sr
  apply obn; rfl; rfl; rfl; apply Bin.lss
  apply OL.nx
  apply W.seq
  (refine W.cnd (fun hlt => ?_) (fun hlt => ?_)) <;> (try (exfalso; first | omega | exact hlt trivial | contradiction))
  · have hil : i < l.length := by omega
    obtain ⟨a, u, rfl, hab, hu, hcell⟩ := h.str hil
    have hd : l.drop i = u :: l.drop (i + 1) := by
      rw [List.drop_eq_getElem_cons hil]
      rw [List.getElem?_eq_getElem hil] at hu
      rw [Option.some.inj hu]
    rw [hd] at hrest
    apply W.sk
    apply W.sb
    apply W.sr
    apply oop; rfl; apply Pev.idx; rfl; exact yes; rfl; exact yes; rfl; rfl; intro hcond; omega
    apply oop; rfl; apply Pev.load_kept; rfl; exact yes; exact .head _; rfl; intro hcond; assumption; intro hcond; (rw [add_block]; assumption); intro hcond; exact NotOwned.au
    apply oas; rfl; rfl
    apply OL.nsr
    apply omv; rfl; rfl
    apply omv; rfl; rfl
    apply obn; rfl; rfl; rfl; apply Bin.str_eql
    apply OL.nx
    (refine W.cnd (fun heq => ?_) (fun heq => ?_)) <;> (try (exfalso; first | omega | exact heq trivial | contradiction))
    · apply W.sr
      apply oas; rfl; rfl
      apply OL.nx
      refine W.rt ?_
      ((with_reducible apply At.fin1); rfl; rfl; intro w' hw')
      subst heq
      exact ⟨by rw [← hrest, hasB_cons]; simp, by (exact hw'.fr)⟩
    · apply W.skip
      with_reducible apply At.in_normal
      with_reducible apply At.next
      apply W.reg
      apply obn; rfl; rfl; rfl; apply Bin.add_in; omega
      apply omv; rfl; rfl
      apply OL.nil
      have hne : ¬ s = u := fun e => heq e.symm
      exact At.again (i + 1) ⟨by omega, by rw [← hrest, hasB_cons]; simp [hne]⟩ (by omega) (by exact Sub.au) (fun w' hw' => hw')
  · refine W.xt ?_
    with_reducible apply At.next
    apply W.sr
    apply oas; rfl; rfl
    apply OL.nx
    apply W.ret
    ((with_reducible apply At.fin1); rfl; rfl; intro w' hw')
    rw [List.drop_eq_nil_of_le (by omega)] at hrest
    exact ⟨by rw [← hrest]; rfl, by (exact hw'.fr)⟩
theorem IndexFunc_calls (q : Option Addr) (cap : Nat) (l : List ByteArray) (f : FuncId) (first caps : List Value) (p : ByteArray → Bool) (w : World) (hlen : l.length ≤ 9223372036854775807) (h : SlAt w w.heap.size q (strs l))
    (hf : callable Try.prog f = true) (hp : ∀ s ∈ l, ∀ w', Ext w w' → Calls Try.prog f (first ++ [Value.string s] ++ caps).toArray w' fun e w'' => e = .returned (.bool (p s)) ∧ Ext w' w'') :
    Calls Try.prog 26 #[.slice q l.length cap, .func (.func f) first.toArray caps.toArray] w fun e w' => e = .returned (.int .i64 (idxFrom p l 0)) ∧ Ext w w' := by
  refine enter Try.func26 rfl Try.ntmps26 rfl (Cls.start w) ?_
  (simp only [argEnv, Nat.zero_add, Nat.reduceAdd])
  apply W.sr
  apply oas; rfl; rfl
  apply OL.nx
  apply W.seq
  apply W.sr
  apply omv; rfl; rfl
  apply oop; rfl; apply Pev.len_slice; rfl; exact yes; rfl
  apply omv; rfl; rfl
  apply OL.nx
  apply W.block
  refine W.loop (G := Nat) (fun i => i ≤ l.length ∧ idxFrom p (l.drop i) i = idxFrom p l 0) (fun i => l.length - i)
    (fun i => [(8, true, .int .i64 (i : Int)), (7, true, .int .i64 (l.length : Int)), (0, true, .slice q l.length cap), (1, true, .func (.func f) first.toArray caps.toArray)])
    (fun i => Cls [] [w]) 0 ⟨by omega, rfl⟩ (by exact Sub.au) (fun w' hw' => hw') ?_
  rintro i ⟨hi, hrest⟩
  apply W.sr
  apply obn; rfl; rfl; rfl; apply Bin.lss
  apply OL.nx
  apply W.seq
  (refine W.cnd (fun hlt => ?_) (fun hlt => ?_)) <;> (try (exfalso; first | omega | exact hlt trivial | contradiction))
  · obtain ⟨a, u, rfl, hab, hu, hcell⟩ := h.str (show i < l.length by omega)
    rw [idxFrom_get hu] at hrest
    apply W.sk
    apply W.sb
    apply W.sr
    apply omv; rfl; rfl
    apply oas; rfl; rfl
    apply OL.nsr
    apply omv; rfl; rfl
    apply omv; rfl; rfl
    apply omv; rfl; rfl
    apply oop; rfl; apply Pev.idx; rfl; exact yes; rfl; exact yes; rfl; rfl; intro hcond; omega
    apply oop; rfl; apply Pev.load_kept; rfl; exact yes; exact .head _; rfl; intro hcond; assumption; intro hcond; (rw [add_block]; assumption); intro hcond; exact NotOwned.au
    (((first | (with_reducible apply OL.op) | (with_reducible apply QL.op)); (exact Guard.au); rfl; rfl); (apply Pev.callv (first := first) (cap := caps)); rfl; ((first | exact fun _ => rfl | exact fun h => h | (intro h; simp_all; done))); (exact hf); (exact Args.au); (exact (fun _ w2 hw2 => (hp u (List.mem_of_getElem? hu) w2 (hw2.toExt (by exact mau) (fun k hk => by exact NotOwned.au))).mono (fun e w3 h => ⟨h.1, hw2.ext h.2⟩))))
    apply OL.nx
    (refine W.cnd (fun heq => ?_) (fun heq => ?_)) <;> (try (exfalso; first | omega | exact heq trivial | contradiction))
    · apply W.sr
      apply omv; rfl; rfl
      apply oas; rfl; rfl
      apply OL.nx
      refine W.rt ?_
      ((with_reducible apply At.fin1); rfl; rfl; intro w' hw')
      rw [if_pos heq] at hrest
      exact ⟨by rw [hrest], by (exact hw'.fr)⟩
    · apply W.skip
      with_reducible apply At.in_normal
      with_reducible apply At.next
      apply W.reg
      apply obn; rfl; rfl; rfl; apply Bin.add_in; omega
      apply omv; rfl; rfl
      apply OL.nil
      rw [if_neg (by simpa using heq)] at hrest
      exact At.again (i + 1) ⟨by omega, hrest⟩ (by omega) (by exact Sub.au) (fun w' hw' => hw')
  · refine W.xt ?_
    with_reducible apply At.next
    apply W.sr
    apply oas; rfl; rfl
    apply OL.nx
    apply W.ret
    ((with_reducible apply At.fin1); rfl; rfl; intro w' hw')
    rw [idxFrom_end (by omega)] at hrest
    exact ⟨by rw [hrest], by (exact hw'.fr)⟩
theorem ContainsFunc_calls (q : Option Addr) (cap : Nat) (l : List ByteArray) (f : FuncId) (first caps : List Value) (p : ByteArray → Bool) (w : World) (hlen : l.length ≤ 9223372036854775807) (h : SlAt w w.heap.size q (strs l))
    (hf : callable Try.prog f = true) (hp : ∀ s ∈ l, ∀ w', Ext w w' → Calls Try.prog f (first ++ [Value.string s] ++ caps).toArray w' fun e w'' => e = .returned (.bool (p s)) ∧ Ext w' w'') :
    Calls Try.prog 14 #[.slice q l.length cap, .func (.func f) first.toArray caps.toArray] w fun e w' => e = .returned (.bool (l.any p)) ∧ Ext w w' := by
  refine enter Try.func14 rfl Try.ntmps14 rfl (Cls.start w) ?_
  (simp only [argEnv, Nat.zero_add, Nat.reduceAdd])
  apply W.sr
  apply oas; rfl; rfl
  apply OL.nsr
  apply omv; rfl; rfl
  apply omv; rfl; rfl
  (((first | (with_reducible apply OL.op) | (with_reducible apply QL.op)); (exact Guard.au); rfl; rfl); (exact Pev.call rfl (by exact Args.au) (fun _ w2 hw2 => (IndexFunc_calls q cap l f first caps p w2 hlen (h.keep (hw2.below (s := w) (by exact mau) (Nat.le_refl _) (fun k hk => by exact NotOwned.au)) (hw2.kp w (by exact mau)).size) hf (fun s hs w3 h3 => hp s hs w3 ((hw2.toExt (s := w) (by exact mau) (fun k hk => by exact NotOwned.au)).trans h3))).mono (fun e w3 h => ⟨h.1, hw2.ext h.2⟩))))
  apply obn; rfl; rfl; rfl; apply Bin.geq
  apply oas; rfl; rfl
  apply OL.nx
  apply W.ret
  ((with_reducible apply At.fin1); rfl; rfl; intro w' hw')
  exact ⟨by rw [idxFrom_nonneg], by (exact hw'.fr)⟩
end Go.Proofs.Ytgllgllbgojhfaa.mo

/- Plain: the order of strings, a module's imports by its name, the modules at a number of steps. No condition. -/
namespace Go.Proofs.Ytgllgllbgojhfaa.mo
open Go.RowKit Go.Eng Go.Mo Go.Mc
theorem lessL_eq : ∀ (x y : List UInt8), Op.bytesLess x y = decide (x < y)
  | [], [] => by simp [Op.bytesLess]
  | _ :: _, [] => by simp [Op.bytesLess]
  | [], _ :: _ => by simp [Op.bytesLess]
  | a :: x, b :: y => by
    rw [Op.bytesLess, lessL_eq x y]
    simp only [List.cons_lt_cons_iff]
    by_cases h1 : a < b <;> by_cases h2 : a = b <;> by_cases h3 : x < y <;> simp [h1, h2, h3]
def ltS (a b : ByteArray) : Prop := a.data.toList < b.data.toList
instance (a b : ByteArray) : Decidable (ltS a b) := by unfold ltS; infer_instance
theorem data_inj {a b : ByteArray} (h : a.data.toList = b.data.toList) : a = b := by
  apply ByteArray.ext
  exact Array.toList_inj.1 h
theorem ltS_tot : Tot ltS where
  irr := fun a h => List.lt_irrefl _ h
  trn := fun a b c h k => List.lt_trans h k
  tri := fun a b => by
    unfold ltS
    by_cases h1 : a.data.toList < b.data.toList
    · exact .inl h1
    · by_cases h2 : b.data.toList < a.data.toList
      · exact .inr (.inr h2)
      · exact .inr (.inl (data_inj (List.le_antisymm (List.not_lt.1 h2) (List.not_lt.1 h1))))
theorem less_ltS (a b : ByteArray) : Op.bytesLess a.toList b.toList = decide (ltS a b) := by
  rw [lessL_eq, ByteArray.toList_eq, ByteArray.toList_eq]
  rfl
theorem less_or (s u : ByteArray) : (Op.bytesLess s.toList u.toList || s.toList == u.toList) = !decide (ltS u s) := by
  rw [less_ltS, bytes_beq]
  rcases ltS_tot.tri s u with h | h | h
  · have h2 : ¬ ltS u s := fun k => ltS_tot.irr s (ltS_tot.trn _ _ _ h k)
    simp [h, h2]
  · subst h
    simp [ltS_tot.irr s]
  · have h2 : ¬ ltS s u := fun k => ltS_tot.irr s (ltS_tot.trn _ _ _ k h)
    have h3 : ¬ s = u := fun e => by subst e; exact ltS_tot.irr s h
    simp [h, h2, h3]
theorem leqS {P : Program} {t : TypeId} {s u : ByteArray} : Bin P .leq t (.string s) (.string u) (.bool (!decide (ltS u s))) := bin_str (by simp only [binOp, Op.stringOp, less_or])
theorem gtrS {P : Program} {t : TypeId} {s u : ByteArray} : Bin P .gtr t (.string s) (.string u) (.bool (decide (ltS u s))) := bin_str (by simp only [binOp, Op.stringOp, less_or, Bool.not_not])
theorem lssS {P : Program} {t : TypeId} {s u : ByteArray} : Bin P .lss t (.string s) (.string u) (.bool (decide (ltS s u))) := bin_str (by simp only [binOp, Op.stringOp, less_ltS])
theorem toList_inj {a b : ByteArray} : a.toList = b.toList ↔ a = b := by
  rw [ByteArray.toList_eq, ByteArray.toList_eq]
  exact ⟨data_inj, fun h => by rw [h]⟩
theorem srtS_mem {xs : List ByteArray} {x : ByteArray} : x ∈ srtS xs ↔ x ∈ xs := by
  unfold srtS
  rw [← bss_mem, bss_ssb, srt_mem, bss_mem]
theorem cmpS_mem {xs : List ByteArray} {x : ByteArray} : x ∈ cmpS (srtS xs) ↔ x ∈ xs := by
  unfold cmpS
  rw [← bss_mem, bss_ssb]
  unfold srtS
  rw [bss_ssb, (compact_spec (srt_sorted (bss xs))).1, srt_mem, bss_mem]
theorem bss_nodup {l : List ByteArray} (h : (bss l).Nodup) : l.Nodup := by
  unfold bss at h
  rw [List.Nodup, List.pairwise_map] at h
  exact h.imp fun hab e => hab (by rw [e])
theorem cmpS_nodup (xs : List ByteArray) : (cmpS (srtS xs)).Nodup := by
  refine bss_nodup ?_
  unfold cmpS srtS
  rw [bss_ssb, bss_ssb]
  exact (compact_spec (srt_sorted (bss xs))).2.1
theorem srtS_pair (xs : List ByteArray) : (srtS xs).Pairwise (fun a b => ¬ ltS b a) := by
  unfold srtS ssb
  rw [List.pairwise_map]
  refine (srt_sorted (bss xs)).imp fun {x y} h => ?_
  unfold ltS
  simpa using h
/-! a module's imports -/
def ix (l : List ByteArray) (s : ByteArray) : Nat := (idxFrom (fun u => decide (s = u)) l 0).toNat
theorem idx_of {s : ByteArray} : ∀ {l : List ByteArray} (k : Nat), s ∈ l → ∃ j, idxFrom (fun u => decide (s = u)) l k = ((k + j : Nat) : Int) ∧ l[j]? = some s
  | [], _, h => by cases h
  | u :: l, k, h => by
    rw [idxFrom]
    by_cases e : s = u
    · subst e
      exact ⟨0, by simp, rfl⟩
    · rcases List.mem_cons.1 h with h | h
      · exact absurd h e
      · obtain ⟨j, h1, h2⟩ := idx_of (k + 1) h
        refine ⟨j + 1, ?_, h2⟩
        rw [if_neg (by simpa using e), h1]
        omega
theorem ix_of {l : List ByteArray} {s : ByteArray} (h : s ∈ l) : idxFrom (fun u => decide (s = u)) l 0 = (ix l s : Int) ∧ l[ix l s]? = some s := by
  obtain ⟨j, h1, h2⟩ := idx_of 0 h
  rw [Nat.zero_add] at h1
  have : ix l s = j := by unfold ix; rw [h1]; rfl
  rw [this]
  exact ⟨h1, h2⟩
def impS (l : List ByteArray) (ll : List (List ByteArray)) (s : ByteArray) : List ByteArray := ll.getD (ix l s) []
theorem imp_row {l : List ByteArray} {ll : List (List ByteArray)} (hll : ll.length = l.length) {s : ByteArray} (h : s ∈ l) : ix l s < ll.length ∧ ll[ix l s]? = some (impS l ll s) := by
  have h1 := (List.getElem?_eq_some_iff.1 (ix_of h).2).1
  refine ⟨by omega, ?_⟩
  unfold impS
  rw [List.getD_eq_getElem?_getD, List.getElem?_eq_getElem (by omega)]
  rfl
theorem imp_in {l : List ByteArray} {ll : List (List ByteArray)} (hc : chk l ll = 0) (s : ByteArray) : ∀ m ∈ impS l ll s, m ∈ l := fun m hm => by
  obtain ⟨j, hj, rfl⟩ := (chk_nodup hc).2 _ m hm
  exact nm_mem hj
theorem names_nodup {l : List ByteArray} {ll : List (List ByteArray)} (hc : chk l ll = 0) {i j : Nat} {s : ByteArray} (hi : l[i]? = some s) (hj : l[j]? = some s) : i = j := by
  have h1 := (List.getElem?_eq_some_iff.1 hi).1
  have h2 := (List.getElem?_eq_some_iff.1 hj).1
  refine (chk_nodup hc).1 i j h1 h2 ?_
  unfold nm
  rw [getD_of hi, getD_of hj]
/-! the modules at a number of steps -/
def hereP (l : List ByteArray) (ll : List (List ByteArray)) (frm : ByteArray) : Nat → List ByteArray
  | 0 => [frm]
  | k + 1 => cmpS (srtS ((hereP l ll frm k).flatMap (impS l ll)))
def reachP (l : List ByteArray) (ll : List (List ByteArray)) (frm to : ByteArray) (n : Nat) : Bool := (List.range n).any fun k => hasB (hereP l ll frm (k + 1)) to
theorem reachP_succ (l : List ByteArray) (ll : List (List ByteArray)) (frm to : ByteArray) (n : Nat) : reachP l ll frm to (n + 1) = (reachP l ll frm to n || hasB (hereP l ll frm (n + 1)) to) := by
  simp [reachP, List.range_succ]
theorem here_in {l : List ByteArray} {ll : List (List ByteArray)} (hc : chk l ll = 0) {frm : ByteArray} (hf : frm ∈ l) : ∀ k, (hereP l ll frm k).Nodup ∧ ∀ x ∈ hereP l ll frm k, x ∈ l
  | 0 => ⟨by simp [hereP], fun x hx => by rw [List.mem_singleton.1 hx]; exact hf⟩
  | k + 1 => by
    refine ⟨cmpS_nodup _, fun x hx => ?_⟩
    obtain ⟨s, _, hm⟩ := List.mem_flatMap.1 (cmpS_mem.1 hx)
    exact imp_in hc s x hm
theorem reach_ok {l : List ByteArray} {ll : List (List ByteArray)} (a b : ByteArray) (x : List ByteArray) (hch : Chn (impS l ll) (a :: x)) (hb : b ∈ impS l ll (lastOf a x)) : reachP l ll a b (x.length + 1) = true := by
  have h1 := here_of (he := hereP l ll a) (k := 0) (frm := a) (.head _) (fun k s x hs hx => cmpS_mem.2 (List.mem_flatMap.2 ⟨s, hs, hx⟩)) (x := x) (a := a) (.head _) hch hb
  rw [Nat.zero_add] at h1
  rw [reachP_succ, hasB_iff.2 h1, Bool.or_true]
theorem flat_len {l : List ByteArray} {ll : List (List ByteArray)} (hsm : ∀ m ∈ ll, m.length ≤ 1048576) : ∀ hs : List ByteArray, (hs.flatMap (impS l ll)).length ≤ hs.length * 1048576
  | [] => by simp
  | s :: r => by
    rw [List.flatMap_cons, List.length_append, List.length_cons]
    have h1 := flat_len (l := l) hsm r
    have h2 : (impS l ll s).length ≤ 1048576 := by
      unfold impS
      rw [List.getD_eq_getElem?_getD]
      cases h : ll[ix l s]? with
      | none => simp
      | some m => exact hsm m (List.mem_of_getElem? h)
    omega
/-! the comparison of lists -/
def lessB : List ByteArray → List ByteArray → Bool
  | a :: r, b :: s => if a = b then lessB r s else decide (ltS a b)
  | _, _ => false
theorem lessB_iff : ∀ {a b : List ByteArray}, lessB a b = true ↔ lexL ltS a b
  | [], b => by cases b <;> simp [lessB, lexL]
  | a :: r, [] => by simp [lessB, lexL]
  | a :: r, b :: s => by
    rw [lessB, lexL]
    by_cases e : a = b
    · subst e
      rw [if_pos rfl, lessB_iff]
      exact ⟨fun h => .inr ⟨rfl, h⟩, fun h => h.elim (fun h => absurd h (ltS_tot.irr a)) And.right⟩
    · rw [if_neg e, decide_eq_true_eq]
      exact ⟨.inl, fun h => h.elim id fun h => absurd h.1 e⟩
def btS (c d : List ByteArray) : Bool := decide (c.length < d.length) || (decide (c.length = d.length) && lessB c d)
theorem btS_iff (c d : List ByteArray) : btS c d = true ↔ better ltS c d := by
  unfold btS better
  rw [Bool.or_eq_true, Bool.and_eq_true, decide_eq_true_eq, decide_eq_true_eq, lessB_iff]
def cycP (l : List ByteArray) (ll : List (List ByteArray)) : Option (List ByteArray) := cycS ltS (fun s => srtS (impS l ll s)) (reachP l ll) (srtS l) 0 l.length
def bestP (l : List ByteArray) (ll : List (List ByteArray)) : Option (List ByteArray) := (l.flatMap fun s => cyclesR ltS l (impS l ll) 6 [s]).foldl (stepB btS) none
theorem cyc_eq {l : List ByteArray} {ll : List (List ByteArray)} (hc : chk l ll = 0) (h6 : l.length ≤ 6) : cycP l ll = bestP l ll :=
  BestIn.uniq ltS_tot
    (cyc_best (names := l) (imp := impS l ll) ltS_tot (srtS_pair l) (fun m => srtS_mem) (fun a _ => srtS_pair _) (fun a _ m => srtS_mem) (fun a _ => imp_in hc a) (fun a b x _ => reach_ok a b x) l.length 0 (by omega) (fun c hc => hc.len.1))
    (ref_best ltS_tot btS_iff 6 h6)
end Go.Proofs.Ytgllgllbgojhfaa.mo

/- A drawn region whose pure operations look at a part of memory alone (the same as in SbI, which is not imported beside this). General. No condition. -/
namespace Go.Eng
open Go.RowKit
theorem AllLe.of {k : Nat} : ∀ {S : List World}, (∀ s ∈ S, s.heap.size ≤ k) → AllLe S k
  | [], _ => trivial
  | s :: S, h => ⟨h s (.head _), AllLe.of fun x hx => h x (.tail _ hx)⟩
section
variable {P : Program} {n : Nm} {l : Env} {H : List Item} {S : List World} {ops : Array Oper} {rest : List Oper} {Q : Exit → Act → World → Prop} {t ty : TypeId} {pos : String} {af : Array Edge}
/-- a part of what is owned -/
theorem Cls.sub {w : World} {L : List Item} (h : Cls H S w) (hs : L.Sublist H) : Cls L [] w where
  holds := fun j hj => h.holds _ (hs.subset hj)
  lt := fun j hj => h.lt _ (hs.subset hj)
  dj := h.dj.sublist hs
  kp := fun s hs => by cases hs
theorem Cls.onlyI {w : World} {i : Item} (h : Cls H S w) (hi : i ∈ H) : Cls [i] [] w where
  holds := fun j hj => by obtain rfl := List.mem_singleton.1 hj; exact h.holds _ hi
  lt := fun j hj => by obtain rfl := List.mem_singleton.1 hj; exact h.lt _ hi
  dj := List.pairwise_singleton _ _
  kp := fun s hs => by cases hs
variable {C C0 : World → Prop} {x y : List (Nat × Oper)}
/-- as W.regz, where the pure operations look at a part of memory alone -/
theorem W.regzC {id : Nat} {l0 : List Oper} (hs : ZSplit 0 [] l0 x y) (hm : P.follows .mixedOrders = true) (hB : zB l0.toArray (x.map (·.1)) (y.map (·.1)) = true) (hC : ∀ w, C w → C { w with drawn := w.drawn + 1 }) (hC0 : ∀ w, C w → C0 w)
    (h : ZL P n l0.toArray C0 (fun a' => ∀ w', C w' → wpT P l0.toArray C0 (needZ l0.toArray (x.map (·.1))) (NoPanic Q) y a' w') x l) : W P n (.region id l0.toArray true) Q l C := ⟨fun a w hs' hc => by
  simp only [zB, Bool.and_eq_true] at hB
  obtain ⟨h1, h2, h3⟩ := hB
  obtain ⟨hx, hy, hlen⟩ := hs.spec
  refine wpp_region_any hm (wpAny_np _ _ _ _ (wpAny_of_Z (C0 := C0) (need := needZ l0.toArray (x.map (·.1))) _ _ _ _ ?_))
  have key := wpZ_pre (P := P) (ops := l0.toArray) (C0 := C0) (Q := NoPanic Q) (xi0 := x.map (·.1)) (f := y.length) (w := { w with drawn := w.drawn + 1 }) h1 (fun _ _ _ h => h) (hC0 _ (hC w hc)) x (Array.replicate l0.toArray.size false) a
    (fun p hp => ⟨List.mem_map.2 ⟨p, hp, rfl⟩, by have := (hx p hp).2.1; simpa using this⟩) (fun j o _ hj => by rw [getD_rep] at hj; cases hj) h2 (h.run a hs')
    (fun a' hK => wpZ_seq y _ a' _ h3 (hK _ (hC w hc)))
  have e : x.length + y.length = l0.toArray.size := by simpa using hlen
  exact (congrArg (fun s => wpZ P l0.toArray C0 (needZ l0.toArray (x.map (·.1))) (NoPanic Q) s (Array.replicate l0.toArray.size false) a { w with drawn := w.drawn + 1 }) e).mp key⟩
theorem ZL.nilC {need : Nat → Bool} (h : TL P n ops C0 need Q y l C) : ZL P n ops C0 (fun a' => ∀ w', C w' → wpT P ops C0 need Q y a' w') [] l := ⟨fun a hs w hc => h.run a w hs hc⟩
end
end Go.Eng

/- A range over a function: the call of yield, a round, the statement, and the end of a function that holds one. General. No condition. -/
namespace Go.Eng
open Go.RowKit
/-- a loop's record -/
def setL (rc : Loop) (s : LoopState) (p : Option Code) : Loop := { rc with state := s, pending := p }
def lpI (lp : Nat) (rc : Loop) : Item := ⟨fun k => k = lp, fun w => w.heap[lp]? = some (.loop rc), fun w w' hk h => (hk lp rfl).trans h⟩
/-- the block for the rounds' deferred calls -/
def mkI (D : Nat) : Item := ⟨fun k => k = D, fun w => w.heap[D]? = some (.deferred (some [])), fun w w' hk h => (hk D rfl).trans h⟩
/-- all such blocks so far -/
def mks (B : Nat) (Ds : List Nat) : Item := ⟨fun k => k ∈ Ds, fun w => Ds.Nodup ∧ ∀ D ∈ Ds, B ≤ D ∧ w.heap[D]? = some (.deferred (some [])), fun w w' hk h => ⟨h.1, fun D hD => ⟨(h.2 D hD).1, (hk D hD).trans (h.2 D hD).2⟩⟩⟩
/-- they are shut -/
def mksN (B : Nat) (Ds : List Nat) : Item := ⟨fun k => k ∈ Ds, fun w => ∀ D ∈ Ds, B ≤ D, fun w w' hk h => h⟩
abbrev yv (lp : Nat) : Value := .func (.yield lp) #[] #[]
/-- those of Es are shut -/
def mksE (B : Nat) (Es Ds : List Nat) : Item := ⟨fun k => k ∈ Es ++ Ds, fun w => (Es ++ Ds).Nodup ∧ (∀ E ∈ Es ++ Ds, B ≤ E) ∧ ∀ E ∈ Ds, w.heap[E]? = some (.deferred (some [])), fun w w' hk h => ⟨h.1, h.2.1, fun E hE => (hk E (List.mem_append_right _ hE)).trans (h.2.2 E hE)⟩⟩
def dMark (D : Nat) : Deferred := { target := .collected D, args := #[] }
section
variable {P : Program} {n : Nm} {l : Env} {H : List Item} {S : List World} {C : World → Prop} {ops : Array Oper} {rest : List Oper} {Q : Exit → Act → World → Prop} {ty : TypeId} {pos : String} {af : Array Edge} {x : Operand}
theorem NotOwned.mks {B k : Nat} {Ds : List Nat} (h : k ∉ Ds) (r : NotOwned H k) : NotOwned (Eng.mks B Ds :: H) k := NotOwned.any h r
theorem Hole.other {p : Nat} {i : Item} {F : Item → List Item} (h : Hole p H i F) (j : Item) : Hole p (F j) j F := by
  induction h with
  | z => exact .z
  | s _ ih => exact .s ih
theorem Cls.mks_nil {w : World} (h : Cls H S w) (B : Nat) : Cls (mks B [] :: H) S w :=
  h.add (Keep.refl _ w) _ ⟨.nil, fun D hD => by cases hD⟩ (fun k hk => by cases hk)
theorem Cls.mks_in {w : World} {B D : Nat} {Ds : List Nat} (h : Cls (mkI D :: mks B Ds :: H) S w) (hB : B ≤ D) : Cls (mks B (D :: Ds) :: H) S w := by
  have hd := h.dj
  rw [List.pairwise_cons, List.pairwise_cons] at hd
  obtain ⟨h1, h2, h3⟩ := hd
  have a1 := h.holds (mkI D) (.head _)
  have a2 := h.holds (mks B Ds) (.tail _ (.head _))
  refine ⟨fun j hj => ?_, fun j hj => ?_, List.pairwise_cons.2 ⟨fun j hj k hk hjk => ?_, h3⟩, fun s hs => (h.kp s hs).mono fun k _ ⟨j, hj, hk⟩ => ?_⟩
  · rcases List.mem_cons.1 hj with rfl | hj
    · refine ⟨List.nodup_cons.2 ⟨fun hm => h1 _ (.head _) D rfl hm, a2.1⟩, fun E hE => ?_⟩
      rcases List.mem_cons.1 hE with rfl | hE
      · exact ⟨hB, a1⟩
      · exact a2.2 E hE
    · exact h.holds j (.tail _ (.tail _ hj))
  · rcases List.mem_cons.1 hj with rfl | hj
    · intro k hk
      rcases List.mem_cons.1 hk with rfl | hk
      · exact h.lt _ (.head _) _ rfl
      · exact h.lt _ (.tail _ (.head _)) k hk
    · exact h.lt j (.tail _ (.tail _ hj))
  · rcases List.mem_cons.1 hk with rfl | hk
    · exact h1 j (.tail _ hj) _ rfl hjk
    · exact h2 j hj k hk hjk
  · rcases List.mem_cons.1 hj with rfl | hj
    · exact ⟨_, .head _, by rw [show k = D from hk]; exact .head _⟩
    · rcases List.mem_cons.1 hj with rfl | hj
      · exact ⟨_, .head _, .tail _ hk⟩
      · exact ⟨j, .tail _ hj, hk⟩
/-- a block that is turned is an item's own -/
theorem Cls.putO {F : Item → List Item} {w : World} {p k : Nat} {i j : Item} {o : Obj} (h : Cls H S w) (hH : Hole p H i F) (hi : i.own k) (hk : k < w.heap.size) (hj : j.holds (w.putObj k o)) (ho : ∀ q, j.own q → i.own q) (ho2 : ∀ q, i.own q → j.own q) : Cls (F j) S (w.putObj k o) := by
  obtain ⟨hp, hF⟩ := hH.eq
  rw [hF]
  have hsz : (w.putObj k o).heap.size = w.heap.size := by simp [World.putObj]
  refine h.turn p hp (j := j) ⟨rfl, rfl, rfl, by rw [hsz]; exact Nat.le_refl _, fun q hq hn => World.putObj_heap_other (fun e => hn (by rw [e]; exact hi))⟩ hj (fun q hq => ⟨.inl (ho q hq), by rw [hsz]; exact h.lt _ (List.mem_of_getElem? hp) q (ho q hq)⟩) ho2
/-! ### The call of yield -/
/-- a call of yield in the middle of a region -/
def YQ (P : Program) (ops : Array Oper) (Q : Exit → Act → World → Prop) (o : Oper) (post : List Oper) : Exit → Act → World → Prop := fun e a w => match e with
  | .normal => ∃ lp args, o.guard = none ∧ (∀ c, o.op ≠ .defer c) ∧ (execOp a.eval o).run P w = (Instr.yield lp args).run P w ∧ YieldAt Fence.wide 0 P lp args w fun e' w' => ∃ v, e' = .returned v ∧ wpList P ops Q post (a.put o.dst v) w'
  | e => Q e a w
theorem yieldAt_mono {F : Fence} {m lp : Nat} {args : Array Value} {w : World} {R R' : Ending → World → Prop} (h : YieldAt F m P lp args w R) (hr : ∀ e w, R e w → R' e w) : YieldAt F m P lp args w R' := by
  obtain ⟨fn, tmps, assign, body, hy, hR⟩ := h
  exact ⟨fn, tmps, assign, body, hy, hR.mono hr⟩
inductive CutN : Nat → List Oper → List Oper → Oper → List Oper → Prop where
  | z {o : Oper} {r : List Oper} : CutN 0 (o :: r) [] o r
  | s {k : Nat} {x o : Oper} {r pre post : List Oper} (h : CutN k r pre o post) : CutN (k + 1) (x :: r) (x :: pre) o post
theorem CutN.eq {k : Nat} {l0 pre post : List Oper} {o : Oper} (h : CutN k l0 pre o post) : l0 = pre ++ o :: post := by
  induction h with
  | z => rfl
  | s _ ih => rw [ih]; rfl
theorem W.regY {id : Nat} (k : Nat) {l0 pre post : List Oper} {o : Oper} (hc : CutN k l0 pre o post) (h : OL P n l0.toArray (YQ P l0.toArray Q o post) pre l C) : W P n (.region id l0.toArray false) Q l C := ⟨fun a w hs hC hp b k cs hro _ _ => by
  have hl := hc.eq
  have h1 := h.run a w hs hC
  have hsz : l0.toArray.size = pre.length + (post.length + 1) := by rw [List.size_toArray, hl, List.length_append, List.length_cons]
  have hrange : List.range l0.toArray.size = List.range' 0 pre.length ++ pre.length :: List.range' (pre.length + 1) post.length := by
    rw [List.range_eq_range', hsz, ← List.range'_append_1, Nat.zero_add, List.range'_succ]
  have hops : ∀ j, l0.toArray[j]? = (pre ++ o :: post)[j]? := fun j => by rw [List.getElem?_toArray, hl]
  have hwl := wpOps_of_list (P := P) (ops := l0.toArray) (Q := YQ P l0.toArray Q o post) pre 0 (fun j hj => by rw [hops, Nat.zero_add, List.getElem?_append_left hj]) a w h1
  have key := wpp_ops2 (r := n.r) (P := P) (Q := Q) (ops := l0.toArray) (Y := YQ P l0.toArray Q o post) (pre.length :: List.range' (pre.length + 1) post.length) ?_ (fun e a w hne hy => by cases e <;> first | exact hy | exact absurd rfl hne) (List.range' 0 pre.length) a w hwl hp b k cs hro
  · obtain ⟨e, a', w', hq, harr⟩ := key
    refine ⟨e, a', w', hq, .of_steps (.one (fencedR _ _ _) stepR_region) ?_⟩
    rw [hrange]
    exact harr
  · rintro a w ⟨lp, args, hg, hdf, hrun, fn, tmps, assign, body, hy, hF, hR⟩ b k cs hro
    have ho : l0.toArray[pre.length]? = some o := by rw [hops]; simp
    have hw : Region.wanted o (yielded l0.toArray a.tmps) = true := by simp [Region.wanted, hg]
    have hsem : o.semAt b.roundOf a.eval = execOp a.eval o := Oper.semAt_eq _ _ _ hdf
    have hgo := stepGR_op (P := P) (b := b) (k := k) (cs := cs) (w := w) (rest := List.range' (pre.length + 1) post.length) ho hw
    rw [hsem] at hgo
    have hfin : ∀ v, (b.atR a (.inRegion l0.toArray (pre.length :: List.range' (pre.length + 1) post.length) :: k)).finish v = b.atR (a.put o.dst v) (.inRegion l0.toArray (List.range' (pre.length + 1) post.length) :: k) := by
      intro v; rw [Frame.finish_atR, ho]; rfl
    have henter : step P (lone (b.atR a (.inRegion l0.toArray (pre.length :: List.range' (pre.length + 1) post.length) :: k)) cs w) =
        .next (lone (Frame.round lp fn tmps assign body .normal) (b.atR a (.inRegion l0.toArray (pre.length :: List.range' (pre.length + 1) post.length) :: k) :: cs) w) :=
      step_lone_go (by rw [hgo]; simp [stepG.apply, hrun, hy, Frame.atR])
    obtain ⟨e, w', ⟨v, rfl, hwl⟩, hsteps⟩ := hR (b.atR a (.inRegion l0.toArray (pre.length :: List.range' (pre.length + 1) post.length) :: k)) cs (room_wide _)
    have hpost := wpOps_of_list (P := P) (ops := l0.toArray) (Q := Q) post (pre.length + 1) (fun j hj => by rw [hops, List.getElem?_append_right (by omega), show pre.length + 1 + j - pre.length = j + 1 by omega, List.getElem?_cons_succ]) _ _ hwl
    obtain ⟨e2, a2, w2, hq, harr⟩ := wpp_ops (r := n.r) _ _ _ hpost hp b k cs hro
    refine ⟨e2, a2, w2, hq, .of_steps (.head (fencedR _ _ _) henter ?_) harr⟩
    rw [← hfin]
    exact hsteps⟩
theorem At.yield {α : Type} (V : α → Bool) (Φ : α → Prop) (C' : α → World → Prop) {lp dd : Nat} {args : List Operand} {vs : List Value} {ats : Array TypeId} {post : List Oper} (hx : evl l x = some (true, .func (.yield lp) #[] #[])) (hn : Nat.ble (dd + 1) n.n = true) (ha : Args l true args vs)
    (h : ∀ w, C w → YieldAt Fence.wide 0 P lp vs.toArray w fun e w' => ∃ u, e = .returned (.bool (V u)) ∧ Φ u ∧ C' u w')
    (k : ∀ u, Φ u → OL P n ops Q post ((dd, true, .bool (V u)) :: l) (C' u)) : At n (YQ P ops Q ⟨some dd, .call { callee := .value x, args := args.toArray, argTypes := ats }, ty, pos, af, none⟩ post) .normal l C := ⟨fun a w hs hC => by
  have hn' := Nat.le_of_ble_eq_true hn
  refine ⟨lp, vs.toArray, rfl, (fun c hc => by cases hc), ?_, yieldAt_mono (h w hC) ?_⟩
  · have h1 := hs.eval hx rfl
    have h2 := ha.map hs rfl
    have h3 : (args.toArray.map a.eval) = vs.toArray := by rw [List.map_toArray, h2]
    simp only [execOp, resolve, h1, h3, Sem.run_bind, Sem.run_pure, Result.andThen_ok, invoke]
    simp [go_sem]
  · rintro e w' ⟨u, rfl, hu, hc⟩
    exact ⟨_, rfl, (k u hu).run _ w' (hs.put hn' true _) hc⟩⟩
/-! ### A round -/
/-- between a round's assignment and its body -/
def BegQ (P : Program) (lp : Nat) (body : Code) (R : Ending → World → Prop) : Exit → Act → World → Prop := fun e a w => match e with
  | .normal => ∃ w2, (Instr.beginRound lp).run P w = .ok () w2 ∧ wpp (some lp) P body (roundPost P lp R) a w2
  | _ => False
theorem Cls.loopTo {w : World} {p lp : Nat} {rc rc' : Loop} {F : Item → List Item} (h : Cls H S w) (hH : Hole p H (lpI lp rc) F) : Cls (F (lpI lp rc')) S (w.putObj lp (.loop rc')) := by
  have hi := h.item (List.mem_of_getElem? hH.eq.1)
  have hlt := h.lt _ (List.mem_of_getElem? hH.eq.1) lp rfl
  exact h.putO hH rfl hlt (World.putObj_heap_same hlt) (fun q hq => hq) (fun q hq => hq)
theorem At.begin {p lp m : Nat} {M : List Deferred} {rc : Loop} {F : Item → List Item} {body : Code} {R : Ending → World → Prop} (hH : Hole p H (lpI lp (setL rc .ready none)) F) (h : W P ⟨m, M, some lp⟩ body (roundPost P lp R) l (Cls (F (lpI lp (setL rc .busy none))) S)) :
    At ⟨m, M, some lp⟩ (BegQ P lp body R) .normal l (Cls H S) := ⟨fun a w hs hc => by
  have hi := hc.item (List.mem_of_getElem? hH.eq.1)
  exact ⟨_, run_beginRound hi rfl, h.run a _ ⟨hs.df, hs.sz, hs.at_⟩ (hc.loopTo hH)⟩⟩
theorem At.round {p lp m : Nat} {M : List Deferred} {rc : Loop} {F : Item → List Item} {R : Ending → World → Prop} (hH : Hole p H (lpI lp (setL rc .busy none)) F) (h : ∀ w, Cls (F (lpI lp (setL rc .ready none))) S w → R (.returned (.bool true)) w) :
    At ⟨m, M, some lp⟩ (roundPost P lp R) .normal l (Cls H S) := ⟨fun a w hs hc => by
  have hi := hc.item (List.mem_of_getElem? hH.eq.1)
  exact ⟨_, _, run_endRound none hi, h _ (hc.loopTo hH)⟩⟩
theorem At.roundR {p lp m : Nat} {M : List Deferred} {rc : Loop} {F : Item → List Item} {R : Ending → World → Prop} (hH : Hole p H (lpI lp (setL rc .busy none)) F) (h : ∀ w, Cls (F (lpI lp (setL rc .done (some .ret)))) S w → R (.returned (.bool false)) w) :
    At ⟨m, M, some lp⟩ (roundPost P lp R) .ret l (Cls H S) := ⟨fun a w hs hc => by
  have hi := hc.item (List.mem_of_getElem? hH.eq.1)
  exact ⟨_, _, run_endRound (some .ret) hi, h _ (hc.loopTo hH)⟩⟩
theorem At.roundX {p lp m id : Nat} {M : List Deferred} {rc : Loop} {F : Item → List Item} {R : Ending → World → Prop} (hH : Hole p H (lpI lp (setL rc .busy none)) F) (h : ∀ w, Cls (F (lpI lp (setL rc .done (some (.exit id))))) S w → R (.returned (.bool false)) w) :
    At ⟨m, M, some lp⟩ (roundPost P lp R) (.exit id) l (Cls H S) := ⟨fun a w hs hc => by
  have hi := hc.item (List.mem_of_getElem? hH.eq.1)
  exact ⟨_, _, run_endRound (some (.exit id)) hi, h _ (hc.loopTo hH)⟩⟩
/-! ### The statement -/
/-- the parameters with their values -/
def zipE : List Nat → List Value → Env → Env
  | p :: ps, v :: vs, l => zipE ps vs ((p, true, v) :: l)
  | _, _, l => l
def foldT (t : Array Value) (q : List (Nat × Value)) : Array Value := q.foldl (fun t (p, v) => t.setIfInBounds p v) t
theorem sees_zip {m : Nat} {M : List Deferred} {r : Option Nat} : ∀ (ps : List Nat) (vs : List Value) (l : Env) (a : Act), (∀ p ∈ ps, Nat.ble (p + 1) m = true) → Sees ⟨m, M, r⟩ l a → Sees ⟨m, M, r⟩ (zipE ps vs l) { a with tmps := foldT a.tmps (ps.zip vs) }
  | [], _, l, a, _, h => by simpa [zipE, foldT] using h
  | p :: ps, [], l, a, _, h => by simpa [zipE, foldT] using h
  | p :: ps, v :: vs, l, a, hb, h => by
    have h1 := h.put (Nat.le_of_ble_eq_true (hb p (.head _))) true v
    exact sees_zip ps vs _ _ (fun q hq => hb q (.tail _ hq)) h1
/-- what a round does: where it goes on, where it stops -/
def RdR (S : List World) {σ : Type} (I : σ → List Item) (B : σ → List Value → σ → Prop) (Z : Code → σ → Prop) (lp D : Nat) (rc : Loop) (x : σ) (vs : List Value) : Ending → World → Prop := fun e w =>
  (∃ x', e = .returned (.bool true) ∧ B x vs x' ∧ Cls (lpI lp (setL rc .ready none) :: mkI D :: I x') S w) ∨ (∃ c x', e = .returned (.bool false) ∧ Z c x' ∧ Cls (lpI lp (setL rc .done (some c)) :: mkI D :: I x') S w)
/-- an iterator's contract: it calls yield with what A allows, the rounds go from state to state, and at its end E holds or a round has stopped it -/
def Iter (P : Program) (gf : FuncId) (first cap : List Value) (S : List World) {σ : Type} (I : σ → List Item) (A : σ → List Value → Prop) (B : σ → List Value → σ → Prop) (E : σ → Prop) (x0 : σ) : Prop :=
  ∀ (lp D : Nat) (rc : Loop) (Z : Code → σ → Prop), AllLe S lp → AllLe S D →
    (∀ x vs w, A x vs → Cls (lpI lp (setL rc .ready none) :: mkI D :: I x) S w → YieldAt Fence.wide 0 P lp vs.toArray w (RdR S I B Z lp D rc x vs)) →
    ∀ w, Cls (lpI lp (setL rc .ready none) :: mkI D :: I x0) S w → Calls P gf (first ++ [yv lp] ++ cap).toArray w fun e w' => (∃ v, e = .returned v) ∧
      ((∃ x', E x' ∧ Cls (lpI lp (setL rc .ready none) :: mkI D :: I x') S w') ∨ (∃ c x', Z c x' ∧ Cls (lpI lp (setL rc .done (some c)) :: mkI D :: I x') S w'))
theorem AllLe.all {k : Nat} : ∀ {S : List World}, AllLe S k → ∀ s ∈ S, s.heap.size ≤ k
  | [], _, s, hs => by cases hs
  | s :: S, h, t, ht => by
    rcases List.mem_cons.1 ht with rfl | ht
    · exact h.1
    · exact AllLe.all h.2 t ht
theorem W.range {m : Nat} {M : List Deferred} {g : Operand} {ps : List Nat} {assign body : Code} {gf : FuncId} {first cap : List Value} {σ : Type} (I : σ → List Item) (A : σ → List Value → Prop) (B : σ → List Value → σ → Prop) (E : σ → Prop) (Z : Code → σ → Prop) (x0 : σ)
    (hg : evl l g = some (true, .func (.func gf) first.toArray cap.toArray)) (hf : callable P gf = true) (hps : ∀ p ∈ ps, Nat.ble (p + 1) m = true) (hcb : calmC assign && calmC body) (hI : ∀ w, C w → Cls (I x0) S w)
    (hvs : ∀ x vs, A x vs → vs.length = ps.length)
    (hiter : ∀ w, Cls (I x0) S w → Iter P gf first cap S I A B E x0)
    (hround : ∀ (lp D : Nat) (rc : Loop) (x : σ) (vs : List Value), AllLe S lp → AllLe S D → A x vs → W P ⟨m, [], some lp⟩ assign (BegQ P lp body (RdR S I B Z lp D rc x vs)) (zipE ps vs l) (Cls (lpI lp (setL rc .ready none) :: mkI D :: I x) S))
    (hdone : ∀ D x, AllLe S D → E x → At ⟨m, dMark D :: M, none⟩ Q .normal l (Cls (mkI D :: I x) S))
    (hstop : ∀ D c x, AllLe S D → Z c x → W P ⟨m, dMark D :: M, none⟩ c Q l (Cls (mkI D :: I x) S)) :
    W P ⟨m, M, none⟩ (.rangeFunc g ps.toArray assign body) Q l C := ⟨fun a w0 hs hC hp => by
  have hc := hI w0 hC
  simp only [Bool.and_eq_true] at hcb
  refine wpIn_rangeFunc ?_
  intro fn hfn
  have hev := hs.eval hg rfl
  obtain ⟨rc, hrc⟩ : ∃ rc : Loop, rc = { state := .ready, pending := none, fn, tmps := a.tmps, params := ps.toArray, assign, body, defers := w0.heap.size } := ⟨_, rfl⟩
  have hrc0 : setL rc .ready none = rc := by rw [hrc]; rfl
  obtain ⟨w1, hw1⟩ : ∃ w1, w0.alloc (.deferred (some [])) = w1 := ⟨_, rfl⟩
  have hz1 : w1.heap.size = w0.heap.size + 1 := by rw [← hw1, World.size_alloc]
  obtain ⟨w2, hw2⟩ : ∃ w2, w1.alloc (.loop rc) = w2 := ⟨_, rfl⟩
  have hz2 : w2.heap.size = w0.heap.size + 2 := by rw [← hw2, World.size_alloc, hz1]
  have hE1 : Ext w0 w1 := by rw [← hw1]; exact Ext.of_below ((Below.refl _ w0).alloc (Nat.le_refl _) _)
  have hE2 : Ext w1 w2 := by rw [← hw2]; exact Ext.of_below ((Below.refl _ w1).alloc (Nat.le_refl _) _)
  have c1 : Cls (mkI w0.heap.size :: I x0) S w1 := hc.add hE1 _ (by rw [← hw1]; exact World.alloc_heap_new w0 _) (fun k hk => by rw [show k = w0.heap.size from hk]; omega)
  have c2 : Cls (lpI (w0.heap.size + 1) rc :: mkI w0.heap.size :: I x0) S w2 := c1.add hE2 _ (by rw [← hw2, ← hz1]; exact World.alloc_heap_new w1 _) (fun k hk => by rw [show k = w0.heap.size + 1 from hk]; omega)
  have hlD : AllLe S w0.heap.size := AllLe.of fun s hs => (hc.kp s hs).size
  have hlp : AllLe S (w0.heap.size + 1) := AllLe.of fun s hs => Nat.le_trans (hc.kp s hs).size (Nat.le_succ _)
  refine ⟨w0.heap.size + 1, [dMark w0.heap.size], w2, { target := .fn (.func gf) cap.toArray, args := first.toArray ++ #[yv (w0.heap.size + 1)] }, w2, gf, (first ++ [yv (w0.heap.size + 1)] ++ cap).toArray, w2, ?_, ?_, fun _ _ => trivial, ?_, (fun h => by cases h), ?_⟩
  · rw [← hw2, ← hw1, hrc]
    exact run_enterLoop_outer _ _ _ _ _
  · simp only [resolve, hev]
    simp [go_sem]
  · have := run_callFunc_body (P := P) hf (first ++ [yv (w0.heap.size + 1)] ++ cap).toArray w2
    simp only [invoke]
    simpa using this
  · refine callsIn_wide.2 ?_
    rw [← hrc0] at c2
    refine (hiter w0 hc (w0.heap.size + 1) w0.heap.size rc Z hlp hlD (fun x vs w hA hw => ?_) w2 c2).mono ?_
    · have hi := hw.item (i := lpI (w0.heap.size + 1) (setL rc .ready none)) (.head _)
      refine ⟨fn, foldT a.tmps (ps.zip vs), assign, body, ?_, ?_⟩
      · have := run_yield (P := P) (args := vs.toArray) hi (by rw [hrc]; simp [setL, hvs x vs hA])
        rw [this, hrc]
        simp [setL, foldT]
      · refine roundIn_of_wpIn hfn ?_
        have hsr : Sees ⟨m, [], some (w0.heap.size + 1)⟩ l { a with defers := [] } := ⟨rfl, hs.sz, hs.at_⟩
        have hrun := (hround _ _ rc x vs hlp hlD hA).run _ w (sees_zip ps vs l _ hps hsr) hw (fun _ => hcb.1)
        refine wpIn_mono hrun fun e a1 w1 hq => ?_
        cases e with
        | normal =>
          obtain ⟨w2, h1, h2⟩ := hq
          exact ⟨w2, h1, h2 fun _ => hcb.2⟩
        | _ => exact hq.elim
    · have hfinal : ∀ (x' : σ) (st : LoopState) (pe : Option Code) (w3 : World), st ≠ .busy → Cls (lpI (w0.heap.size + 1) (setL rc st pe) :: mkI w0.heap.size :: I x') S w3 → ∃ w4, (Instr.endLoop (w0.heap.size + 1)).run P w3 = .ok pe w4 ∧ Cls (mkI w0.heap.size :: I x') S w4 := fun x' st pe w3 hst hw => by
        have hi := hw.item (i := lpI (w0.heap.size + 1) (setL rc st pe)) (.head _)
        refine ⟨_, run_endLoop hi hst, ?_⟩
        have h5 := hw.loopTo (rc' := { setL rc st pe with state := .exhausted }) .z
        exact h5.thin (.any (fun k hk => by rw [show k = w0.heap.size + 1 from hk]; exact hlp) Thin.same)
      have hsa : Sees ⟨m, dMark w0.heap.size :: M, none⟩ l { a with defers := [dMark w0.heap.size] ++ a.defers } := ⟨congrArg (fun z => [dMark w0.heap.size] ++ z) hs.df, hs.sz, hs.at_⟩
      rintro e w3 ⟨⟨v, rfl⟩, ⟨x', hE, hw⟩ | ⟨c, x', hZ, hw⟩⟩
      · obtain ⟨w4, h1, h2⟩ := hfinal x' _ _ w3 (by simp) hw
        exact ⟨none, w4, h1, (hdone _ x' hlD hE).run _ w4 hsa h2⟩
      · obtain ⟨w4, h1, h2⟩ := hfinal x' _ _ w3 (by simp) hw
        exact ⟨some c, w4, h1, (hstop _ c x' hlD hZ).run _ w4 hsa h2 (fun h => by cases h)⟩⟩
/-! ### The end of a function that holds such a statement -/
theorem enterM {f : FuncId} {fn : Func} {c : Code} {args : List Value} {R : Ending → World → Prop} {w : World} {m : Nat} (hf : P.funcs[f]? = some fn) (hb : fn.body = some c) (hn : fn.ntmps = m) (ha : Nat.ble args.length m = true)
    (hC : C w) (h : W P ⟨m, [], none⟩ c (bodyPostM Fence.wide 0 P fn R) (argEnv 0 args) C) : Calls P f args.toArray w R := by
  subst hn
  refine callsIn_wide.1 (callsIn_of_wp_marks (n := 0) hf hb trivial ?_ rfl)
  have h1 := h.run _ w (by have := sees_args (args := args.toArray) (n := fn.ntmps) (by simpa using Nat.le_of_ble_eq_true ha); simpa using this) hC
  exact h1 (fun h => by cases h)
theorem Cls.shut {w : World} {p B D : Nat} {Ds Es : List Nat} {F : Item → List Item} (h : Cls H S w) (hH : Hole p H (mksE B Es (D :: Ds)) F) :
    (Instr.takeDeferred D).run P w = .ok [] (w.putObj D (.deferred none)) ∧ Cls (F (mksE B (Es ++ [D]) Ds)) S (w.putObj D (.deferred none)) := by
  have hi := h.item (List.mem_of_getElem? hH.eq.1)
  have hlt := h.lt _ (List.mem_of_getElem? hH.eq.1) D (show D ∈ Es ++ D :: Ds by simp)
  have e1 : (Es ++ [D]) ++ Ds = Es ++ D :: Ds := by simp
  refine ⟨run_takeDeferred (hi.2.2 D (.head _)), h.putO hH (show D ∈ Es ++ D :: Ds by simp) hlt ?_ (fun q hq => by have h9 : q ∈ (Es ++ [D]) ++ Ds := hq; rw [e1] at h9; exact h9) (fun q hq => by have h9 : q ∈ Es ++ D :: Ds := hq; rw [← e1] at h9; exact h9)⟩
  show ((Es ++ [D]) ++ Ds).Nodup ∧ (∀ E ∈ (Es ++ [D]) ++ Ds, B ≤ E) ∧ ∀ E ∈ Ds, (w.putObj D (.deferred none)).heap[E]? = some (.deferred (some []))
  rw [e1]
  refine ⟨hi.1, hi.2.1, fun E hE => ?_⟩
  have hne : E ≠ D := fun e => by
    have hn := hi.1
    rw [List.nodup_append] at hn
    have := (List.nodup_cons.1 hn.2.1).1
    rw [← e] at this
    exact this hE
  exact (World.putObj_heap_other hne).trans (hi.2.2 E (.tail _ hE))
theorem leaves_marks {fn : Func} {tmps : Array Value} {R : Ending → World → Prop} {p B : Nat} {v : Value} {F : Item → List Item} {i0 : Item} (hH0 : Hole p H i0 F) (hr : ∀ w, (results fn tmps).run P w = .ok v w) : ∀ (Ds Es : List Nat) (w : World),
    Cls (F (mksE B Es Ds)) S w →
    (∀ w, Cls (F (mksN B (Es ++ Ds))) S w → R (.returned v) w) → LeavesInM Fence.wide 0 P fn tmps R (Ds.map dMark) .returning w
  | [], Es, w, hc, hR => by
    refine ⟨v, hr w, hR w ?_⟩
    obtain ⟨q, hq⟩ : ∃ j, F j = H.set p j := ⟨i0, hH0.eq.2 i0⟩
    have hl : p < H.length := by
      have := hH0.eq.1
      exact (List.getElem?_eq_some_iff.1 this).1
    have h1 := hc
    rw [hH0.eq.2] at h1
    have h2 := h1.turn p (i := mksE B Es []) (j := mksN B (Es ++ [])) (by rw [List.getElem?_set_self hl]) (Keep.refl _ w) (h1.holds _ (List.mem_of_getElem? (List.getElem?_set_self hl))).2.1 (fun k hk => ⟨.inl hk, h1.lt _ (List.mem_of_getElem? (List.getElem?_set_self hl)) k hk⟩) (fun k hk => hk)
    rw [List.set_set] at h2
    rw [hH0.eq.2]
    exact h2
  | D :: Ds, Es, w, hc, hR => by
    have hl : p < H.length := (List.getElem?_eq_some_iff.1 hH0.eq.1).1
    have hH : Hole p (F (mksE B Es (D :: Ds))) (mksE B Es (D :: Ds)) F := hH0.other _
    obtain ⟨h1, h2⟩ := Cls.shut (P := P) hc hH
    refine ⟨by simp, .inl ⟨D, _, rfl, h1, ?_⟩⟩
    exact leaves_marks hH0 hr Ds (Es ++ [D]) _ h2 (fun w hw => hR w (by rw [show Es ++ D :: Ds = (Es ++ [D]) ++ Ds by simp]; exact hw))
theorem At.finM {m p B : Nat} {Ds : List Nat} {fn : Func} {R : Ending → World → Prop} {F : Item → List Item} {v : Value} (hH : Hole p H (mks B Ds) F) (hr : ∀ a, Sees ⟨m, Ds.map dMark, none⟩ l a → ∀ w, (results fn a.tmps).run P w = .ok v w)
    (h : ∀ w, Cls (F (mksN B Ds)) S w → R (.returned v) w) : At ⟨m, Ds.map dMark, none⟩ (bodyPostM Fence.wide 0 P fn R) .ret l (Cls H S) := ⟨fun a w hs hc => by
  show LeavesInM Fence.wide 0 P fn a.tmps R a.defers .returning w
  rw [show a.defers = Ds.map dMark from hs.df]
  refine leaves_marks (p := p) (B := B) hH (hr a hs) Ds [] w ?_ h
  have hl : p < H.length := (List.getElem?_eq_some_iff.1 hH.eq.1).1
  have hi := hc.item (List.mem_of_getElem? hH.eq.1)
  rw [hH.eq.2]
  exact hc.turn p hH.eq.1 (Keep.refl _ w) ⟨hi.1, fun E hE => (hi.2 E hE).1, fun E hE => (hi.2 E hE).2⟩ (fun k hk => ⟨.inl hk, hc.lt _ (List.mem_of_getElem? hH.eq.1) k hk⟩) (fun k hk => hk)⟩
theorem At.finM0 {m : Nat} {fn : Func} {R : Ending → World → Prop} {v : Value} (hr : ∀ a, Sees ⟨m, [], none⟩ l a → ∀ w, (results fn a.tmps).run P w = .ok v w)
    (h : ∀ w, C w → R (.returned v) w) : At ⟨m, [], none⟩ (bodyPostM Fence.wide 0 P fn R) .ret l C := ⟨fun a w hs hc => by
  show LeavesInM Fence.wide 0 P fn a.tmps R a.defers .returning w
  rw [show a.defers = [] from hs.df]
  exact ⟨v, hr a hs w, h w hc⟩⟩
theorem results2 {m : Nat} {Ds : List Deferred} {fn : Func} {t u : Nat} {v v' : Value} (hr : fn.results = #[.tmp t, .tmp u]) (ht : look l t = some (true, v)) (hu : look l u = some (true, v')) : ∀ a, Sees ⟨m, Ds, none⟩ l a → ∀ w, (results fn a.tmps).run P w = .ok (.tuple #[v, v']) w := fun a hs w => by
  have h1 := hs.at_ t true v ht
  have h2 := hs.at_ u true v' hu
  simp [results, hr, Array.getD_eq_getD_getElem?, h1, h2]
/-! ### A loop whose rounds leave such marks -/
def AgainM {G : Type} (Φ : G → Prop) (μ : G → Nat) (ng : G → Nm) (lg : G → Env) (Cg : G → World → Prop) (g : G) (a : Act) (w : World) : Prop :=
  ∃ g', Φ g' ∧ μ g' < μ g ∧ Sees (ng g') (lg g') a ∧ Cg g' w
theorem W.loopM {c : Code} {G : Type} (Φ : G → Prop) (μ : G → Nat) (ng : G → Nm) (lg : G → Env) (Cg : G → World → Prop) (g0 : G) (hn : ng g0 = n) (hr : ∀ g, (ng g).r = n.r) (h0 : Φ g0) (hs0 : Sub l (lg g0)) (hc0 : ∀ w, C w → Cg g0 w)
    (body : ∀ g, Φ g → W P (ng g) c (Exit.then (AgainM Φ μ ng lg Cg g) Q) (lg g) (Cg g)) : W P n (.loop c) Q l C := by
  have key : ∀ m g, μ g < m → Φ g → ∀ a w, Sees (ng g) (lg g) a → Cg g w → roundsP n.r P c Q m a w := by
    intro m
    induction m with
    | zero => intro g h; omega
    | succ m ih =>
      intro g hm hg a w hs hc
      show wpp n.r P c (Exit.then (roundsP n.r P c Q m) Q) a w
      have h1 := (body g hg).run a w hs hc
      rw [hr g] at h1
      refine wpp_mono h1 fun e a' w' hq => ?_
      cases e with
      | normal =>
        obtain ⟨g', hg', hlt, hs', hc'⟩ := hq
        exact ih g' (by omega) hg' a' w' hs' hc'
      | _ => exact hq
  exact ⟨fun a w hs hc => wpp_loop _ (key (μ g0 + 1) g0 (by omega) h0 a w (by rw [hn]; exact hs.sub hs0) (hc0 w hc))⟩
theorem At.againM {G : Type} {Φ : G → Prop} {μ : G → Nat} {ng : G → Nm} {lg : G → Env} {Cg : G → World → Prop} {g : G} (g' : G) (hn : ng g' = n) (hg : Φ g') (hm : μ g' < μ g) (hs : Sub l (lg g')) (hc : ∀ w, C w → Cg g' w) :
    At n (Exit.then (AgainM Φ μ ng lg Cg g) Q) .normal l C := ⟨fun a w s c => ⟨g', hg, hm, by rw [hn]; exact s.sub hs, hc w c⟩⟩
end
end Go.Eng

/- A pile of slices: rows that are finished, with the blocks that they own. General. No condition. -/
namespace Go.Eng
open Go.RowKit
structure Sl where
  q : Option Addr
  cap : Nat
  xs : List Value
def slv (s : Sl) : Value := .slice s.q s.xs.length s.cap
theorem cell_heap {w w' : World} {a : Addr} (h : w'.heap[a.block]? = w.heap[a.block]?) : w'.cell? a = w.cell? a := by
  unfold World.cell?
  rw [h]
/-- finished slices; their blocks lie in O, at B or above -/
def pile (B : Nat) (O : Nat → Prop) (L : List Sl) : Item :=
  ⟨fun k => B ≤ k ∧ O k, fun w => ∀ s ∈ L, 0 < s.xs.length → ∃ a, s.q = some a ∧ (B ≤ a.block ∧ O a.block) ∧ CellsAt w a s.xs, fun w w' hk h s hs hl => by
    obtain ⟨a, h1, h2, h3⟩ := h s hs hl
    exact ⟨a, h1, h2, fun j v hj => by rw [cell_heap (w := w) (hk _ (by rw [add_block]; exact h2))]; exact h3 j v hj⟩⟩
theorem pile_at {w : World} {B : Nat} {O : Nat → Prop} {L : List Sl} {s : Sl} (h : (pile B O L).holds w) (hs : s ∈ L) : SlAt w w.heap.size s.q s.xs := fun hl => by
  obtain ⟨a, h1, h2, h3⟩ := h s hs hl
  refine ⟨a, h1, ?_, h3⟩
  have := h3 0 _ (List.getElem?_eq_getElem hl)
  have := cell_lt this
  rwa [add_block] at this
theorem pile_some {w : World} {B : Nat} {O : Nat → Prop} {L : List Sl} {s : Sl} (h : (pile B O L).holds w) (hs : s ∈ L) (hl : 0 < s.xs.length) : ∃ a, s.q = some a := by
  obtain ⟨a, h1, _⟩ := h s hs hl
  exact ⟨a, h1⟩
theorem NotOwned.pile {H : List Item} {B k : Nat} {O : Nat → Prop} {L : List Sl} (h : k < B) (r : NotOwned H k) : NotOwned (Eng.pile B O L :: H) k := NotOwned.any (fun ho => Nat.not_le_of_lt h ho.1) r
section
variable {P : Program} {n : Nm} {l : Env} {H : List Item} {S : List World} {C : World → Prop} {c : Bool} {d : Option Nat} {ty : TypeId} {pos : String} {af : Array Edge} {g : Option (Nat × Bool)}
variable {t : TypeId} {x : Operand} {cx : Bool}
theorem Cls.pile_nil {w : World} (h : Cls H S w) (B : Nat) : Cls (pile B (fun _ => False) [] :: H) S w :=
  h.add (Keep.refl _ w) _ (fun s hs => by cases hs) (fun k hk => hk.2.elim)
theorem Cls.pile_push {w : World} {B m cap : Nat} {O O' : Nat → Prop} {q : Option Addr} {e : TypeId} {xs : List Value} {L : List Sl} (h : Cls (row B O q m cap e 1 xs :: pile B O' L :: H) S w) : Cls (pile B (fun k => O k ∨ O' k) (L ++ [⟨q, cap, xs⟩]) :: H) S w := by
  have hr := h.item (i := row B O q m cap e 1 xs) (by simp)
  have hp := h.item (i := pile B O' L) (by simp)
  have hd := h.dj
  rw [List.pairwise_cons, List.pairwise_cons] at hd
  obtain ⟨hr1, hp1, hH⟩ := hd
  refine ⟨fun i hi => ?_, fun i hi => ?_, ?_, fun s hs => (h.kp s hs).mono fun k _ ⟨i, hi, hk⟩ => ?_⟩
  · rcases List.mem_cons.1 hi with rfl | hi
    · intro s hs hl
      rcases List.mem_append.1 hs with hs | hs
      · obtain ⟨a, h1, h2, h3⟩ := hp s hs hl
        exact ⟨a, h1, ⟨h2.1, .inr h2.2⟩, h3⟩
      · obtain rfl := List.mem_singleton.1 hs
        obtain ⟨a, h1, h2, h3⟩ := SlAt.of_row hr hl
        refine ⟨a, h1, ⟨?_, .inl (hr.1 a h1)⟩, h3⟩
        rcases hr.2.2 with ⟨h4, h5⟩ | ⟨g, cap', cur, h4, h5, _⟩
        · simp only [Value.slice.injEq] at h4
          rw [h4.1] at h1; cases h1
        · simp only [Value.slice.injEq] at h4
          rw [h4.1] at h1
          obtain rfl := Option.some.inj h1
          exact h5
    · exact h.holds i (by simp [hi])
  · rcases List.mem_cons.1 hi with rfl | hi
    · rintro k ⟨h1, h2 | h2⟩
      · exact h.lt (row B O q m cap e 1 xs) (by simp) k ⟨h1, h2⟩
      · exact h.lt (pile B O' L) (by simp) k ⟨h1, h2⟩
    · exact h.lt i (by simp [hi])
  · refine List.pairwise_cons.2 ⟨fun j hj k hk hj2 => ?_, hH⟩
    obtain ⟨h1, h2 | h2⟩ := hk
    · exact hr1 j (by simp [hj]) k ⟨h1, h2⟩ hj2
    · exact hp1 j hj k ⟨h1, h2⟩ hj2
  · rcases List.mem_cons.1 hi with rfl | hi
    · exact ⟨_, .head _, hk.1, .inl hk.2⟩
    · rcases List.mem_cons.1 hi with rfl | hi
      · exact ⟨_, .head _, hk.1, .inr hk.2⟩
      · exact ⟨i, by simp [hi], hk⟩
theorem Pev.load_pile {a : Addr} {k B : Nat} {O : Nat → Prop} {L : List Sl} {s : Sl} {v : Value} (hx : evl l x = some (cx, .pointer (some (a.add k)))) (hcx : c = true → cx = true) (hp : pile B O L ∈ H) (hs : scalB P t = true)
    (hL : s ∈ L) (hq : s.q = some a) (hv : s.xs[k]? = some v) : Pev P n l (Cls H S) ⟨d, .load t x, ty, pos, af, g⟩ c v :=
  .load_of hx hcx fun _ w hw => run_loadVar_scal hs (by
    obtain ⟨a', h1, _, h3⟩ := hw.item hp s hL (by have := (List.getElem?_eq_some_iff.1 hv).1; omega)
    rw [hq] at h1
    obtain rfl := Option.some.inj h1
    exact h3 k v hv)
end
end Go.Eng

/- Readings as relations: nested structs and slices as plain data, wherever they lie; items for memory that is finished. General. No condition. -/
namespace Go.Eng
open Go.RowKit Go.ChangeShapes Go.WideShapes Go.ChangeAt
/-- how a thing of type α is told by cells; μ: what the cells tell besides -/
structure Rel (α μ : Type) where
  sz : Nat
  pos : 0 < sz
  cells : α → μ → List Value
  ok : World → (Nat → Prop) → α → μ → Prop
  len : ∀ x y, (cells x y).length = sz
  stab : ∀ {w w' : World} {O : Nat → Prop} {x y}, (∀ k, O k → w'.heap[k]? = w.heap[k]?) → ok w O x y → ok w' O x y
  mono : ∀ {w : World} {O O' : Nat → Prop} {x y}, (∀ k, O k → O' k) → ok w O x y → ok w O' x y
abbrev low (w : World) (k : Nat) : Prop := k < w.heap.size
def fresh (w w' : World) (k : Nat) : Prop := w.heap.size ≤ k ∧ k < w'.heap.size
section
variable {α μ : Type} {R : Rel α μ} {w w' : World} {O O' : Nat → Prop} {l : List (α × μ)} {q : Option Addr}
abbrev Rel.c (R : Rel α μ) (p : α × μ) : List Value := R.cells p.1 p.2
theorem Rel.clen (R : Rel α μ) (p : α × μ) : (R.c p).length = R.sz := R.len _ _
structure Arr (R : Rel α μ) (w : World) (O : Nat → Prop) (l : List (α × μ)) (q : Option Addr) : Prop where
  at_ : 0 < l.length → ∃ a, q = some a ∧ O a.block ∧ CellsAt w a (cat R.c l)
  el : ∀ p ∈ l, R.ok w O p.1 p.2
theorem cells_stab {a : Addr} {cs : List Value} (h : w'.heap[a.block]? = w.heap[a.block]?) (hc : CellsAt w a cs) : CellsAt w' a cs := fun j v hj => by
  rw [cell_heap (w := w) (by rw [add_block]; exact h)]
  exact hc j v hj
theorem Arr.stab (hk : ∀ k, O k → w'.heap[k]? = w.heap[k]?) (h : Arr R w O l q) : Arr R w' O l q :=
  ⟨fun hl => by
    obtain ⟨a, h1, h2, h3⟩ := h.at_ hl
    exact ⟨a, h1, h2, cells_stab (hk _ h2) h3⟩, fun p hp => R.stab hk (h.el p hp)⟩
theorem Arr.mono (hk : ∀ k, O k → O' k) (h : Arr R w O l q) : Arr R w O' l q :=
  ⟨fun hl => by
    obtain ⟨a, h1, h2, h3⟩ := h.at_ hl
    exact ⟨a, h1, hk _ h2, h3⟩, fun p hp => R.mono hk (h.el p hp)⟩
theorem Arr.nil : Arr R w O [] q := ⟨fun h => by simp at h, fun p h => by cases h⟩
theorem Arr.get (h : Arr R w O l q) {i : Nat} (hi : i < l.length) : ∃ a p, q = some a ∧ O a.block ∧ l[i]? = some p ∧ CellsAt w (a.add (i * R.sz)) (R.cells p.1 p.2) ∧ R.ok w O p.1 p.2 := by
  obtain ⟨a, h1, h2, h3⟩ := h.at_ (by omega)
  have hp : l[i]? = some l[i] := List.getElem?_eq_getElem hi
  exact ⟨a, l[i], h1, h2, hp, fun j v hj => by rw [add_add]; exact h3 _ _ (cat_get (f := R.c) R.clen hp j v hj), h.el _ (List.getElem_mem hi)⟩
theorem Arr.take (h : Arr R w O l q) (n : Nat) : Arr R w O (l.take n) q :=
  ⟨fun hl => by
    obtain ⟨a, h1, h2, h3⟩ := h.at_ (by simp at hl; omega)
    refine ⟨a, h1, h2, fun j v hj => h3 j v ?_⟩
    have hjl := (List.getElem?_eq_some_iff.1 hj).1
    rw [← cat_take (f := R.c) R.clen l n] at hj hjl
    rw [List.length_take] at hjl
    rwa [List.getElem?_take_of_lt (by omega)] at hj, fun p hp => h.el p (List.mem_of_mem_take hp)⟩
theorem Arr.slAt (h : Arr R w (low w) l q) : SlAt w w.heap.size q (cat R.c l) := fun hv => by
  rw [cat_length (f := R.c) R.clen] at hv
  obtain ⟨a, h1, h2, h3⟩ := h.at_ (Nat.pos_of_mul_pos_right hv)
  exact ⟨a, h1, h2, h3⟩
/-- plain data alone -/
def ArrP (R : Rel α μ) (w : World) (O : Nat → Prop) (l : List α) (q : Option Addr) : Prop := ∃ ps : List (α × μ), ps.map Prod.fst = l ∧ Arr R w O ps q
theorem ArrP.stab {l : List α} (hk : ∀ k, O k → w'.heap[k]? = w.heap[k]?) (h : ArrP R w O l q) : ArrP R w' O l q := by
  obtain ⟨ps, h1, h2⟩ := h
  exact ⟨ps, h1, h2.stab hk⟩
theorem ArrP.mono {l : List α} (hk : ∀ k, O k → O' k) (h : ArrP R w O l q) : ArrP R w O' l q := by
  obtain ⟨ps, h1, h2⟩ := h
  exact ⟨ps, h1, h2.mono hk⟩
theorem ArrP.nil : ArrP R w O [] q := ⟨[], rfl, Arr.nil⟩
/-- an older world's reading in a later world -/
theorem Cls.same {H : List Item} {S : List World} (h : Cls H S w') (hs : w ∈ S) (hno : ∀ k, k < w.heap.size → NotOwned H k) : ∀ k, low w k → w'.heap[k]? = w.heap[k]? :=
  fun k hk => (h.kp w hs).block k hk (hno k hk).not
theorem Cls.up {H : List Item} {S : List World} (h : Cls H S w') (hs : w ∈ S) : ∀ k, low w k → low w' k :=
  fun k hk => Nat.lt_of_lt_of_le hk (h.kp w hs).size
theorem Rel.at {H : List Item} {S : List World} {x : α} {y : μ} (h : R.ok w (low w) x y) (hw : Cls H S w') (hs : w ∈ S) (hno : ∀ k, k < w.heap.size → NotOwned H k) : R.ok w' (low w') x y :=
  R.mono (hw.up hs) (R.stab (hw.same hs hno) h)
theorem Arr.at {H : List Item} {S : List World} (h : Arr R w (low w) l q) (hw : Cls H S w') (hs : w ∈ S) (hno : ∀ k, k < w.heap.size → NotOwned H k) : Arr R w' (low w') l q :=
  Arr.mono (hw.up hs) (Arr.stab (hw.same hs hno) h)
theorem ArrP.at {l : List α} {H : List Item} {S : List World} (h : ArrP R w (low w) l q) (hw : Cls H S w') (hs : w ∈ S) (hno : ∀ k, k < w.heap.size → NotOwned H k) : ArrP R w' (low w') l q :=
  ArrP.mono (hw.up hs) (ArrP.stab (hw.same hs hno) h)
theorem Rel.ext {x : α} {y : μ} (h : R.ok w (low w) x y) (hx : Ext w w') : R.ok w' (low w') x y :=
  R.mono (fun k hk => Nat.lt_of_lt_of_le hk hx.size) (R.stab (fun k hk => hx.block k hk id) h)
theorem Arr.ext (h : Arr R w (low w) l q) (hx : Ext w w') : Arr R w' (low w') l q :=
  Arr.mono (fun k hk => Nat.lt_of_lt_of_le hk hx.size) (Arr.stab (fun k hk => hx.block k hk id) h)
/-! ### Finished things that the call owns -/
/-- things whose memory lies in O, at B or above -/
def pool (R : Rel α μ) (B : Nat) (O : Nat → Prop) (l : List (α × μ)) : Item :=
  ⟨fun k => B ≤ k ∧ O k, fun w => ∀ p ∈ l, R.ok w (fun k => B ≤ k ∧ O k) p.1 p.2, fun w w' hk h p hp => R.stab hk (h p hp)⟩
theorem NotOwned.pool {H : List Item} {B k : Nat} {O : Nat → Prop} {l : List (α × μ)} (h : k < B) (r : NotOwned H k) : NotOwned (Eng.pool R B O l :: H) k := NotOwned.any (fun ho => Nat.not_le_of_lt h ho.1) r
theorem Cls.pool_nil {H : List Item} {S : List World} (h : Cls H S w) (R : Rel α μ) (B : Nat) : Cls (pool R B (fun _ => False) [] :: H) S w :=
  h.add (Keep.refl _ w) _ (fun s hs => by cases hs) (fun k hk => hk.2.elim)
/-- one more, of memory that is new -/
theorem Cls.pool_push {p B : Nat} {H : List Item} {S : List World} {F : Item → List Item} {x : α} {y : μ} (hh : Hole p H (pool R B O l) F) (h : Cls H S w) (hB : B ≤ w.heap.size) (he : Ext w w') (hx : R.ok w' (fresh w w') x y) :
    Cls (F (pool R B (fun k => O k ∨ fresh w w' k) (l ++ [(x, y)]))) S w' := by
  obtain ⟨h1, h2⟩ := hh.eq
  rw [h2]
  have hm := List.mem_of_getElem? h1
  have hi := h.holds _ hm
  have hl := h.lt _ hm
  refine h.turn p h1 ⟨he.os, he.tape, he.output, he.size, fun k hk hn => he.block k hk id⟩ (fun z hz => ?_) (fun k hk => ?_) (fun k hk => ⟨hk.1, .inl hk.2⟩)
  · rcases List.mem_append.1 hz with hz | hz
    · refine R.mono (O := fun k => B ≤ k ∧ O k) (fun k hk => ⟨hk.1, .inl hk.2⟩) (R.stab (fun k hk => he.block k (hl k hk) id) (hi z hz))
    · obtain rfl := List.mem_singleton.1 hz
      exact R.mono (fun k hk => ⟨Nat.le_trans hB hk.1, .inr hk⟩) hx
  · obtain ⟨h3, h4 | h4⟩ := hk
    · exact ⟨.inl ⟨h3, h4⟩, Nat.lt_of_lt_of_le (hl k ⟨h3, h4⟩) he.size⟩
    · exact ⟨.inr h4.1, h4.2⟩
/-- one more, of memory that is new or of things that are there -/
theorem Cls.pool_more {p B : Nat} {H : List Item} {S : List World} {F : Item → List Item} {x : α} {y : μ} (hh : Hole p H (pool R B O l) F) (h : Cls H S w) (hB : B ≤ w.heap.size) (he : Ext w w') (hx : R.ok w' (fun k => (B ≤ k ∧ O k) ∨ fresh w w' k) x y) :
    Cls (F (pool R B (fun k => O k ∨ fresh w w' k) (l ++ [(x, y)]))) S w' := by
  obtain ⟨h1, h2⟩ := hh.eq
  rw [h2]
  have hm := List.mem_of_getElem? h1
  have hi := h.holds _ hm
  have hl := h.lt _ hm
  refine h.turn p h1 ⟨he.os, he.tape, he.output, he.size, fun k hk hn => he.block k hk id⟩ (fun z hz => ?_) (fun k hk => ?_) (fun k hk => ⟨hk.1, .inl hk.2⟩)
  · rcases List.mem_append.1 hz with hz | hz
    · refine R.mono (O := fun k => B ≤ k ∧ O k) (fun k hk => ⟨hk.1, .inl hk.2⟩) (R.stab (fun k hk => he.block k (hl k hk) id) (hi z hz))
    · obtain rfl := List.mem_singleton.1 hz
      refine R.mono (fun k hk => ?_) hx
      rcases hk with hk | hk
      · exact ⟨hk.1, .inl hk.2⟩
      · exact ⟨Nat.le_trans hB hk.1, .inr hk⟩
  · obtain ⟨h3, h4 | h4⟩ := hk
    · exact ⟨.inl ⟨h3, h4⟩, Nat.lt_of_lt_of_le (hl k ⟨h3, h4⟩) he.size⟩
    · exact ⟨.inr h4.1, h4.2⟩
/-- a thing without memory of its own -/
theorem Cls.pool_flat {p B : Nat} {H : List Item} {S : List World} {F : Item → List Item} {x : α} {y : μ} (hh : Hole p H (pool R B O l) F) (h : Cls H S w) (hx : R.ok w (fun _ => False) x y) :
    Cls (F (pool R B O (l ++ [(x, y)]))) S w := by
  obtain ⟨h1, h2⟩ := hh.eq
  rw [h2]
  have hm := List.mem_of_getElem? h1
  have hi := h.holds _ hm
  refine h.turn p h1 (Keep.refl _ _) (fun z hz => ?_) (fun k hk => ⟨.inl hk, h.lt _ hm k hk⟩) (fun k hk => hk)
  rcases List.mem_append.1 hz with hz | hz
  · exact hi z hz
  · obtain rfl := List.mem_singleton.1 hz
    exact R.mono (fun k hk => hk.elim) hx
/-- a grown row and its things are an array -/
theorem Arr.of {B m cap : Nat} {O1 O2 : Nat → Prop} {e : TypeId} (h1 : (row B O1 q m cap e R.sz (cat R.c l)).holds w) (h2 : (pool R B O2 l).holds w) : Arr R w (fun k => B ≤ k ∧ (O1 k ∨ O2 k)) l q where
  at_ := fun hl => by
    have hc : 0 < (cat R.c l).length := by
      rw [cat_length (f := R.c) R.clen]
      exact Nat.mul_pos hl R.pos
    obtain ⟨a, h3, _, h5⟩ := SlAt.of_row h1 hc
    have h6 := h1.1 a h3
    refine ⟨a, h3, ⟨?_, .inl h6⟩, h5⟩
    rcases h1.2.2 with ⟨h7, _⟩ | ⟨g, cap', cur, h7, hb, _⟩
    · simp only [Value.slice.injEq] at h7
      rw [h7.1] at h3; cases h3
    · simp only [Value.slice.injEq] at h7
      rw [h7.1] at h3
      obtain rfl := Option.some.inj h3
      exact hb
  el := fun p hp => R.mono (fun k hk => ⟨hk.1, .inr hk.2⟩) (h2 p hp)
/-- what two items own, as a reach of memory that is new -/
theorem Cls.fresh2 {H : List Item} {S : List World} {B : Nat} {O1 O2 : Nat → Prop} {i j : Item} (h : Cls H S w') (hi : i ∈ H) (hj : j ∈ H) (e1 : i.own = fun k => B ≤ k ∧ O1 k) (e2 : j.own = fun k => B ≤ k ∧ O2 k) (hB : w.heap.size ≤ B) : ∀ k, (B ≤ k ∧ (O1 k ∨ O2 k)) → fresh w w' k := by
  rintro k ⟨h1, h2 | h2⟩
  · exact ⟨Nat.le_trans hB h1, h.lt i hi k (by rw [e1]; exact ⟨h1, h2⟩)⟩
  · exact ⟨Nat.le_trans hB h1, h.lt j hj k (by rw [e2]; exact ⟨h1, h2⟩)⟩
/-- a reading in the world itself -/
theorem Cls.arr {H : List Item} {S : List World} {B m cap : Nat} {O1 O2 : Nat → Prop} {e : TypeId} (h : Cls H S w) (h1 : row B O1 q m cap e R.sz (cat R.c l) ∈ H) (h2 : pool R B O2 l ∈ H) : Arr R w (low w) l q :=
  (Arr.of (h.item h1) (h.item h2)).mono (by
    rintro k ⟨hb, ho | ho⟩
    · exact h.lt _ h1 k ⟨hb, ho⟩
    · exact h.lt _ h2 k ⟨hb, ho⟩)
theorem Cls.arrF {H : List Item} {S : List World} {B m cap : Nat} {O1 O2 : Nat → Prop} {e : TypeId} (h : Cls H S w') (h1 : row B O1 q m cap e R.sz (cat R.c l) ∈ H) (h2 : pool R B O2 l ∈ H) (hB : w.heap.size ≤ B) : Arr R w' (fresh w w') l q :=
  (Arr.of (h.item h1) (h.item h2)).mono (h.fresh2 h1 h2 rfl rfl hB)
end
/-! ### Types -/
def tyc (t : Ty) (y : Option Addr × Nat) : List Value := [.int .i64 t.kind, .string t.name, .int .i64 t.var, .slice y.1 t.args.length y.2]
mutual
def TyO (s : World) (O : Nat → Prop) : Ty → Option Addr × Nat → Prop
  | .mk k nm v «as», y => I64 k ∧ I64 v ∧ («as».length : Int) ≤ 9223372036854775807 ∧ (0 < «as».length → ∃ a, y.1 = some a ∧ O a.block ∧ TyOs s O «as» a)
def TyOs (s : World) (O : Nat → Prop) : List Ty → Addr → Prop
  | [], _ => True
  | t :: r, a => (∃ y, CellsAt s a (tyc t y) ∧ TyO s O t y) ∧ TyOs s O r (a.add 4)
end
mutual
theorem TyO.stab {w w' : World} {O : Nat → Prop} (hk : ∀ k, O k → w'.heap[k]? = w.heap[k]?) : ∀ {t : Ty} {y : Option Addr × Nat}, TyO w O t y → TyO w' O t y
  | .mk k nm v «as», y, h => by
    simp only [TyO] at h ⊢
    obtain ⟨h1, h2, h3, h4⟩ := h
    refine ⟨h1, h2, h3, fun hl => ?_⟩
    obtain ⟨a, ha, hb, hall⟩ := h4 hl
    exact ⟨a, ha, hb, TyOs.stab hk hb hall⟩
theorem TyOs.stab {w w' : World} {O : Nat → Prop} (hk : ∀ k, O k → w'.heap[k]? = w.heap[k]?) : ∀ {«as» : List Ty} {a : Addr}, O a.block → TyOs w O «as» a → TyOs w' O «as» a
  | [], _, _, _ => by simp only [TyOs]
  | t :: r, a, hb, h => by
    simp only [TyOs] at h ⊢
    obtain ⟨⟨y, h1, h2⟩, h3⟩ := h
    exact ⟨⟨y, cells_stab (hk _ hb) h1, TyO.stab hk h2⟩, TyOs.stab hk (by rw [add_block]; exact hb) h3⟩
end
mutual
theorem TyO.mono {w : World} {O O' : Nat → Prop} (hk : ∀ k, O k → O' k) : ∀ {t : Ty} {y : Option Addr × Nat}, TyO w O t y → TyO w O' t y
  | .mk k nm v «as», y, h => by
    simp only [TyO] at h ⊢
    obtain ⟨h1, h2, h3, h4⟩ := h
    refine ⟨h1, h2, h3, fun hl => ?_⟩
    obtain ⟨a, ha, hb, hall⟩ := h4 hl
    exact ⟨a, ha, hk _ hb, TyOs.mono hk hall⟩
theorem TyOs.mono {w : World} {O O' : Nat → Prop} (hk : ∀ k, O k → O' k) : ∀ {«as» : List Ty} {a : Addr}, TyOs w O «as» a → TyOs w O' «as» a
  | [], _, _ => by simp only [TyOs]
  | t :: r, a, h => by
    simp only [TyOs] at h ⊢
    obtain ⟨⟨y, h1, h2⟩, h3⟩ := h
    exact ⟨⟨y, h1, TyO.mono hk h2⟩, TyOs.mono hk h3⟩
end
def tyR : Rel Ty (Option Addr × Nat) where
  sz := 4
  pos := by decide
  cells := tyc
  ok := TyO
  len := fun _ _ => rfl
  stab := fun hk h => TyO.stab hk h
  mono := fun hk h => TyO.mono hk h
theorem TyOs.list {w : World} {O : Nat → Prop} : ∀ {«as» : List Ty} {a : Addr}, TyOs w O «as» a → ∃ ps : List (Ty × (Option Addr × Nat)), ps.map Prod.fst = «as» ∧ CellsAt w a (cat tyR.c ps) ∧ ∀ p ∈ ps, TyO w O p.1 p.2
  | [], a, _ => ⟨[], rfl, fun j v hj => by simp [cat] at hj, fun p hp => by cases hp⟩
  | t :: r, a, h => by
    simp only [TyOs] at h
    obtain ⟨⟨y, h1, h2⟩, h3⟩ := h
    obtain ⟨ps, h4, h5, h6⟩ := TyOs.list h3
    refine ⟨(t, y) :: ps, by simp [h4], fun j v hj => ?_, fun p hp => ?_⟩
    · rw [cat] at hj
      by_cases e : j < 4
      · rw [List.getElem?_append_left (by exact e)] at hj
        exact h1 j v hj
      · rw [List.getElem?_append_right (by show 4 ≤ j; omega)] at hj
        have := h5 _ v hj
        rw [add_add] at this
        rwa [show 4 + (j - (tyR.c (t, y)).length) = j from by show 4 + (j - 4) = j; omega] at this
    · rcases List.mem_cons.1 hp with rfl | hp
      · exact h2
      · exact h6 p hp
theorem TyOs.of_list {w : World} {O : Nat → Prop} : ∀ {ps : List (Ty × (Option Addr × Nat))} {a : Addr}, CellsAt w a (cat tyR.c ps) → (∀ p ∈ ps, TyO w O p.1 p.2) → TyOs w O (ps.map Prod.fst) a
  | [], a, _, _ => by simp only [List.map_nil, TyOs]
  | p :: ps, a, h, hp => by
    simp only [List.map_cons, TyOs]
    refine ⟨⟨p.2, fun j v hj => h j v ?_, hp p (.head _)⟩, TyOs.of_list (fun j v hj => ?_) (fun x hx => hp x (.tail _ hx))⟩
    · rw [cat, List.getElem?_append_left (by have := (List.getElem?_eq_some_iff.1 hj).1; exact this)]
      exact hj
    · rw [add_add]
      refine h (4 + j) v ?_
      rw [cat, List.getElem?_append_right (by show 4 ≤ 4 + j; omega)]
      rw [show 4 + j - (tyR.c p).length = j from by show 4 + j - 4 = j; omega]
      exact hj
/-- the parts of a type -/
theorem TyO.parts {w : World} {O : Nat → Prop} {k v : Int} {nm : ByteArray} {«as» : List Ty} {y : Option Addr × Nat} (h : TyO w O (.mk k nm v «as») y) : I64 k ∧ I64 v ∧ «as».length ≤ 9223372036854775807 ∧ ∃ ps : List (Ty × (Option Addr × Nat)), ps.map Prod.fst = «as» ∧ Arr tyR w O ps y.1 := by
  simp only [TyO] at h
  obtain ⟨h1, h2, h3, h4⟩ := h
  refine ⟨h1, h2, by omega, ?_⟩
  cases «as» with
  | nil => exact ⟨[], rfl, Arr.nil⟩
  | cons t r =>
    obtain ⟨a, ha, hb, hall⟩ := h4 (by simp)
    obtain ⟨ps, h5, h6, h7⟩ := hall.list
    exact ⟨ps, h5, fun _ => ⟨a, ha, hb, h6⟩, h7⟩
theorem TyO.of_parts {w : World} {O : Nat → Prop} {k v : Int} {nm : ByteArray} {ps : List (Ty × (Option Addr × Nat))} {q : Option Addr} {cap : Nat} (hk : I64 k) (hv : I64 v) (hl : ps.length ≤ 9223372036854775807) (h : Arr tyR w O ps q) : TyO w O (.mk k nm v (ps.map Prod.fst)) (q, cap) := by
  simp only [TyO]
  refine ⟨hk, hv, by rw [List.length_map]; omega, fun h0 => ?_⟩
  rw [List.length_map] at h0
  obtain ⟨a, h1, h2, h3⟩ := h.at_ h0
  exact ⟨a, h1, h2, TyOs.of_list h3 h.el⟩
mutual
theorem TyO.of_C {w : World} {B : Nat} : ∀ {t : Ty} {cs : List Value}, TyC w B t cs → ∃ y, cs = tyc t y ∧ TyO w (fun k => k < B) t y
  | .mk k nm v «as», cs, h => by
    simp only [TyC] at h
    obtain ⟨q, cap, rfl, h2, h3, h4, h5⟩ := h
    refine ⟨(q, cap), rfl, ?_⟩
    simp only [TyO]
    refine ⟨h2, h3, h4, fun hl => ?_⟩
    obtain ⟨a, ha, hb, hall⟩ := h5 hl
    exact ⟨a, ha, hb, TyOs.of_C hall⟩
theorem TyOs.of_C {w : World} {B : Nat} : ∀ {«as» : List Ty} {a : Addr}, TyAll w B «as» a → TyOs w (fun k => k < B) «as» a
  | [], _, _ => by simp only [TyOs]
  | t :: r, a, h => by
    simp only [TyAll] at h
    simp only [TyOs]
    obtain ⟨⟨cs, h1, h2⟩, h3⟩ := h
    obtain ⟨y, rfl, h4⟩ := TyO.of_C h2
    exact ⟨⟨y, h1, h4⟩, TyOs.of_C h3⟩
end
/-! ### Reading arguments -/
section
variable {H : Type} {enc : TypeId × Value → H} {P : Program} {w : World} {spare : Nat → Bool} {held : Bool} {α μ : Type} {R : Rel α μ}
/-- a slice whose elements read -/
theorem rd_arr {t e : TypeId} {fuel : Nat} {cs : List Value} {x : DataW H × List MemPlace} (ht : P.underlying t = some (.slice e)) (hs : P.cellsOf e = R.sz)
    (he : ∀ (n : Nat) (cs' : List Value) (y : DataW H × List MemPlace), n < fuel → DataW.trod enc P w 0 spare held n e cs' = some y → ∃ u : α × μ, cs' = R.c u ∧ R.ok w (low w) u.1 u.2)
    (h : DataW.trod enc P w 0 spare held fuel t cs = some x) :
    ∃ (q : Option Addr) (l : List (α × μ)) (cap : Nat), cs = [.slice q l.length cap] ∧ l.length ≤ cap ∧ cap ≤ maxLen ∧ Arr R w (low w) l q := by
  obtain ⟨q, len, cap, rfl, hle, hcap, hq0, m, hm, hel⟩ := slice_reads ht hs h
  cases q with
  | none =>
    obtain rfl := hq0 rfl
    exact ⟨none, [], cap, rfl, hle, hcap, Arr.nil⟩
  | some a =>
    obtain ⟨l, hl, hr⟩ := list_of (fun i (u : α × μ) => CellsAt w (a.add (i * R.sz)) (R.c u) ∧ R.ok w (low w) u.1 u.2) len (fun i hi => by
      obtain ⟨cs', y, hc, hl1, ht'⟩ := hel a rfl i hi
      obtain ⟨u, rfl, hR⟩ := he m cs' y hm ht'
      exact ⟨u, hc, hR⟩)
    subst hl
    refine ⟨some a, l, cap, rfl, hle, hcap, fun hl0 => ⟨a, rfl, ?_, fun j v hj => ?_⟩, fun u hu => ?_⟩
    · have h0 := (hr 0 _ (List.getElem?_eq_getElem hl0)).1
      rw [Nat.zero_mul, add_zero_] at h0
      have hz : 0 < (R.c l[0]).length := by rw [R.clen]; exact R.pos
      have := h0 0 _ (List.getElem?_eq_getElem hz)
      rw [add_zero_] at this
      exact cell_lt this
    · have hjl := (List.getElem?_eq_some_iff.1 hj).1
      rw [cat_length (f := R.c) R.clen] at hjl
      have hi : j / R.sz < l.length := Nat.div_lt_of_lt_mul (by rwa [Nat.mul_comm] at hjl)
      have h0 := (hr (j / R.sz) _ (List.getElem?_eq_getElem hi)).1
      have hm' : j % R.sz < (R.c l[j / R.sz]).length := by rw [R.clen]; exact Nat.mod_lt _ R.pos
      have h1 := cat_get (f := R.c) R.clen (List.getElem?_eq_getElem hi) (j % R.sz) _ (List.getElem?_eq_getElem hm')
      have ej : j / R.sz * R.sz + j % R.sz = j := by rw [Nat.mul_comm]; exact Nat.div_add_mod j R.sz
      rw [ej, hj] at h1
      have h2 := h0 (j % R.sz) _ (List.getElem?_eq_getElem hm')
      rw [add_add, ej] at h2
      rw [h2, h1]
    · obtain ⟨i, hi, rfl⟩ := List.getElem_of_mem hu
      exact (hr i _ (List.getElem?_eq_getElem hi)).2
end
end Go.Eng

/- A callee's own items join the caller's; a finished row goes to the things that are told; ends of functions that hold a range over a function. General. No condition. -/
namespace Go.Eng
open Go.RowKit
theorem Cls.over {H H2 : List Item} {S : List World} {w w' : World} (h : Cls H S w) (h2 : Cls H2 [w] w') (hf : ∀ i ∈ H2, ∀ k, i.own k → w.heap.size ≤ k) : Cls (H2 ++ H) S w' := by
  have hk := h2.kp w (.head _)
  have hno : ∀ k, k < w.heap.size → ¬ owned H2 k := fun k hlt ⟨i, hi, ho⟩ => by have := hf i hi k ho; omega
  refine ⟨fun i hi => ?_, fun i hi k ho => ?_, ?_, fun s hs => ?_⟩
  · rcases List.mem_append.1 hi with hi | hi
    · exact h2.holds i hi
    · exact i.stab w w' (fun k ho => hk.block k (h.lt i hi k ho) (hno k (h.lt i hi k ho))) (h.holds i hi)
  · rcases List.mem_append.1 hi with hi | hi
    · exact h2.lt i hi k ho
    · exact Nat.lt_of_lt_of_le (h.lt i hi k ho) hk.size
  · rw [List.pairwise_append]
    exact ⟨h2.dj, h.dj, fun i hi j hj k ho1 ho2 => by have := hf i hi k ho1; have := h.lt j hj k ho2; omega⟩
  · have h3 := h.kp s hs
    refine (h3.mono fun k _ ⟨i, hi, ho⟩ => ⟨i, List.mem_append_right _ hi, ho⟩).trans (hk.mono fun k _ ⟨i, hi, ho⟩ => ⟨i, List.mem_append_left _ hi, ho⟩)
/-- a finished row goes to the things that are told -/
theorem Cls.pool_row {α μ : Type} {R : Rel α μ} {w : World} {B m cap : Nat} {O O2 : Nat → Prop} {q : Option Addr} {e : TypeId} {xs : List Value} {l : List (α × μ)} {x : α} {y : μ} {H : List Item} {S : List World} (h : Cls (row B O q m cap e 1 xs :: pool R B O2 l :: H) S w)
    (hx : (∃ a, q = some a ∧ (B ≤ a.block ∧ O a.block) ∧ CellsAt w a xs) ∨ xs = [] → R.ok w (fun k => B ≤ k ∧ (O k ∨ O2 k)) x y) : Cls (pool R B (fun k => O k ∨ O2 k) (l ++ [(x, y)]) :: H) S w := by
  have hr := h.item (i := row B O q m cap e 1 xs) (by simp)
  have hp := h.item (i := pool R B O2 l) (by simp)
  have hd := h.dj
  rw [List.pairwise_cons, List.pairwise_cons] at hd
  obtain ⟨hr1, hp1, hH⟩ := hd
  refine ⟨fun i hi => ?_, fun i hi => ?_, ?_, fun s hs => (h.kp s hs).mono fun k _ ⟨i, hi, hk⟩ => ?_⟩
  · rcases List.mem_cons.1 hi with rfl | hi
    · intro z hz
      rcases List.mem_append.1 hz with hz | hz
      · exact R.mono (fun k hk => ⟨hk.1, .inr hk.2⟩) (hp z hz)
      · obtain rfl := List.mem_singleton.1 hz
        refine hx ?_
        rcases Nat.eq_zero_or_pos xs.length with h0 | h0
        · exact .inr (List.eq_nil_of_length_eq_zero h0)
        · obtain ⟨a, h1, h2, h3⟩ := SlAt.of_row hr h0
          refine .inl ⟨a, h1, ⟨?_, hr.1 a h1⟩, h3⟩
          rcases hr.2.2 with ⟨h4, h5⟩ | ⟨g, cap', cur, h4, h5, _⟩
          · simp only [Value.slice.injEq] at h4
            rw [h4.1] at h1; cases h1
          · simp only [Value.slice.injEq] at h4
            rw [h4.1] at h1
            obtain rfl := Option.some.inj h1
            exact h5
    · exact h.holds i (by simp [hi])
  · rcases List.mem_cons.1 hi with rfl | hi
    · rintro k ⟨h1, h2 | h2⟩
      · exact h.lt (row B O q m cap e 1 xs) (by simp) k ⟨h1, h2⟩
      · exact h.lt (pool R B O2 l) (by simp) k ⟨h1, h2⟩
    · exact h.lt i (by simp [hi])
  · refine List.pairwise_cons.2 ⟨fun j hj k hk hj2 => ?_, hH⟩
    obtain ⟨h1, h2 | h2⟩ := hk
    · exact hr1 j (by simp [hj]) k ⟨h1, h2⟩ hj2
    · exact hp1 j hj k ⟨h1, h2⟩ hj2
  · rcases List.mem_cons.1 hi with rfl | hi
    · exact ⟨_, .head _, hk.1, .inl hk.2⟩
    · rcases List.mem_cons.1 hi with rfl | hi
      · exact ⟨_, .head _, hk.1, .inr hk.2⟩
      · exact ⟨i, by simp [hi], hk⟩
theorem At.cw {n : Nm} {Q : Exit → Act → World → Prop} {e : Exit} {l : Env} {C C' : World → Prop} (h : ∀ w, C w → C' w) (k : At n Q e l C') : At n Q e l C := ⟨fun a w hs hc => k.run a w hs (h w hc)⟩
theorem results1 {P : Program} {l : Env} {m : Nat} {Ds : List Deferred} {fn : Func} {t : Nat} {v : Value} (hr : fn.results = #[.tmp t]) (ht : look l t = some (true, v)) : ∀ a, Sees ⟨m, Ds, none⟩ l a → ∀ w, (results fn a.tmps).run P w = .ok v w := fun a hs w => by
  have h1 := hs.at_ t true v ht
  simp [results, hr, Array.getD_eq_getD_getElem?, h1]
theorem Cls.mk_one {H : List Item} {S : List World} {w : World} {D B : Nat} (h : Cls (mkI D :: H) S w) (hB : B ≤ D) : Cls (mks B [D] :: H) S w := (h.mks_nil B).flip.mks_in hB
theorem Cls.row_low {H : List Item} {S : List World} {w : World} {B B' m cap size : Nat} {O : Nat → Prop} {q : Option Addr} {e : TypeId} {xs : List Value} (h : Cls (row B O q m cap e size xs :: H) S w) (hB : B' ≤ B) : Cls (row B' (fun k => B ≤ k ∧ O k) q m cap e size xs :: H) S w := by
  have hd := List.pairwise_cons.1 h.dj
  refine ⟨fun i hi => ?_, fun i hi => ?_, .cons (fun j hj k hk => hd.1 j hj k hk.2) hd.2, fun s hs => (h.kp s hs).mono fun k _ ⟨j, hj, hjk⟩ => ?_⟩
  · cases hi with
    | head =>
      have h0 : (row B O q m cap e size xs).holds w := h.holds _ (.head _)
      refine ⟨fun a ha => ⟨?_, h0.1 a ha⟩, h0.2.1, ?_⟩
      · rcases h0.2.2 with ⟨h3, _⟩ | ⟨g, cap', cur, h3, hb, _⟩
        · rw [ha] at h3; cases h3
        · rw [ha] at h3
          simp only [Value.slice.injEq, Option.some.injEq] at h3
          rw [h3.1]; exact hb
      · rcases h0.2.2 with h3 | ⟨g, cap', cur, h3, hb, h4⟩
        · exact .inl h3
        · exact .inr ⟨g, cap', cur, h3, by omega, h4⟩
    | tail _ hi => exact h.holds _ (.tail _ hi)
  · cases hi with
    | head => exact fun k hk => h.lt (row B O q m cap e size xs) (.head _) k hk.2
    | tail _ hi => exact h.lt _ (.tail _ hi)
  · cases hj with
    | head =>
      have hjk' : B ≤ k ∧ O k := hjk
      exact ⟨_, .head _, by omega, hjk'⟩
    | tail _ hj => exact ⟨_, .tail _ hj, hjk⟩
/-- a row that a callee made -/
theorem Cls.callee {H : List Item} {S : List World} {w2 w3 : World} {B m cap size : Nat} {O : Nat → Prop} {q : Option Addr} {e : TypeId} {xs : List Value} (h : Cls H S w2) (h3 : Cls [row w2.heap.size O q m cap e size xs] [w2] w3) (hB : B ≤ w2.heap.size) : Cls (row B (fun k => w2.heap.size ≤ k ∧ O k) q m cap e size xs :: H) S w3 :=
  (h.over h3 (fun i hi k hk => by rw [List.mem_singleton] at hi; subst hi; exact hk.1)).row_low hB
end Go.Eng

/- The walk of slices.Equal at []string. Conditions: none. -/
namespace Go.Proofs.Ytgllgllbgojhfaa.mo
open Go.RowKit Go.Eng
set_option maxRecDepth 100000
theorem str_at {w : World} {B : Nat} {q : Option Addr} {l : List ByteArray} (h : SlAt w B q (strs l)) {i : Nat} (hi : i < l.length) :
    ∃ a u, q = some a ∧ a.block < B ∧ l[i]? = some u ∧ w.cell? (a.add (i * 1)) = some (.string u) := by
  obtain ⟨a, rfl, hab, hc⟩ := h (by simp [strs]; omega)
  have hs : l[i]? = some l[i] := List.getElem?_eq_getElem hi
  exact ⟨a, l[i], rfl, hab, hs, by rw [Nat.mul_one]; exact hc i _ (by simp [strs, hs])⟩
theorem SEqual_calls (q1 q2 : Option Addr) (cap1 cap2 : Nat) (l1 l2 : List ByteArray) (w : World) (hl1 : l1.length ≤ 9223372036854775807) (hl2 : l2.length ≤ 9223372036854775807) (h1 : SlAt w w.heap.size q1 (strs l1)) (h2 : SlAt w w.heap.size q2 (strs l2)) :
    Calls Try.prog 10 #[.slice q1 l1.length cap1, .slice q2 l2.length cap2] w fun e w' => e = .returned (.bool (decide (l1 = l2))) ∧ Ext w w' := by
  refine enter Try.func10 rfl Try.ntmps10 rfl (Cls.start w) ?_
  (simp only [argEnv, Nat.zero_add, Nat.reduceAdd])
  apply W.sr
  apply oas; rfl; rfl
  apply OL.nx
  apply W.seq
  apply W.sr
  apply omv; rfl; rfl
  apply oop; rfl; apply Pev.len_slice; rfl; exact yes; rfl
  apply omv; rfl; rfl
  apply oop; rfl; apply Pev.len_slice; rfl; exact yes; rfl
  apply obn; rfl; rfl; rfl; apply Bin.neq
  apply OL.nx
  (refine W.cnd (fun hne => ?_) (fun hne => ?_)) <;> (try (exfalso; first | omega | exact hne trivial | contradiction))
  · apply W.sr
    apply oas; rfl; rfl
    apply OL.nx
    refine W.rt ?_
    ((with_reducible apply At.fin1); rfl; rfl; intro w' hw')
    have : ¬ l1 = l2 := fun e => by subst e; exact hne rfl
    exact ⟨by simp [this], by (exact hw'.fr)⟩
  apply W.sk
  apply W.seq
  apply W.sr
  apply omv; rfl; rfl
  apply oop; rfl; apply Pev.len_slice; rfl; exact yes; rfl
  apply omv; rfl; rfl
  apply OL.nx
  apply W.block
  refine W.loop (G := Nat) (fun i => i ≤ l1.length ∧ ∀ j, j < i → l1[j]? = l2[j]?) (fun i => l1.length - i)
    (fun i => [(13, true, .int .i64 (i : Int)), (12, true, .int .i64 (l1.length : Int)), (0, true, .slice q1 l1.length cap1), (1, true, .slice q2 l2.length cap2)])
    (fun i => Cls [] [w]) 0 ⟨by omega, fun j hj => by omega⟩ (by exact Sub.au) (fun w' hw' => hw') ?_
  rintro i ⟨hi, hsame⟩
  apply W.sr
  apply obn; rfl; rfl; rfl; apply Bin.lss
  apply OL.nx
  apply W.seq
  (refine W.cnd (fun hlt => ?_) (fun hlt => ?_)) <;> (try (exfalso; first | omega | exact hlt trivial | contradiction))
  · obtain ⟨a, u, rfl, hab, hu, hcell⟩ := str_at h1 (show i < l1.length by omega)
    obtain ⟨a2, u2, rfl, hab2, hu2, hcell2⟩ := str_at h2 (show i < l2.length by omega)
    apply W.sk
    apply W.sb
    apply W.sr
    apply omv; rfl; rfl
    apply oas; rfl; rfl
    apply OL.nx
    apply W.seq
    apply W.regd0; decide +kernel; kernel_rfl; decide +kernel; exact fun w hw => hw.drew
    apply qmv; rfl; rfl
    apply qmv; rfl; rfl
    apply qop; rfl; apply Pev.idx; rfl; exact yes; rfl; exact yes; rfl; rfl; intro hcond; omega
    apply qop; rfl; apply Pev.load_kept; rfl; exact yes; exact .head _; rfl; intro hcond; assumption; intro hcond; (rw [add_block]; assumption); intro hcond; exact NotOwned.au
    apply qmv; rfl; rfl
    apply qmv; rfl; rfl
    apply qop; rfl; apply Pev.idx; rfl; exact yes; rfl; exact yes; rfl; rfl; intro hcond; omega
    apply qop; rfl; apply Pev.load_kept; rfl; exact yes; exact .head _; rfl; intro hcond; assumption; intro hcond; (rw [add_block]; assumption); intro hcond; exact NotOwned.au
    apply qbn; rfl; rfl; rfl; apply Bin.str_neq
    apply QL.nil
    with_reducible apply At.next
    (refine W.cnd (fun hd => ?_) (fun hd => ?_)) <;> (try (exfalso; first | omega | exact hd trivial | contradiction))
    · apply W.sr
      apply oas; rfl; rfl
      apply OL.nx
      refine W.rt ?_
      ((with_reducible apply At.fin1); rfl; rfl; intro w' hw')
      have : ¬ l1 = l2 := fun e => by
        subst e
        rw [hu] at hu2
        exact hd (by rw [Option.some.inj hu2])
      exact ⟨by simp [this], by (exact hw'.fr)⟩
    · apply W.skip
      with_reducible apply At.in_normal
      with_reducible apply At.next
      apply W.reg
      apply obn; rfl; rfl; rfl; apply Bin.add_in; omega
      apply omv; rfl; rfl
      apply OL.nil
      refine At.again (i + 1) ⟨by omega, fun j hj => ?_⟩ (by omega) (by exact Sub.au) (fun w' hw' => hw')
      by_cases hji : j = i
      · subst hji
        rw [hu, hu2, show u = u2 by simpa using hd]
      · exact hsame j (by omega)
  · refine W.xt ?_
    with_reducible apply At.next
    apply W.sr
    apply oas; rfl; rfl
    apply OL.nx
    apply W.ret
    ((with_reducible apply At.fin1); rfl; rfl; intro w' hw')
    have : l1 = l2 := List.ext_getElem? fun j => by
      rcases Nat.lt_or_ge j l1.length with h | h
      · exact hsame j (by omega)
      · rw [List.getElem?_eq_none h, List.getElem?_eq_none (by omega)]
    exact ⟨by simp [this], by (exact hw'.fr)⟩
/-! the reference's list is the store's, turned round -/
end Go.Proofs.Ytgllgllbgojhfaa.mo

/- The walk of slices.Sorted(slices.Values(l)) at strings. Conditions: none. -/
namespace Go.Proofs.Ytgllgllbgojhfaa.mo
open Go.RowKit Go.Eng Go.Mo
set_option maxRecDepth 100000
theorem Values_calls (q : Option Addr) (cap m : Nat) (w : World) :
    Calls Try.prog 22 #[.slice q m cap] w fun e w' => ∃ b, e = .returned (.func (.func 39) #[] #[.pointer (some ⟨b, 0, none⟩)]) ∧ Ext w w' ∧ b < w'.heap.size ∧ w'.cell? ⟨b, 0, none⟩ = some (.slice q m cap) := by
  refine enter Try.func22 rfl Try.ntmps22 rfl (Cls.start w) ?_
  (simp only [argEnv, Nat.zero_add, Nat.reduceAdd])
  apply W.sr
  apply OL.box; rfl; rfl; exact CellsL.one rfl; (intro bk hbk; simp only [AllLe, and_true] at hbk)
  apply oas; rfl; rfl
  apply OL.nsr
  apply oop; rfl; apply Pev.makeFunc; exact Args.au; exact Args.au
  apply oas; rfl; rfl
  apply OL.nx
  apply W.ret
  ((with_reducible apply At.fin1); rfl; rfl; intro w' hw')
  exact ⟨bk, rfl, by (exact hw'.fr), blk_lt (hw'.item (.head _)), blk_cell (hw'.item (.head _))⟩
structure QS where
  ys : List ByteArray
  O : Nat → Prop
  q : Option Addr
  cap : Nat
def valI (B bk : Nat) (x : QS) : List Eng.Item := [blk bk 22 [.slice x.q x.ys.length x.cap], row B x.O x.q x.ys.length x.cap 9 1 (strs x.ys)]
def valA (l : List ByteArray) (x : QS) (vs : List Value) : Prop := ∃ u, vs = [.string u] ∧ x.ys.length < l.length ∧ x.ys ++ [u] = l.take (x.ys.length + 1)
def valB (x : QS) (vs : List Value) (x' : QS) : Prop := ∃ u, vs = [.string u] ∧ x'.ys = x.ys ++ [u]
def valC (I : QS → List Eng.Item) (lp D : Nat) (rc : Loop) (u : QS × Option Code) : List Eng.Item :=
  lpI lp (match u.2 with | none => setL rc .ready none | some c => setL rc .done (some c)) :: mkI D :: I u.1
theorem val_iter (B b bk : Nat) (q : Option Addr) (cap : Nat) (l : List ByteArray) (s0 : World) (hb : b < s0.heap.size) (hcb : s0.cell? ⟨b, 0, none⟩ = some (.slice q l.length cap)) (hlen : l.length * 16 ≤ 140737488351232) (h : SlAt s0 s0.heap.size q (strs l)) (hB : s0.heap.size ≤ B) (hbk : s0.heap.size ≤ bk) (x0 : QS) (hx0 : x0.ys = []) :
    Iter Try.prog 39 [] [.pointer (some ⟨b, 0, none⟩)] [s0] (valI B bk) (valA l) valB (fun x => x.ys = l) x0 := by
  intro lp D rc Z hlp hD hyld w hc0
  have hlp : s0.heap.size ≤ lp := hlp.1
  have hD : s0.heap.size ≤ D := hD.1
  have hc : Cls (valC (valI B bk) lp D rc (x0, none)) [s0] w := hc0
  rw [show (([] : List Value) ++ [yv lp] ++ [.pointer (some ⟨b, 0, none⟩)]) = [yv lp, .pointer (some ⟨b, 0, none⟩)] from rfl]
  refine enter Try.func39 rfl Try.ntmps39 rfl hc ?_
  (simp only [argEnv, Nat.zero_add, Nat.reduceAdd])
  have hno0 : ∀ (u : QS × Option Code) k, k < s0.heap.size → NotOwned (valC (valI B bk) lp D rc u) k := fun u k hk => by
    unfold valC valI
    exact NotOwned.any (show ¬ k = lp by omega) (NotOwned.any (show ¬ k = D by omega) (NotOwned.blk (by omega) (NotOwned.row (by omega) .nil)))
  have hno := hno0 (x0, none)
  apply W.sr
  apply oop; rfl; apply Pev.load_kept; rfl; exact yes; exact .head _; rfl; intro hcond; assumption; intro hcond; assumption; intro hcond; exact NotOwned.au
  apply oop; rfl; apply Pev.len_slice; rfl; exact yes; rfl
  apply omv; rfl; rfl
  apply OL.nx
  apply W.block
  clear hno
  refine W.loop (G := Nat × QS) (fun g => g.1 ≤ l.length ∧ g.2.ys = l.take g.1) (fun g => l.length - g.1)
    (fun g => [(0, true, yv lp), (5, true, .slice q l.length cap), (6, true, .int .i64 (l.length : Int)), (7, true, .int .i64 (g.1 : Int))])
    (fun g => Cls (valC (valI B bk) lp D rc (g.2, none)) [s0]) (0, x0) ⟨Nat.zero_le _, by rw [hx0]; rfl⟩ (by exact Sub.au) (fun w' hw' => hw') ?_
  rintro ⟨i, x⟩ ⟨hi, hx⟩
  simp only at hi hx ⊢
  have hno := hno0 (x, none)
  apply W.sr
  apply obn; rfl; rfl; rfl; apply Bin.lss
  apply OL.nx
  apply W.seq
  (refine W.cnd (fun hlt => ?_) (fun hlt => ?_)) <;> (try (exfalso; first | omega | exact hlt trivial | contradiction))
  · obtain ⟨a, u, rfl, hab, hu, hcell⟩ := str_at h (show i < l.length by omega)
    apply W.sk
    apply W.seq
    apply W.block
    apply W.seq
    refine W.reg ?_
    apply oop; rfl; apply Pev.idx; rfl; exact yes; rfl; exact yes; rfl; rfl; intro hcond; omega
    apply oop; rfl; apply Pev.load_kept; rfl; exact yes; exact .head _; rfl; intro hcond; assumption; intro hcond; (rw [add_block]; assumption); intro hcond; exact NotOwned.au
    apply oas; rfl; rfl
    apply OL.nx
    apply W.seq
    refine W.regY 2 (by (repeat (first | exact CutN.z | apply CutN.s))) ?_
    apply omv; rfl; rfl
    apply omv; rfl; rfl
    apply OL.nil
    refine At.yield (α := QS × Option Code) (vs := [.string u]) (fun u => u.2.isNone) (fun g => (g.2 = none → g.1.ys = x.ys ++ [u]) ∧ ∀ c, g.2 = some c → Z c g.1) (fun u => Cls (valC (valI B bk) lp D rc u) [s0]) rfl rfl (by exact Args.au) (fun w2 hw2 => yieldAt_mono (hyld x _ w2 ⟨u, rfl, ?_, ?_⟩ hw2) ?_) ?_
    · rw [hx, List.length_take]
      omega
    · rw [hx, List.length_take, Nat.min_eq_left hi, List.take_add_one, hu]
      rfl
    · rintro e w3 (⟨x', rfl, ⟨g, hgv, hB⟩, hw3⟩ | ⟨cc, x', rfl, hZ, hw3⟩)
      · simp only [List.cons.injEq, Value.string.injEq, and_true] at hgv
        subst hgv
        exact ⟨(x', none), rfl, ⟨fun _ => hB, fun c h => by cases h⟩, hw3⟩
      · exact ⟨(x', some cc), rfl, ⟨fun h => by (cases h), fun c h => by cases h; exact hZ⟩, hw3⟩
    rintro ⟨x2, oc⟩ ⟨hx3, hz⟩
    simp only at hx3 hz ⊢
    cases oc with
    | some cc =>
      simp only [Option.isNone_some]
      apply oop; rfl; apply Pev.not; rfl; exact yes
      apply OL.nx
      refine W.cond rfl (fun _ => ?_) (fun h => by cases h)
      refine W.rt ?_
      refine At.fin0 rfl (fun w' hw' => ⟨⟨_, rfl⟩, .inr ⟨cc, x2, hz cc rfl, hw'⟩⟩)
    | none =>
      simp only [Option.isNone_none]
      have hx3 := hx3 rfl
      apply oop; rfl; apply Pev.not; rfl; exact yes
      apply OL.nx
      refine W.cond rfl (fun h => by cases h) (fun _ => ?_)
      apply W.skip
      with_reducible apply At.in_normal
      with_reducible apply At.next
      apply W.reg
      apply obn; rfl; rfl; rfl; apply Bin.add_in; omega
      apply omv; rfl; rfl
      apply OL.nil
      exact At.again (i + 1, x2) ⟨by omega, by rw [hx3, hx, List.take_add_one, hu]; rfl⟩ (by simp only; omega) (by exact Sub.au) (fun w' hw' => hw')
  · obtain rfl : i = l.length := by omega
    rw [List.take_length] at hx
    refine W.xt ?_
    refine At.end_ (At.fin0 rfl (fun w' hw' => ⟨⟨_, rfl⟩, .inl ⟨x, hx, hw'⟩⟩))
theorem AppendSeq_calls (b : Nat) (q : Option Addr) (cap : Nat) (l : List ByteArray) (w : World) (hb : b < w.heap.size) (hcb : w.cell? ⟨b, 0, none⟩ = some (.slice q l.length cap)) (hlen : l.length * 16 ≤ 140737488351232) (h : SlAt w w.heap.size q (strs l)) :
    Calls Try.prog 48 [.slice none 0 0, .func (.func 39) #[] #[.pointer (some ⟨b, 0, none⟩)]].toArray w fun e w' => ∃ O q' cap', e = .returned (.slice q' l.length cap') ∧ Cls [row w.heap.size O q' l.length cap' 9 1 (strs l)] [w] w' := by
  refine enterM Try.func48 rfl Try.ntmps48 rfl (Cls.start w) ?_
  (simp only [argEnv, Nat.zero_add, Nat.reduceAdd])
  apply W.sr
  apply OL.box; rfl; rfl; exact CellsL.one rfl; (intro bk hbk; simp only [AllLe, and_true] at hbk)
  apply oas; rfl; rfl
  apply OL.nx
  apply W.seq
  apply W.sr
  apply omv; rfl; rfl
  apply OL.nx
  apply W.block
  refine W.range (gf := 39) (first := []) (cap := [.pointer (some ⟨b, 0, none⟩)]) (σ := QS) (S := [w]) (valI w.heap.size bk) (valA l) valB (fun x => x.ys = l) (fun _ _ => False) ⟨[], fun _ => False, none, 0⟩ rfl rfl (fun p hp => by rw [List.mem_singleton.1 hp]; rfl) (by kernel_rfl) (fun w' hw' => ?_) (fun x vs hA => ?_) (fun w' hw' => ?_) ?_ ?_ ?_
  · exact (hw'.row_nil w.heap.size 9 1).flip
  · obtain ⟨u, rfl, _⟩ := hA
    rfl
  · exact val_iter w.heap.size b bk q cap l w hb hcb hlen h (Nat.le_refl _) hbk ⟨[], fun _ => False, none, 0⟩ rfl
  · rintro lp D rc x vs hlp hD ⟨u, rfl, hl1, hl2⟩
    have hlp0 : w.heap.size ≤ lp := hlp.1
    have hD0 : w.heap.size ≤ D := hD.1
    have hxl : x.ys.length < l.length := hl1
    simp only [zipE, valI]
    apply W.reg
    apply oas; rfl; rfl
    apply OL.nil
    refine At.begin (by exact Hole.au) ?_
    apply W.block
    apply W.reg
    apply old; rfl; rfl; exact .tail _ (.tail _ (.head _)); rfl; rfl
    apply omv; rfl; rfl
    apply OL.buildSlice; rfl; rfl; rfl; exact Elems.au; rfl; rfl; (intro bk hbk; simp only [AllLe, and_true] at hbk)
    apply OL.append; rfl; rfl; rfl; rfl; exact Hole.au; exact .head _; exact Take.au; rfl; rfl; exact ⟨_, .head _, Nat.le_refl _⟩; omega; intro O1 g1 cap1
    apply OL.storeB; rfl; rfl; exact CellsL.one rfl; rfl; rfl; rfl; exact Swap.au; exact Put.au
    apply OL.nil
    with_reducible apply At.in_normal
    refine At.round (by exact Hole.au) (fun w' hw' => .inl ⟨⟨x.ys ++ [u], O1, some ⟨g1, 0, none⟩, cap1⟩, rfl, ⟨u, rfl, rfl⟩, ?_⟩)
    have h1 := hw'.thin (.any (fun k hk => by rw [show k = bk from hk]; exact ⟨hbk, trivial⟩) .same)
    simpa [strs, valI] using h1
  · intro D x hD hE
    have hE : x.ys = l := hE
    have hD0 : w.heap.size ≤ D := hD.1
    unfold valI
    rw [hE]
    with_reducible apply At.in_normal
    with_reducible apply At.next
    apply W.sr
    apply old; rfl; rfl; exact .tail _ (.head _); rfl; rfl
    apply oas; rfl; rfl
    apply OL.nx
    apply W.ret
    refine At.cw (C' := Cls (mks w.heap.size [D] :: [blk bk 22 [Value.slice x.q l.length x.cap], row w.heap.size x.O x.q l.length x.cap 9 1 (strs l)]) [w]) (fun w' hw' => Cls.mk_one hw' hD0) ?_
    refine At.finM (p := 0) (B := w.heap.size) (Ds := [D]) .z (results1 rfl rfl) (fun w' hw' => ⟨x.O, x.q, x.cap, rfl, ?_⟩)
    exact (hw'.thin (.any (fun k hk => by rw [show k = D from List.mem_singleton.1 hk]; exact ⟨hD0, trivial⟩) (.any (fun k hk => by rw [show k = bk from hk]; exact ⟨hbk, trivial⟩) .same)))
  · intro D c x hD hZ
    exact hZ.elim
theorem Collect_calls (b : Nat) (q : Option Addr) (cap : Nat) (l : List ByteArray) (w : World) (hb : b < w.heap.size) (hcb : w.cell? ⟨b, 0, none⟩ = some (.slice q l.length cap)) (hlen : l.length * 16 ≤ 140737488351232) (h : SlAt w w.heap.size q (strs l)) :
    Calls Try.prog 38 [.func (.func 39) #[] #[.pointer (some ⟨b, 0, none⟩)]].toArray w fun e w' => ∃ O q' cap', e = .returned (.slice q' l.length cap') ∧ Cls [row w.heap.size O q' l.length cap' 9 1 (strs l)] [w] w' := by
  refine enter Try.func38 rfl Try.ntmps38 rfl (Cls.start w) ?_
  (simp only [argEnv, Nat.zero_add, Nat.reduceAdd])
  apply W.sr
  apply oas; rfl; rfl
  apply OL.nsr
  apply omv; rfl; rfl
  refine OL.callE (α := (Nat → Prop) × Option Addr × Nat) (fun z => .slice z.2.1 l.length z.2.2) (fun _ => True) (fun z => Cls [row w.heap.size z.1 z.2.1 l.length z.2.2 9 1 (strs l)] [w]) rfl rfl (by exact Args.au) (fun w2 hw2 => ?_) ?_
  · have hx : Ext w w2 := hw2.toExt (by exact mau) (fun k hk => by exact NotOwned.au)
    have hbl := hw2.below (s := w) (by exact mau) (Nat.le_refl _) (fun k hk => by exact NotOwned.au)
    refine (AppendSeq_calls b q cap l w2 (Nat.lt_of_lt_of_le hb hx.size) ((hbl _ hb).trans hcb) hlen (h.ext hx (Nat.le_refl _))).mono ?_
    rintro e w3 ⟨O, q', cap', h1, h2⟩
    exact ⟨(_, q', cap'), h1, trivial, hw2.callee h2 hx.size⟩
  rintro ⟨O, q', cap'⟩ _
  simp only
  apply oas; rfl; rfl
  apply OL.nx
  apply W.ret
  ((with_reducible apply At.fin1); rfl; rfl; intro w' hw')
  exact ⟨O, q', cap', rfl, hw'⟩
theorem Sorted_calls (b : Nat) (q : Option Addr) (cap : Nat) (l : List ByteArray) (w : World) (hb : b < w.heap.size) (hcb : w.cell? ⟨b, 0, none⟩ = some (.slice q l.length cap)) (hlen : l.length * 16 ≤ 140737488351232) (h : SlAt w w.heap.size q (strs l)) :
    Calls Try.prog 21 [.func (.func 39) #[] #[.pointer (some ⟨b, 0, none⟩)]].toArray w fun e w' => ∃ q' cap', e = .returned (.slice q' l.length cap') ∧ Ext w w' ∧ SlAt w' w'.heap.size q' (strs (srtS l)) := by
  refine enter Try.func21 rfl Try.ntmps21 rfl (Cls.start w) ?_
  (simp only [argEnv, Nat.zero_add, Nat.reduceAdd])
  apply W.sr
  apply oas; rfl; rfl
  apply OL.nsr
  apply omv; rfl; rfl
  refine OL.callE (α := (Nat → Prop) × Option Addr × Nat) (fun z => .slice z.2.1 l.length z.2.2) (fun _ => True) (fun z => Cls [row w.heap.size z.1 z.2.1 l.length z.2.2 9 1 (strs l)] [w]) rfl rfl (by exact Args.au) (fun w2 hw2 => ?_) ?_
  · have hx : Ext w w2 := hw2.toExt (by exact mau) (fun k hk => by exact NotOwned.au)
    have hbl := hw2.below (s := w) (by exact mau) (Nat.le_refl _) (fun k hk => by exact NotOwned.au)
    refine (Collect_calls b q cap l w2 (Nat.lt_of_lt_of_le hb hx.size) ((hbl _ hb).trans hcb) hlen (h.ext hx (Nat.le_refl _))).mono ?_
    rintro e w3 ⟨O, q', cap', h1, h2⟩
    exact ⟨(_, q', cap'), h1, trivial, hw2.callee h2 hx.size⟩
  rintro ⟨O, q', cap'⟩ _
  simp only
  apply oas; rfl; rfl
  apply OL.nsr
  apply omv; rfl; rfl
  refine OL.callE (α := Unit) (fun _ => .tuple #[]) (fun _ => True) (fun _ => Cls [row w.heap.size O q' l.length cap' 9 1 (strs (srtS l))] [w]) rfl rfl (by exact Args.au) (fun w2 hw2 => (Sort_calls .z hw2 (by omega)).mono fun e w3 h => ⟨(), h.1, trivial, h.2⟩) ?_
  intro _ _
  apply OL.nsr
  apply omv; rfl; rfl
  apply oas; rfl; rfl
  apply OL.nx
  apply W.ret
  ((with_reducible apply At.fin1); rfl; rfl; intro w' hw')
  exact ⟨q', cap', rfl, by (exact hw'.fr), SlAt.of_row (hw'.item (.head _))⟩
/-- slices.Sorted(slices.Values(l)) at a value -/
theorem val_at {b : Nat} {q : Option Addr} {cap m : Nat} {w w' : World} {H : List Eng.Item} {S : List World} (hb : b < w.heap.size) (hcb : w.cell? ⟨b, 0, none⟩ = some (.slice q m cap)) (hw : Cls H S w') (hs : w ∈ S) (hno : ∀ k, k < w.heap.size → NotOwned H k) : b < w'.heap.size ∧ w'.cell? ⟨b, 0, none⟩ = some (.slice q m cap) :=
  ⟨Nat.lt_of_lt_of_le hb (hw.kp w hs).size, (hw.below (s := w) hs (Nat.le_refl _) hno _ hb).trans hcb⟩
end Go.Proofs.Ytgllgllbgojhfaa.mo

/- Maps whose keys are strings, of the call's own: an item for the list of keys and values; make, look up, put a new key, delete. General. No condition. -/
namespace Go.Eng
open Go.RowKit Go.MapKept
abbrev MP := List (ByteArray × Value)
def mget : MP → ByteArray → Option Value
  | [], _ => none
  | p :: r, k => if p.1 = k then some p.2 else mget r k
def mdel : MP → ByteArray → MP
  | [], _ => []
  | p :: r, k => if p.1 = k then r else p :: mdel r k
def mcells (m : MP) : List (Value × Value) := m.map fun p => (.string p.1, p.2)
/-- the map in block b -/
def mapS (b : Nat) (m : MP) : Item :=
  ⟨fun k => k = b, fun w => ∃ es clock, w.heap[b]? = some (.map es clock) ∧ es.toList.map (fun e => (e.key, e.val)) = mcells m, fun w w' hk ⟨es, c, h, h2⟩ => ⟨es, c, (hk b rfl).trans h, h2⟩⟩
theorem NotOwned.mapS {H : List Item} {b : Nat} {m : MP} {k : Nat} (h : k ≠ b) (r : NotOwned H k) : NotOwned (Eng.mapS b m :: H) k := NotOwned.any (fun hm => h hm) r
theorem mapS_lt {w : World} {b : Nat} {m : MP} (h : (mapS b m).holds w) : b < w.heap.size := by
  obtain ⟨es, c, h1, _⟩ := h
  exact (Array.getElem?_eq_some_iff.1 h1).1
theorem now_str : ∀ (es : List MapEntry) (m : MP) (i : Nat) (k : ByteArray), es.map (fun e => (e.key, e.val)) = mcells m →
    (Instr.findNow .string (.string k) es i = some none ∧ mget m k = none) ∨ ∃ j v, Instr.findNow .string (.string k) es i = some (some (i + j, v)) ∧ mget m k = some v ∧ es.eraseIdx j = es.eraseIdx j ∧ (es.eraseIdx j).map (fun e => (e.key, e.val)) = mcells (mdel m k) ∧ j < es.length
  | [], m, i, k, h => by
    cases m with
    | nil => exact .inl ⟨rfl, rfl⟩
    | cons p r => simp [mcells] at h
  | e :: es, m, i, k, h => by
    cases m with
    | nil => simp [mcells] at h
    | cons p r =>
      simp only [mcells, List.map_cons, List.cons.injEq, Prod.mk.injEq] at h
      obtain ⟨⟨h1, h2⟩, h3⟩ := h
      by_cases hk : p.1 = k
      · refine .inr ⟨0, e.val, ?_, by simp [mget, hk, h2], rfl, ?_, by simp⟩
        · simp [Instr.findNow, Instr.sameNow, h1, (Go.MapKept.bytes_beq k p.1).2 hk.symm]
        · simp only [List.eraseIdx_cons_zero, mdel, hk, if_true]
          exact h3
      · have hb : (k == p.1) = false := by
          rw [Bool.eq_false_iff]
          exact fun hh => hk ((Go.MapKept.bytes_beq k p.1).1 hh).symm
        rcases now_str es r (i + 1) k h3 with ⟨h4, h5⟩ | ⟨j, v, h4, h5, _, h6, h7⟩
        · exact .inl ⟨by simp [Instr.findNow, Instr.sameNow, h1, hb, h4], by simp [mget, hk, h5]⟩
        · refine .inr ⟨j + 1, v, by simp [Instr.findNow, Instr.sameNow, h1, hb, h4]; omega, by simp [mget, hk, h5], rfl, ?_, by simp; omega⟩
          simp only [List.eraseIdx_cons_succ, List.map_cons, mdel, hk, if_false, mcells, h1, h2]
          rw [h6]; rfl
section
variable {P : Program} {n : Nm} {l : Env} {H : List Item} {S : List World} {C : World → Prop} {c : Bool} {d : Option Nat} {ty : TypeId} {pos : String} {af : Array Edge} {g : Option (Nat × Bool)}
variable {ops : Array Oper} {rest : List Oper} {Q : Exit → Act → World → Prop} {t : TypeId} {x y z : Operand} {cx cy cz : Bool}
/-- key and element type of a map type with strings as keys -/
def mapT (P : Program) (t : TypeId) : Option (TypeId × TypeId) := match P.underlying t with
  | some (.map k e) => match P.underlying k with
    | some .string => some (k, e)
    | _ => none
  | _ => none
theorem mapT_spec {k e : TypeId} (h : mapT P t = some (k, e)) : P.underlying t = some (.map k e) ∧ P.underlying k = some .string := by
  unfold mapT at h
  split at h
  · split at h
    · simp only [Option.some.injEq, Prod.mk.injEq] at h
      obtain ⟨rfl, rfl⟩ := h
      rename_i h1 _ h2
      exact ⟨h1, h2⟩
    · cases h
  · cases h
theorem isKey_str (s : ByteArray) : IsKey .string (.string s) := by simp [IsKey]
theorem Pev.lookup {k e : TypeId} {b : Nat} {m : MP} {s : ByteArray} {zv : Value} (hx : evl l x = some (cx, .map (some b))) (hcx : c = true → cx = true) (hy : evl l y = some (cy, .string s)) (hcy : c = true → cy = true) (ht : mapT P t = some (k, e)) (hz : zeroV P e = some zv) (hm : mapS b m ∈ H) :
    Pev P n l (Cls H S) ⟨d, .lookup t x y false, ty, pos, af, g⟩ c ((mget m s).getD zv) :=
  .of_run fun h a w hs hw => by
    obtain ⟨h1, h2⟩ := mapT_spec ht
    obtain ⟨es, clock, hb, hes⟩ := hw.item hm
    have hr : (Instr.lookup t (.map (some b)) (.string s) false).run P w = .ok ((mget m s).getD zv) w := by
      simp only [Instr.lookup, Sem.run_bind, run_underlying h1, Result.andThen_ok, Go.MapKept.run_getObj_map (P := P) hb, Sem.run_pure, run_checkKey h2 (isKey_str s)]
      rcases now_str es.toList m 0 s hes with ⟨h3, h4⟩ | ⟨j, v, h3, h4, _⟩
      · rw [run_findKey h2 h3]
        simp [run_zeroV hz, h4]
      · rw [run_findKey h2 h3]
        simp [h4]
    simp only [execOp, hs.eval hx (hcx h), hs.eval hy (hcy h), Sem.run_bind, hr, Result.andThen_ok]
    rfl
/-- a map of pointers -/
theorem Pev.lookup_in {k e : TypeId} {b j : Nat} {m : MP} {s : ByteArray} (hx : evl l x = some (cx, .map (some b))) (hcx : c = true → cx = true) (hy : evl l y = some (cy, .string s)) (hcy : c = true → cy = true) (ht : mapT P t = some (k, e)) (hz : zeroV P e = some (.pointer none)) (hm : mapS b m ∈ H) (hg : mget m s = some (.pointer (some ⟨j, 0, none⟩))) :
    Pev P n l (Cls H S) ⟨d, .lookup t x y false, ty, pos, af, g⟩ c (.pointer (some ⟨j, 0, none⟩)) := by
  have := Pev.lookup (P := P) (n := n) (S := S) (d := d) (ty := ty) (pos := pos) (af := af) (g := g) hx hcx hy hcy ht hz hm
  rw [hg] at this; exact this
theorem Pev.lookup_no {k e : TypeId} {b : Nat} {m : MP} {s : ByteArray} (hx : evl l x = some (cx, .map (some b))) (hcx : c = true → cx = true) (hy : evl l y = some (cy, .string s)) (hcy : c = true → cy = true) (ht : mapT P t = some (k, e)) (hz : zeroV P e = some (.pointer none)) (hm : mapS b m ∈ H) (hg : mget m s = none) :
    Pev P n l (Cls H S) ⟨d, .lookup t x y false, ty, pos, af, g⟩ c (.pointer none) := by
  have := Pev.lookup (P := P) (n := n) (S := S) (d := d) (ty := ty) (pos := pos) (af := af) (g := g) hx hcx hy hcy ht hz hm
  rw [hg] at this; exact this
theorem OL.makeMap {dd : Nat} {k e : TypeId} (hn : Nat.ble (dd + 1) n.n = true) (ht : mapT P t = some (k, e)) (kk : ∀ b, AllLe S b → OL P n ops Q rest ((dd, true, .map (some b)) :: l) (Cls (mapS b [] :: H) S)) :
    OL P n ops Q (⟨some dd, .makeMap t none, ty, pos, af, none⟩ :: rest) l (Cls H S) :=
  OL.new (C' := fun b w => AllLe S b ∧ Cls (mapS b [] :: H) S w) rfl rfl hn (fun b => .map (some b))
    (fun a w hs hc => ⟨w.heap.size, w.alloc (.map #[] 0), rfl, AllLe.mk hc, hc.add (ext_alloc w _) _ ⟨#[], 0, heap_alloc_new w _, rfl⟩ (fun k hk => by
      have hk' : k = w.heap.size := hk
      subst hk'; simp)⟩)
    (fun b => ⟨fun a w hs hc => (kk b hc.1).run a w hs hc.2⟩)
theorem set_heap {w : World} {b : Nat} {o o' : Obj} (hb : w.heap[b]? = some o) : ({ w with heap := w.heap.setIfInBounds b o' } : World).heap[b]? = some o' ∧ Keep (fun k => k = b) w { w with heap := w.heap.setIfInBounds b o' } := by
  have hlt := (Array.getElem?_eq_some_iff.1 hb).1
  refine ⟨by simp [Array.getElem?_setIfInBounds, hlt], rfl, rfl, rfl, by simp, fun k hk hne => ?_⟩
  have : ¬ b = k := fun e => hne e.symm
  simp [Array.getElem?_setIfInBounds, this]
/-- a key that is not there yet -/
theorem OL.mapPut {k e : TypeId} {b p : Nat} {m : MP} {s : ByteArray} {v : Value} {F : Item → List Item} (hx : evl l x = some (true, .map (some b))) (hy : evl l y = some (true, .string s)) (hz : evl l z = some (true, v)) (ht : mapT P t = some (k, e)) (hH : Hole p H (mapS b m) F) (hno : mget m s = none)
    (kk : OL P n ops Q rest l (Cls (F (mapS b (m ++ [(s, v)]))) S)) : OL P n ops Q (⟨none, .mapUpdate t x y z, ty, pos, af, none⟩ :: rest) l (Cls H S) := by
  obtain ⟨hp, hF⟩ := hH.eq
  rw [hF] at kk
  obtain ⟨h1, h2⟩ := mapT_spec ht
  refine OL.store_ (C' := Cls (H.set p (mapS b (m ++ [(s, v)]))) S) rfl rfl (fun a w hs hc => ?_) kk
  obtain ⟨es, clock, hb, hes⟩ := hc.item (List.mem_of_getElem? hp)
  obtain ⟨hh, hk⟩ := set_heap (o' := .map (es.push { key := .string s, val := v, born := clock }) (clock + 1)) hb
  refine ⟨_, ?_, hc.turn p hp (j := mapS b (m ++ [(s, v)])) hk ⟨_, _, hh, ?_⟩ (fun q hq => ?_) (fun q hq => hq)⟩
  · have h3 : Instr.findNow .string (.string s) es.toList 0 = some none := by
      rcases now_str es.toList m 0 s hes with ⟨h3, h4⟩ | ⟨j, v', h3, h4, _⟩
      · exact h3
      · rw [hno] at h4; cases h4
    have hr : (Instr.mapUpdate t (.map (some b)) (.string s) v).run P w = .ok () { w with heap := w.heap.setIfInBounds b (.map (es.push { key := .string s, val := v, born := clock }) (clock + 1)) } := by
      simp only [Instr.mapUpdate, Sem.run_bind, run_underlying h1, Result.andThen_ok, Go.MapKept.run_getObj_map (P := P) hb, run_checkKey h2 (isKey_str s), run_findKey h2 h3, run_setObj_map _ hb]
    simp only [execOp, hs.eval hx rfl, hs.eval hy rfl, hs.eval hz rfl, Sem.run_bind, hr, Result.andThen_ok]
    rfl
  · simp [hes, mcells]
  · have hq' : q = b := hq
    subst hq'
    exact ⟨.inl rfl, Nat.lt_of_lt_of_le (hc.lt _ (List.mem_of_getElem? hp) q rfl) hk.size⟩
theorem OL.mapDel {k e : TypeId} {b p : Nat} {m : MP} {s : ByteArray} {t2 : TypeId} {F : Item → List Item} (hx : evl l x = some (true, .map (some b))) (hy : evl l y = some (true, .string s)) (ht : mapT P t = some (k, e)) (hH : Hole p H (mapS b m) F) (hin : (mget m s).isSome = true)
    (kk : OL P n ops Q rest l (Cls (F (mapS b (mdel m s))) S)) : OL P n ops Q (⟨none, .call { callee := .builtin .delete, args := #[x, y], argTypes := #[t, t2] }, ty, pos, af, none⟩ :: rest) l (Cls H S) := by
  obtain ⟨hp, hF⟩ := hH.eq
  rw [hF] at kk
  obtain ⟨h1, h2⟩ := mapT_spec ht
  refine ⟨fun a w hs hc => ?_⟩
  refine wpList_plain rfl fun K hK => ?_
  show Oper.upon P _ a K Q ((execOp a.eval _).run P w)
  obtain ⟨es, clock, hb, hes⟩ := hc.item (List.mem_of_getElem? hp)
  rcases now_str es.toList m 0 s hes with ⟨h3, h4⟩ | ⟨j, v, h3, h4, _, h5, h6⟩
  · rw [h4] at hin; cases hin
  rw [Nat.zero_add] at h3
  obtain ⟨hh, hk⟩ := set_heap (o' := .map (es.eraseIdxIfInBounds j) clock) hb
  have hr : (Builtin.delete_ #[t, t2] ty #[.map (some b), .string s]).run P w = .ok (.tuple #[]) { w with heap := w.heap.setIfInBounds b (.map (es.eraseIdxIfInBounds j) clock) } := by
    simp [Builtin.delete_, run_underlying h1, Go.MapKept.run_getObj_map (P := P) hb, run_checkKey h2 (isKey_str s), run_findKey h2 h3, run_setObj_map _ hb]
  simp only [execOp, resolve, invoke, builtin, Sem.run_bind, Sem.run_pure, Result.andThen_ok, List.map_toArray, List.map_cons, List.map_nil, hs.eval hx rfl, hs.eval hy rfl, hr]
  refine hK _ _ (kk.run a _ hs (hc.turn p hp (j := mapS b (mdel m s)) hk ⟨_, _, hh, ?_⟩ (fun q hq => ?_) (fun q hq => hq)))
  · have : (es.eraseIdxIfInBounds j).toList = es.toList.eraseIdx j := by
      unfold Array.eraseIdxIfInBounds
      rw [dif_pos (by simpa using h6)]
      simp
    rw [this]; exact h5
  · have hq' : q = b := hq
    subst hq'
    exact ⟨.inl rfl, Nat.lt_of_lt_of_le (hc.lt _ (List.mem_of_getElem? hp) q rfl) hk.size⟩
end
end Go.Eng

/- Nodes of four cells (two strings, two pointers), each in a block of its own: an item for a table of them; loads, stores of the pointers, new ones, comparisons of pointers. General. No condition. -/
namespace Go.Eng
open Go.RowKit
structure Nd where
  key : ByteArray
  val : ByteArray
  nx : Option Nat
  pr : Option Nat
abbrev NdT := Nat → Option Nd
def ptrV (k : Nat) : Value := .pointer (some ⟨k, 0, none⟩)
def ptrO : Option Nat → Value | none => .pointer none | some k => .pointer (some ⟨k, 0, none⟩)
def ndc (x : Nd) : List Value := [.string x.key, .string x.val, ptrO x.nx, ptrO x.pr]
def setNx (f : NdT) (b v : Nat) : NdT := fun k => if k = b then (f k).map fun y => { y with nx := some v } else f k
def setPr (f : NdT) (b v : Nat) : NdT := fun k => if k = b then (f k).map fun y => { y with pr := some v } else f k
theorem setNx_some {f : NdT} {b v k : Nat} : (setNx f b v k).isSome = (f k).isSome := by unfold setNx; split <;> simp
theorem setPr_some {f : NdT} {b v k : Nat} : (setPr f b v k).isSome = (f k).isSome := by unfold setPr; split <;> simp
def fset (f : NdT) (b : Nat) (x : Nd) : NdT := fun k => if k = b then some x else f k
theorem fset_same {f : NdT} {b : Nat} {x : Nd} : fset f b x b = some x := by simp [fset]
theorem fset_other {f : NdT} {b k : Nat} {x : Nd} (h : k ≠ b) : fset f b x k = f k := by simp [fset, h]
theorem fset_some {f : NdT} {b k : Nat} {x : Nd} (h : (f k).isSome = true) : (fset f b x k).isSome = true := by
  unfold fset; split <;> simp_all
/-- the nodes of the table f -/
def nds (t : TypeId) (f : NdT) : Item :=
  ⟨fun k => (f k).isSome = true, fun w => ∀ k x, f k = some x → w.heap[k]? = some (.cells (ndc x).toArray t (0, 0)), fun w w' hk h k x hx => (hk k (by simp [hx])).trans (h k x hx)⟩
theorem NotOwned.nds {H : List Item} {t : TypeId} {f : NdT} {k : Nat} (h : f k = none) (r : NotOwned H k) : NotOwned (Eng.nds t f :: H) k := NotOwned.any (fun hm => by
  have hm' : (f k).isSome = true := hm
  rw [h] at hm'; cases hm') r
section
variable {P : Program} {n : Nm} {l : Env} {H : List Item} {S : List World} {C : World → Prop} {c : Bool} {d : Option Nat} {ty : TypeId} {pos : String} {af : Array Edge} {g : Option (Nat × Bool)}
variable {ops : Array Oper} {rest : List Oper} {Q : Exit → Act → World → Prop} {t : TypeId} {x y z : Operand} {cx cy cz : Bool}
theorem Pev.load_nd {b o : Nat} {t' : TypeId} {f : NdT} {ky va : ByteArray} {nx pr : Option Nat} {v : Value} (hx : evl l x = some (cx, .pointer (some ⟨b, o, none⟩))) (hcx : c = true → cx = true) (hp : nds t' f ∈ H) (hs : scalB P t = true) (hf : f b = some ⟨ky, va, nx, pr⟩) (hv : ([.string ky, .string va, ptrO nx, ptrO pr] : List Value)[o]? = some v) :
    Pev P n l (Cls H S) ⟨d, .load t x, ty, pos, af, g⟩ c v :=
  .load_of hx hcx fun _ w hw => run_loadVar_scal hs (by
    have hb : (blk b t' (ndc ⟨ky, va, nx, pr⟩)).holds w := hw.item hp b _ hf
    rw [blk_cell hb]; exact hv)
theorem OL.storeNd {p b o : Nat} {t' : TypeId} {f : NdT} {nd nd' : Nd} {v : Value} {F : Item → List Item} (hx : evl l x = some (true, .pointer (some ⟨b, o, none⟩))) (hy : evl l y = some (true, v)) (hv : v.cells = #[v]) (h1 : oneL [v] = true) (hs : sizeN P t = some 1)
    (hH : Hole p H (nds t' f) F) (hf : f b = some nd) (ho : o < 4) (hnd : ndc nd' = (ndc nd).set o v) (kk : OL P n ops Q rest l (Cls (F (nds t' (fset f b nd'))) S)) : OL P n ops Q (⟨none, .store t x y, ty, pos, af, none⟩ :: rest) l (Cls H S) := by
  obtain ⟨hp, hF⟩ := hH.eq
  rw [hF] at kk
  refine OL.store_ (C' := Cls (H.set p (nds t' (fset f b nd'))) S) rfl rfl (fun a w hs' hc => ?_) kk
  have hb := hc.item (List.mem_of_getElem? hp) b nd hf
  obtain ⟨w', hr, hh, hkp⟩ := run_storeAt_blk (P := P) (t := t) (o := o) (vs := [v]) hb hs hv rfl (by simp [ndc]; omega) h1
  have own : (nds t' f).own b := by show (f b).isSome = true; rw [hf]; rfl
  refine ⟨w', ?_, hc.turn p hp (j := nds t' (fset f b nd')) (hkp.mono fun k _ hk => by rw [hk]; exact own) (fun k u hu => ?_) (fun q hq => ?_) (fun q hq => fset_some hq)⟩
  · simp only [execOp, hs'.eval hx rfl, hs'.eval hy rfl, Sem.run_bind, hr, Result.andThen_ok]; rfl
  · by_cases hkb : k = b
    · subst hkb
      rw [fset_same] at hu
      cases hu
      rw [hh, hnd]; rfl
    · rw [fset_other hkb] at hu
      have h3 := hc.item (List.mem_of_getElem? hp) k u hu
      exact (hkp.block k (Array.getElem?_eq_some_iff.1 h3).1 hkb).trans h3
  · have hq' : (fset f b nd' q).isSome = true := hq
    have hq2 : (f q).isSome = true := by
      by_cases hqb : q = b
      · subst hqb; rw [hf]; rfl
      · rwa [fset_other hqb] at hq'
    exact ⟨.inl hq2, Nat.lt_of_lt_of_le (hc.lt _ (List.mem_of_getElem? hp) q hq2) hkp.size⟩
theorem OL.storeNx {p b k : Nat} {t' : TypeId} {f : NdT} {F : Item → List Item} (hx : evl l x = some (true, .pointer (some ⟨b, 2, none⟩))) (hy : evl l y = some (true, .pointer (some ⟨k, 0, none⟩))) (hs : sizeN P t = some 1)
    (hH : Hole p H (nds t' f) F) (hf : (f b).isSome = true) (kk : OL P n ops Q rest l (Cls (F (nds t' (setNx f b k))) S)) : OL P n ops Q (⟨none, .store t x y, ty, pos, af, none⟩ :: rest) l (Cls H S) := by
  obtain ⟨nd, hnd⟩ := Option.isSome_iff_exists.1 hf
  refine OL.storeNd (nd' := { nd with nx := some k }) hx hy rfl rfl hs hH hnd (by decide) rfl ?_
  have : fset f b { nd with nx := some k } = setNx f b k := by
    funext j
    unfold fset setNx
    by_cases hj : j = b
    · rw [if_pos hj, if_pos hj, hj, hnd]; rfl
    · rw [if_neg hj, if_neg hj]
  rw [this]; exact kk
theorem OL.storePr {p b k : Nat} {t' : TypeId} {f : NdT} {F : Item → List Item} (hx : evl l x = some (true, .pointer (some ⟨b, 3, none⟩))) (hy : evl l y = some (true, .pointer (some ⟨k, 0, none⟩))) (hs : sizeN P t = some 1)
    (hH : Hole p H (nds t' f) F) (hf : (f b).isSome = true) (kk : OL P n ops Q rest l (Cls (F (nds t' (setPr f b k))) S)) : OL P n ops Q (⟨none, .store t x y, ty, pos, af, none⟩ :: rest) l (Cls H S) := by
  obtain ⟨nd, hnd⟩ := Option.isSome_iff_exists.1 hf
  refine OL.storeNd (nd' := { nd with pr := some k }) hx hy rfl rfl hs hH hnd (by decide) rfl ?_
  have : fset f b { nd with pr := some k } = setPr f b k := by
    funext j
    unfold fset setPr
    by_cases hj : j = b
    · rw [if_pos hj, if_pos hj, hj, hnd]; rfl
    · rw [if_neg hj, if_neg hj]
  rw [this]; exact kk
/-- a block becomes a node -/
theorem Cls.nd_new {b : Nat} {t' : TypeId} {f : NdT} {nd : Nd} {w : World} (h : Cls (blk b t' (ndc nd) :: nds t' f :: H) S w) : Cls (nds t' (fset f b nd) :: H) S w := by
  have hd := List.pairwise_cons.1 h.dj
  have hd2 := List.pairwise_cons.1 hd.2
  refine ⟨fun i hi => ?_, fun i hi => ?_, .cons (fun j hj k hk hk' => ?_) hd2.2, fun s hs => (h.kp s hs).mono fun k _ ⟨j, hj, hjk⟩ => ?_⟩
  · cases hi with
    | head =>
      intro k u hu
      by_cases hkb : k = b
      · subst hkb
        rw [fset_same] at hu; cases hu
        exact h.holds _ (.head _)
      · rw [fset_other hkb] at hu
        exact h.holds _ (.tail _ (.head _)) k u hu
    | tail _ hi => exact h.holds _ (.tail _ (.tail _ hi))
  · cases hi with
    | head =>
      intro k hk
      have hk' : (fset f b nd k).isSome = true := hk
      by_cases hkb : k = b
      · subst hkb; exact h.lt _ (.head _) k rfl
      · rw [fset_other hkb] at hk'
        exact h.lt _ (.tail _ (.head _)) k hk'
    | tail _ hi => exact h.lt _ (.tail _ (.tail _ hi))
  · have hk2 : (fset f b nd k).isSome = true := hk
    by_cases hkb : k = b
    · subst hkb; exact hd.1 j (.tail _ hj) k rfl hk'
    · rw [fset_other hkb] at hk2
      exact hd2.1 j hj k hk2 hk'
  · cases hj with
    | head =>
      have hjk' : k = b := hjk
      exact ⟨_, .head _, by show (fset f b nd k).isSome = true; rw [hjk', fset_same]; rfl⟩
    | tail _ hj =>
      cases hj with
      | head => exact ⟨_, .head _, by show (fset f b nd k).isSome = true; exact fset_some hjk⟩
      | tail _ hj => exact ⟨_, .tail _ hj, hjk⟩
/-- a block is no node -/
theorem Cls.nd_fresh {b : Nat} {t' t2 : TypeId} {cs : List Value} {f : NdT} {w : World} (h : Cls (blk b t2 cs :: nds t' f :: H) S w) : f b = none := by
  have hd := (List.pairwise_cons.1 h.dj).1 _ (.head _) b rfl
  have hd' : ¬ (f b).isSome = true := hd
  cases hfb : f b with
  | none => rfl
  | some x => rw [hfb] at hd'; exact absurd rfl hd'
theorem Cls.nds_zero {w : World} {t' : TypeId} (h : Cls H S w) : Cls (nds t' (fun _ => none) :: H) S w :=
  h.add (Keep.refl _ _) _ (fun k x hx => by cases hx) (fun k hk => by
    have hk' : ((none : Option Nd)).isSome = true := hk
    cases hk')
/-! comparisons of pointers -/
theorem guard_ptr {op : BinOp} {x y : Operand} {p p' : Option Addr} {w : World} : (eqGuard op t x y (.pointer p) (.pointer p')).run P w = .ok () w := by cases op <;> rfl
def ptrB (P : Program) (t : TypeId) : Bool := match P.underlying t with | some (.pointer e) => (match P.info? e with | some j => !Nat.beq j.size 0 | none => false) && (Nat.beq (P.pointee t) e) | _ => false
theorem ptrB_spec (h : ptrB P t = true) : ∃ e j, P.underlying t = some (.pointer e) ∧ P.info? e = some j ∧ j.size ≠ 0 ∧ P.pointee t = e := by
  unfold ptrB at h
  split at h
  · rename_i e he
    split at h
    · rename_i j hj
      simp only [Bool.and_eq_true, Bool.not_eq_true'] at h
      exact ⟨e, j, he, hj, fun hh => by rw [hh] at h; simp at h, Nat.eq_of_beq_eq_true h.2⟩
    · simp at h
  · cases h
theorem Bin.ptr_nil {p : Option Addr} (hu : ptrB P t = true) : Bin P .eql t (.pointer p) (.pointer none) (.bool p.isNone) := ⟨fun x y w => by
  obtain ⟨e, j, h1, h2, h3, h4⟩ := ptrB_spec hu
  rw [Sem.run_bind, guard_ptr, Result.andThen_ok]
  have := run_eql_pointer_nil (P := P) (w := w) t p (by rw [h4]; exact h1)
  rw [this]⟩
theorem Bin.ptr_nnil {p : Option Addr} (hu : ptrB P t = true) : Bin P .neq t (.pointer p) (.pointer none) (.bool (!p.isNone)) := ⟨fun x y w => by
  obtain ⟨e, j, h1, h2, h3, h4⟩ := ptrB_spec hu
  rw [Sem.run_bind, guard_ptr, Result.andThen_ok]
  have := run_neq_pointer_nil (P := P) (w := w) t p (by rw [h4]; exact h1)
  rw [this]⟩
theorem run_neq_ptr_other {tp te : TypeId} {j : TypeInfo} {w : World} {a b : Addr} {ca cb : Array Value} {ta tb : TypeId} (hp : P.underlying tp = some (.pointer te)) (hte : P.info? te = some j) (hsz : j.size ≠ 0)
    (hne : a ≠ b) (ha : w.heap[a.block]? = some (.cells ca ta (0, 0))) (hb : w.heap[b.block]? = some (.cells cb tb (0, 0))) :
    (binOp .neq tp (.pointer (some a)) (.pointer (some b))).run P w = .ok (.bool true) w := by
  have h : ∀ d : Nat, (Op.equalIn (d + 1) tp (.pointer (some a)) (.pointer (some b))).run P w = .ok false w := fun d => by
    simp [Op.equalIn, run_underlying hp, sizeOf, typeInfo, hte, hsz, run_sameAddr_other w hne ha hb]
  simp only [binOp]
  simp [Op.equal, Op.maxDepth, h 9999]
theorem Pev.nd_neq {a b : Nat} {t' : TypeId} {f : NdT} {yt : TypeId} (hx : evl l x = some (cx, .pointer (some ⟨a, 0, none⟩))) (hcx : c = true → cx = true) (hy : evl l y = some (cy, .pointer (some ⟨b, 0, none⟩))) (hcy : c = true → cy = true) (hu : ptrB P t = true)
    (hp : nds t' f ∈ H) (ha : (f a).isSome = true) (hb : (f b).isSome = true) : Pev P n l (Cls H S) ⟨d, .binOp .neq t x y yt, ty, pos, af, g⟩ c (.bool (!decide (a = b))) :=
  .of_run fun h ac w hs' hw => by
    obtain ⟨e, j, h1, h2, h3, h4⟩ := ptrB_spec hu
    have hr : (binOp .neq t (.pointer (some ⟨a, 0, none⟩)) (.pointer (some ⟨b, 0, none⟩))).run P w = .ok (.bool (!decide (a = b))) w := by
      by_cases hab : a = b
      · subst hab
        rw [Lib.run_neq_ptr_same w _ h1 h2]; simp
      · obtain ⟨xa, hxa⟩ := Option.isSome_iff_exists.1 ha
        obtain ⟨xb, hxb⟩ := Option.isSome_iff_exists.1 hb
        rw [run_neq_ptr_other h1 h2 h3 (fun hh => hab (by cases hh; rfl)) (hw.item hp a xa hxa) (hw.item hp b xb hxb)]
        simp [hab]
    simp only [execOp, hs'.eval hx (hcx h), hs'.eval hy (hcy h), Sem.run_bind, guard_ptr, hr, Result.andThen_ok]
    rfl
theorem Pev.slice_hm {e : TypeId} {sz len cp j m : Nat} {k' k'' : IntKind} {b e3 : Int} {q : Option Addr} {u : Operand} {cu : Bool} (hx : evl l x = some (cx, .slice q len cp)) (hcx : c = true → cx = true)
    (hz : evl l z = some (cz, .int k' b)) (hcz : c = true → cz = true) (hm : evl l u = some (cu, .int k'' e3)) (hcm : c = true → cu = true) (hu : slElem P t = some (e, sz)) (hb : b = (j : Int)) (hm3 : e3 = (m : Int)) (hr : c = true → j ≤ m ∧ m ≤ cp) :
    Pev P n l C ⟨d, .slice t x none (some z) (some u), ty, pos, af, g⟩ c (.slice q j m) :=
  .of_run fun h a w hs hw => by
    subst hb
    subst hm3
    obtain ⟨h2, h3⟩ := hr h
    obtain ⟨hus, hsz⟩ := slElem_both hu
    simp only [execOp, hs.eval hx (hcx h), Option.map_some, Option.map_none, hs.eval hz (hcz h), hs.eval hm (hcm h), Instr.sliceAt, Instr.slice, Sem.run_bind, run_underlying hus, Result.andThen_ok, Instr.sliceBounds, Instr.sliceBound, asIntOf, Sem.run_pure, run_sizeN hsz]
    simp [h2, h3, add_zero_]
theorem row_le {w : World} {base m cap size : Nat} {O : Nat → Prop} {q : Option Addr} {e : TypeId} {xs : List Value} (h : (row base O q m cap e size xs).holds w) : m ≤ cap := by
  rcases h.2.2 with ⟨h3, h4⟩ | ⟨g, cap', cur, h3, hb, hg, h4, h5⟩
  · omega
  · simp only [Value.slice.injEq] at h3
    obtain ⟨_, _, rfl⟩ := h3
    exact h4
theorem Thin.row {base m cap size : Nat} {O : Nat → Prop} {q : Option Addr} {e : TypeId} {xs : List Value} {H' : List Item} (hb : AllLe S base) (h : Thin S H H') : Thin S (Eng.row base O q m cap e size xs :: H) H' :=
  Thin.any (fun k hk => by
    have := hb.mem
    have hk' : base ≤ k := hk.1
    clear hk hb h
    induction S with
    | nil => trivial
    | cons s S ih => exact ⟨Nat.le_trans (this s (.head _)) hk', ih fun s hs => this s (.tail _ hs)⟩) h
theorem W.ex {α : Type} {code : Code} {C : α → World → Prop} (h : ∀ x, W P n code Q l (C x)) : W P n code Q l (fun w => ∃ x, C x w) := ⟨fun a w hs ⟨x, hc⟩ => (h x).run a w hs hc⟩
theorem OL.ex {α : Type} {C : α → World → Prop} (h : ∀ x, OL P n ops Q rest l (C x)) : OL P n ops Q rest l (fun w => ∃ x, C x w) := ⟨fun a w hs ⟨x, hc⟩ => (h x).run a w hs hc⟩
theorem Pev.lookup_o {k e : TypeId} {b : Nat} {m : MP} {s : ByteArray} {o : Option Nat} (hx : evl l x = some (cx, .map (some b))) (hcx : c = true → cx = true) (hy : evl l y = some (cy, .string s)) (hcy : c = true → cy = true) (ht : mapT P t = some (k, e)) (hz : zeroV P e = some (.pointer none)) (hm : mapS b m ∈ H) (hg : mget m s = o.map fun j => .pointer (some ⟨j, 0, none⟩)) :
    Pev P n l (Cls H S) ⟨d, .lookup t x y false, ty, pos, af, g⟩ c (.pointer (o.map fun j => ⟨j, 0, none⟩)) := by
  cases o with
  | none => exact .lookup_no hx hcx hy hcy ht hz hm hg
  | some j => exact .lookup_in hx hcx hy hcy ht hz hm hg
end
end Go.Eng

/- Rows: a full block is one; one row appended to another; a part of one; results of which the first stands in a block. General. No condition. -/
namespace Go.Eng
open Go.RowKit
section
variable {P : Program} {n : Nm} {l : Env} {H : List Item} {S : List World} {C : World → Prop} {c : Bool} {d : Option Nat} {ty : TypeId} {pos : String} {af : Array Edge} {g : Option (Nat × Bool)}
variable {ops : Array Oper} {rest : List Oper} {Q : Exit → Act → World → Prop}
variable {t : TypeId} {x y z : Operand} {cx cy cz : Bool}
theorem Cls.blk_row {b base m sz : Nat} {e : TypeId} {cs : List Value} {w : World} (h : Cls (blk b e cs :: H) S w) (hb : base ≤ b) (hl : cs.length = m * sz) (hm : m ≤ maxLen) : Cls (row base (fun k => k = b) (some ⟨b, 0, none⟩) m m e sz cs :: H) S w := by
  have hd := List.pairwise_cons.1 h.dj
  have h0 : (blk b e cs).holds w := h.holds _ (.head _)
  refine ⟨fun i hi => ?_, fun i hi => ?_, .cons (fun j hj k hk => hd.1 j hj k hk.2) hd.2, fun s hs => (h.kp s hs).mono fun k _ ⟨j, hj, hjk⟩ => ?_⟩
  · cases hi with
    | head => exact ⟨fun a ha => by cases ha; rfl, hl, .inr ⟨b, m, cs.toArray, rfl, hb, h0, Nat.le_refl _, hm, by simpa using hl, List.take_of_length_le (by simp [hl])⟩⟩
    | tail _ hi => exact h.holds _ (.tail _ hi)
  · cases hi with
    | head => exact fun k hk => h.lt _ (.head _) k hk.2
    | tail _ hi => exact h.lt _ (.tail _ hi)
  · cases hj with
    | head =>
      have hjk' : k = b := hjk
      exact ⟨_, .head _, by rw [hjk']; exact hb, hjk'⟩
    | tail _ hj => exact ⟨_, .tail _ hj, hjk⟩
theorem run_append_src_nil {w : World} {ty e : TypeId} {i : TypeInfo} {q : Option Addr} {m cap : Nat} (ht : P.underlying t = some (.slice e)) (hi : P.info? e = some i) (hc : m ≤ cap) :
    (Builtin.append_ #[t, t] ty #[.slice q m cap, .slice none 0 0]).run P w = .ok (.slice q m cap) w := by
  cases q <;> simp [Builtin.append_, run_underlying ht, sizeOf, typeInfo, hi, Builtin.lenOf, hc, Builtin.firstCells, loadCells, loadCellsFrom, storeCells]
/-- one row behind another -/
theorem OL.appendRR {F : Item → List Item} {e : TypeId} {dd sz bb p m cap cap2 m2 base base2 : Nat} {O O2 : Nat → Prop} {q q2 : Option Addr} {xs news : List Value}
    (hx : evl l x = some (true, .slice q m cap)) (hy : evl l y = some (true, .slice q2 m2 cap2)) (hn : Nat.ble (dd + 1) n.n = true)
    (hu : rowElem P t = some (e, sz, bb)) (hp' : Hole p H (row base O q m cap e sz xs) F) (hr2 : row base2 O2 q2 m2 cap2 e sz news ∈ H) (h1 : oneL news = true) (hpos : 0 < m)
    (hs : ∃ s ∈ S, base ≤ s.heap.size) (hlim : (m + m2) ≤ 9223372036854775807 ∧ (m + m2) * bb ≤ 140737488355328)
    (k : ∀ (O' : Nat → Prop) (g' cap' : Nat), OL P n ops Q rest ((dd, true, .slice (some ⟨g', 0, none⟩) (m + m2) cap') :: l) (Cls (F (row base O' (some ⟨g', 0, none⟩) (m + m2) cap' e sz (xs ++ news))) S)) :
    OL P n ops Q (⟨some dd, .call { callee := .builtin .append, args := #[x, y], argTypes := #[t, t] }, ty, pos, af, none⟩ :: rest) l (Cls H S) := by
  have hp := hp'.eq.1
  have hF := hp'.eq.2
  refine OL.newT (α := (Nat → Prop) × Nat × Nat) (C' := fun r w => Cls (H.set p (row base r.1 (some ⟨r.2.1, 0, none⟩) (m + m2) r.2.2 e sz (xs ++ news))) S w) rfl rfl hn (fun r => .slice (some ⟨r.2.1, 0, none⟩) (m + m2) r.2.2) (fun a w hs' hc => ?_) (fun r => by rw [← hF]; exact k r.1 r.2.1 r.2.2)
  obtain ⟨i, z, g1, g2, g3, g4, g5, g6, g7⟩ := rowElem_spec hu
  obtain ⟨s, hsm, hsb⟩ := hs
  have hbw : base ≤ w.heap.size := Nat.le_trans hsb (hc.kp s hsm).size
  have hi := hc.item (List.mem_of_getElem? hp)
  have hi2 := hc.item hr2
  obtain ⟨gx, rfl⟩ := row_some hi hpos
  rcases hi2.2.2 with ⟨h3, h4⟩ | ⟨g, cap', cur, h3, hb, hg, h4, h5, h6, h7⟩
  · cases h3
    have hne : news = [] := List.eq_nil_of_length_eq_zero (by have := hi2.2.1; omega)
    subst hne
    refine ⟨(O, gx, cap), w, ?_, ?_⟩
    · simp only [execOp, resolve, invoke, builtin, Sem.run_bind, Sem.run_pure, Result.andThen_ok, List.map_toArray, List.map_cons, List.map_nil, hs'.eval hx rfl, hs'.eval hy rfl, run_append_src_nil (P := P) (w := w) (ty := ty) (q := some ⟨gx, 0, none⟩) g1 g2 (row_le hi)]
      rfl
    · simp only [List.append_nil, Nat.add_zero]
      rwa [set_same hp]
  · simp only [Value.slice.injEq] at h3
    obtain ⟨rfl, _, rfl⟩ := h3
    have hl := hi2.2.1
    have hnews : ∀ j u, news[j]? = some u → w.cell? ((⟨g, 0, none⟩ : Addr).add j) = some u := fun j u hj => by
      rw [add_mid, Nat.zero_add]
      exact row_cell hi2 hj
    obtain ⟨v', w', hr, h2, h3, h4', h5'⟩ := run_append_own_at (P := P) (w := w) base t ty e i z sz bb g1 g2 g3 g4 g5 g6 g7 _ m xs hi.2 ⟨g, 0, none⟩ m2 cap2 news hl hnews (fun u hu => oneL_mem h1 u hu) hlim.1 hlim.2 hbw
    rcases h2.2 with ⟨rfl, h0⟩ | ⟨g', cap', cur', rfl, hb', hg', hrest⟩
    · omega
    · refine ⟨(fun k => O k ∨ k = g', g', cap'), w', ?_, ?_⟩
      · simp only [execOp, resolve, invoke, builtin, Sem.run_bind, Sem.run_pure, Result.andThen_ok, List.map_toArray, List.map_cons, List.map_nil, hs'.eval hx rfl, hs'.eval hy rfl, hr]
      · have hown : ∀ k, some k = (Value.slice (some ⟨gx, 0, none⟩) m cap).ownBlock → base ≤ k ∧ O k := fun k hk => by
          simp only [Value.ownBlock, Option.some.injEq] at hk
          subst hk
          exact ⟨(World.ownsRow.lt hi.2 _ rfl).1, hi.1 _ rfl⟩
        refine hc.turn p hp (j := row base (fun k => O k ∨ k = g') (some ⟨g', 0, none⟩) (m + m2) cap' e sz (xs ++ news)) ⟨h3.os, h3.tape, h3.output, h3.size, fun k hk hO => h3.block k hk (fun e => hO (hown k e))⟩ ?_ ?_ ?_
        · exact ⟨fun a ha => by cases ha; exact .inr rfl, h2⟩
        · intro k hk
          have hlt : g' < w'.heap.size := (Array.getElem?_eq_some_iff.1 hg').1
          rcases hk.2 with h | h
          · exact ⟨.inl ⟨hk.1, h⟩, Nat.lt_of_lt_of_le (hc.lt _ (List.mem_of_getElem? hp) k ⟨hk.1, h⟩) h3.size⟩
          · subst h
            refine ⟨?_, hlt⟩
            rcases h5' with h5' | h5'
            · exact .inl (hown k (by rw [← h5']; rfl))
            · simp only [Value.ownBlock, Option.some.injEq] at h5'
              exact .inr (by omega)
        · exact fun k hk => ⟨hk.1, .inl hk.2⟩
/-- the first elements of a row -/
theorem row_part {base m k cap sz : Nat} {O : Nat → Prop} {q : Option Addr} {e : TypeId} {xs : List Value} {w : World} (h : (row base O q m cap e sz xs).holds w) (hk : k ≤ m) : (row base O q k cap e sz (xs.take (k * sz))).holds w := by
  refine ⟨h.1, ?_⟩
  obtain ⟨h1, h2⟩ := h.2
  have hle : k * sz ≤ m * sz := Nat.mul_le_mul_right _ hk
  refine ⟨by rw [List.length_take]; omega, ?_⟩
  rcases h2 with ⟨h3, h4⟩ | ⟨g, cap', cur, h3, hb, hg, h4, h5, h6, h7⟩
  · simp only [Value.slice.injEq] at h3
    obtain ⟨rfl, rfl, rfl⟩ := h3
    obtain rfl : k = 0 := by omega
    exact .inl ⟨rfl, rfl⟩
  · simp only [Value.slice.injEq] at h3
    obtain ⟨rfl, _, rfl⟩ := h3
    refine .inr ⟨g, cap, cur, rfl, hb, hg, by omega, h5, h6, ?_⟩
    conv => rhs; rw [← h7]
    rw [List.take_take, Nat.min_eq_left hle]
theorem Cls.row_part {base m k cap sz : Nat} {O : Nat → Prop} {q : Option Addr} {e : TypeId} {xs : List Value} {w : World} (h : Cls (row base O q m cap e sz xs :: H) S w) (hk : k ≤ m) : Cls (row base O q k cap e sz (xs.take (k * sz)) :: H) S w := by
  have hd := List.pairwise_cons.1 h.dj
  refine ⟨fun i hi => ?_, fun i hi => ?_, .cons (fun j hj k' hk' => hd.1 j hj k' hk') hd.2, fun s hs => (h.kp s hs).mono fun k' _ ⟨j, hj, hjk⟩ => ?_⟩
  · cases hi with
    | head => exact Eng.row_part (h.holds _ (.head _)) hk
    | tail _ hi => exact h.holds _ (.tail _ hi)
  · cases hi with
    | head => exact fun k' hk' => h.lt (row base O q m cap e sz xs) (.head _) k' hk'
    | tail _ hi => exact h.lt _ (.tail _ hi)
  · cases hj with
    | head => exact ⟨_, .head _, hjk⟩
    | tail _ hj => exact ⟨_, .tail _ hj, hjk⟩
theorem At.cls {e : Exit} {C' : World → Prop} (hc : ∀ w, C w → C' w) (h : At n Q e l C') : At n Q e l C := ⟨fun a w s c => h.run a w s (hc w c)⟩
theorem At.finCT {mm : Nat} {rr : Option Nat} {fn : Func} {R : Ending → World → Prop} {tt b k u : Nat} {t' : TypeId} {cs : List Value} {v : Value} (hr : fn.results = #[.cell tt ty, .tmp u]) (ht : look l tt = some (true, .pointer (some ⟨b, 0, none⟩))) (hp : blk b t' cs ∈ H) (hs : aggN P ty = some k) (hk : cs.length = k)
    (hu : look l u = some (true, v)) (h : ∀ w, Cls H S w → R (.returned (.tuple #[.agg cs.toArray, v])) w) : At ⟨mm, [], rr⟩ (bodyPost P fn R) .ret l (Cls H S) :=
  ⟨fun a w hs' hc => ⟨hs'.df, .tuple #[.agg cs.toArray, v], by
    have h1 := hs'.at_ tt true _ ht
    have h3 := hs'.at_ u true _ hu
    have h2 := run_loadVar_agg (P := P) (t := ty) (vs := cs) (a := ⟨b, 0, none⟩) (w := w) (by rw [hk]; exact hs) (fun j v hj => by rw [add_mid, Nat.zero_add, blk_cell (hc.item hp)]; exact hj)
    simp [results, hr, Array.getD_eq_getD_getElem?, h1, asAddr, h2, h3], h w hc⟩⟩
theorem At.finCTT {mm : Nat} {rr : Option Nat} {fn : Func} {R : Ending → World → Prop} {tt b k u u2 : Nat} {t' : TypeId} {cs : List Value} {v v2 : Value} (hr : fn.results = #[.cell tt ty, .tmp u, .tmp u2]) (ht : look l tt = some (true, .pointer (some ⟨b, 0, none⟩))) (hp : blk b t' cs ∈ H) (hs : aggN P ty = some k) (hk : cs.length = k)
    (hu : look l u = some (true, v)) (hu2 : look l u2 = some (true, v2)) (h : ∀ w, Cls H S w → R (.returned (.tuple #[.agg cs.toArray, v, v2])) w) : At ⟨mm, [], rr⟩ (bodyPost P fn R) .ret l (Cls H S) :=
  ⟨fun a w hs' hc => ⟨hs'.df, .tuple #[.agg cs.toArray, v, v2], by
    have h1 := hs'.at_ tt true _ ht
    have h3 := hs'.at_ u true _ hu
    have h4 := hs'.at_ u2 true _ hu2
    have h2 := run_loadVar_agg (P := P) (t := ty) (vs := cs) (a := ⟨b, 0, none⟩) (w := w) (by rw [hk]; exact hs) (fun j v hj => by rw [add_mid, Nat.zero_add, blk_cell (hc.item hp)]; exact hj)
    simp [results, hr, Array.getD_eq_getD_getElem?, h1, asAddr, h2, h3, h4], h w hc⟩⟩
end
end Go.Eng

/- Append of a slice that reads, of any length, to a grown row. General. No condition. -/
namespace Go.Eng
open Go.RowKit
section
variable {P : Program} {n : Nm} {l : Env} {H : List Item} {S : List World} {C : World → Prop} {ty : TypeId} {pos : String} {af : Array Edge}
variable {ops : Array Oper} {rest : List Oper} {Q : Exit → Act → World → Prop} {t : TypeId} {x y : Operand}
theorem run_append_src_nil2 {w : World} {ty e : TypeId} {i : TypeInfo} {q : Option Addr} {m cap cap2 : Nat} (ht : P.underlying t = some (.slice e)) (hi : P.info? e = some i) (hc : m ≤ cap) :
    (Builtin.append_ #[t, t] ty #[.slice q m cap, .slice none 0 cap2]).run P w = .ok (.slice q m cap) w := by
  cases q <;> simp [Builtin.append_, run_underlying ht, sizeOf, typeInfo, hi, Builtin.lenOf, hc, Builtin.firstCells, loadCells, loadCellsFrom, storeCells]
theorem OL.appendK {F : Item → List Item} {e : TypeId} {dd sz bb p m cap cap2 m2 base : Nat} {O : Nat → Prop} {q q2 : Option Addr} {xs news : List Value}
    (hx : evl l x = some (true, .slice q m cap)) (hy : evl l y = some (true, .slice q2 m2 cap2)) (hn : Nat.ble (dd + 1) n.n = true)
    (hu : rowElem P t = some (e, sz, bb)) (hp' : Hole p H (row base O q m cap e sz xs) F) (hsl : ∀ w, Cls H S w → SlAt w w.heap.size q2 news) (hl : news.length = m2 * sz) (h1 : oneL news = true)
    (hs : ∃ s ∈ S, base ≤ s.heap.size) (hlim : (m + m2) ≤ 9223372036854775807 ∧ (m + m2) * bb ≤ 140737488355328)
    (k : ∀ (O' : Nat → Prop) (q' : Option Addr) (cap' : Nat), OL P n ops Q rest ((dd, true, .slice q' (m + m2) cap') :: l) (Cls (F (row base O' q' (m + m2) cap' e sz (xs ++ news))) S)) :
    OL P n ops Q (⟨some dd, .call { callee := .builtin .append, args := #[x, y], argTypes := #[t, t] }, ty, pos, af, none⟩ :: rest) l (Cls H S) := by
  have hp := hp'.eq.1
  have hF := hp'.eq.2
  refine OL.newT (α := (Nat → Prop) × Option Addr × Nat) (C' := fun r w => Cls (H.set p (row base r.1 r.2.1 (m + m2) r.2.2 e sz (xs ++ news))) S w) rfl rfl hn (fun r => .slice r.2.1 (m + m2) r.2.2) (fun a w hs' hc => ?_) (fun r => by rw [← hF]; exact k r.1 r.2.1 r.2.2)
  obtain ⟨i, z, g1, g2, g3, g4, g5, g6, g7⟩ := rowElem_spec hu
  obtain ⟨s, hsm, hsb⟩ := hs
  have hbw : base ≤ w.heap.size := Nat.le_trans hsb (hc.kp s hsm).size
  have hi := hc.item (List.mem_of_getElem? hp)
  cases q2 with
  | none =>
    have hm2 : news = [] := by
      cases news with
      | nil => rfl
      | cons v r =>
        obtain ⟨a, ha, _⟩ := hsl w hc (by simp)
        cases ha
    subst hm2
    have hm0 : m2 = 0 := by
      rcases Nat.eq_zero_or_pos m2 with h0 | h0
      · exact h0
      · have := Nat.mul_pos h0 g7
        simp at hl
        omega
    subst hm0
    refine ⟨(O, q, cap), w, ?_, ?_⟩
    · simp only [execOp, resolve, invoke, builtin, Sem.run_bind, Sem.run_pure, Result.andThen_ok, List.map_toArray, List.map_cons, List.map_nil, hs'.eval hx rfl, hs'.eval hy rfl, run_append_src_nil2 (P := P) (cap2 := cap2) (w := w) (ty := ty) (q := q) g1 g2 (row_le hi)]
      rfl
    · simp only [List.append_nil, Nat.add_zero]
      rwa [set_same hp]
  | some ad =>
    have hnews : ∀ j u, news[j]? = some u → w.cell? (ad.add j) = some u := fun j u hj => by
      obtain ⟨a, ha, _, hca⟩ := hsl w hc (by have := (List.getElem?_eq_some_iff.1 hj).1; omega)
      obtain rfl := Option.some.inj ha
      exact hca j u hj
    obtain ⟨v', w', hr, h2, h3, h4, h5⟩ := run_append_own_at (P := P) (w := w) base t ty e i z sz bb g1 g2 g3 g4 g5 g6 g7 _ m xs hi.2 ad m2 cap2 news hl hnews (fun u hu => oneL_mem h1 u hu) hlim.1 hlim.2 hbw
    have hown : ∀ k, some k = (Value.slice q m cap).ownBlock → base ≤ k ∧ O k := fun k hk => by
      cases q with
      | none => simp [Value.ownBlock] at hk
      | some a =>
        simp only [Value.ownBlock, Option.some.injEq] at hk
        subst hk
        exact ⟨(World.ownsRow.lt hi.2 _ rfl).1, hi.1 _ rfl⟩
    rcases h2.2 with ⟨rfl, h0⟩ | ⟨g', cap', cur, rfl, hb', hg', hrest⟩
    · refine ⟨(O, none, 0), w', ?_, ?_⟩
      · simp only [execOp, resolve, invoke, builtin, Sem.run_bind, Sem.run_pure, Result.andThen_ok, List.map_toArray, List.map_cons, List.map_nil, hs'.eval hx rfl, hs'.eval hy rfl, hr, h0]
      · rw [h0] at h2 ⊢
        refine hc.turn p hp (j := row base O none 0 0 e sz (xs ++ news)) ⟨h3.os, h3.tape, h3.output, h3.size, fun k hk hO => h3.block k hk (fun e => hO (hown k e))⟩ ⟨fun a ha => (by cases ha), h2⟩ (fun k hk => ⟨.inl hk, Nat.lt_of_lt_of_le (hc.lt _ (List.mem_of_getElem? hp) k hk) h3.size⟩) (fun k hk => hk)
    · refine ⟨(fun k => O k ∨ k = g', some ⟨g', 0, none⟩, cap'), w', ?_, ?_⟩
      · simp only [execOp, resolve, invoke, builtin, Sem.run_bind, Sem.run_pure, Result.andThen_ok, List.map_toArray, List.map_cons, List.map_nil, hs'.eval hx rfl, hs'.eval hy rfl, hr]
      · refine hc.turn p hp (j := row base (fun k => O k ∨ k = g') (some ⟨g', 0, none⟩) (m + m2) cap' e sz (xs ++ news)) ⟨h3.os, h3.tape, h3.output, h3.size, fun k hk hO => h3.block k hk (fun e => hO (hown k e))⟩ ?_ ?_ ?_
        · exact ⟨fun a ha => by cases ha; exact .inr rfl, h2⟩
        · intro k hk
          have hlt : g' < w'.heap.size := (Array.getElem?_eq_some_iff.1 hg').1
          rcases hk.2 with h | h
          · exact ⟨.inl ⟨hk.1, h⟩, Nat.lt_of_lt_of_le (hc.lt _ (List.mem_of_getElem? hp) k ⟨hk.1, h⟩) h3.size⟩
          · subst h
            refine ⟨?_, hlt⟩
            rcases h5 with h5 | h5
            · exact .inl (hown k (by rw [← h5]; rfl))
            · simp only [Value.ownBlock, Option.some.injEq] at h5
              exact .inr (by omega)
        · exact fun k hk => ⟨hk.1, .inl hk.2⟩
end
end Go.Eng

/- Append onto a full slice that reads (a new row), and onto a slice that is a block of the call's own. General. No condition. -/
namespace Go.Eng
open Go.RowKit
section
variable {P : Program} {n : Nm} {l : Env} {H : List Item} {S : List World} {C : World → Prop} {ty : TypeId} {pos : String} {af : Array Edge}
variable {ops : Array Oper} {rest : List Oper} {Q : Exit → Act → World → Prop} {t : TypeId} {x y : Operand}
theorem Hole.at {p : Nat} {i : Item} {F : Item → List Item} (h : Hole p H i F) (j : Item) : Hole p (F j) j F := by
  induction h with
  | z => exact Hole.z
  | s _ ih => exact Hole.s ih
theorem Cls.blk_row_at {p b base m sz : Nat} {e : TypeId} {cs : List Value} {w : World} {F : Item → List Item} (hh : Hole p H (blk b e cs) F) (h : Cls H S w) (hb : base ≤ b) (hl : cs.length = m * sz) (hm : m ≤ maxLen) :
    Cls (F (row base (fun k => k = b) (some ⟨b, 0, none⟩) m m e sz cs)) S w := by
  obtain ⟨h1, h2⟩ := hh.eq
  rw [h2]
  have hmem := List.mem_of_getElem? h1
  have h0 : (blk b e cs).holds w := h.holds _ hmem
  refine h.turn p h1 (Keep.refl _ _) ⟨fun a ha => by cases ha; rfl, hl, .inr ⟨b, m, cs.toArray, rfl, hb, h0, Nat.le_refl _, hm, by simpa using hl, List.take_of_length_le (by simp [hl])⟩⟩ (fun k hk => ?_) (fun k hk => ?_)
  · exact ⟨.inl hk.2, h.lt _ hmem k hk.2⟩
  · have hk' : k = b := hk
    exact ⟨by rw [hk']; exact hb, hk'⟩
/-- one slice behind a block that is full -/
theorem OL.appendB {F : Item → List Item} {e : TypeId} {dd sz bb p m cap2 m2 base b : Nat} {q2 : Option Addr} {cs news : List Value}
    (hx : evl l x = some (true, .slice (some ⟨b, 0, none⟩) m m)) (hy : evl l y = some (true, .slice q2 m2 cap2)) (hn : Nat.ble (dd + 1) n.n = true)
    (hu : rowElem P t = some (e, sz, bb)) (hp' : Hole p H (blk b e cs) F) (hb : base ≤ b) (hlc : cs.length = m * sz) (hsl : ∀ w, Cls (F (row base (fun k => k = b) (some ⟨b, 0, none⟩) m m e sz cs)) S w → SlAt w w.heap.size q2 news) (hl : news.length = m2 * sz) (h1 : oneL news = true)
    (hs : ∃ s ∈ S, base ≤ s.heap.size) (hlim : (m + m2) ≤ 9223372036854775807 ∧ (m + m2) * bb ≤ 140737488355328)
    (k : ∀ (O' : Nat → Prop) (q' : Option Addr) (cap' : Nat), OL P n ops Q rest ((dd, true, .slice q' (m + m2) cap') :: l) (Cls (F (row base O' q' (m + m2) cap' e sz (cs ++ news))) S)) :
    OL P n ops Q (⟨some dd, .call { callee := .builtin .append, args := #[x, y], argTypes := #[t, t] }, ty, pos, af, none⟩ :: rest) l (Cls H S) := by
  refine OL.cls (C' := Cls (F (row base (fun k => k = b) (some ⟨b, 0, none⟩) m m e sz cs)) S) (fun w hw => hw.blk_row_at hp' hb hlc (by simp only [maxLen]; omega)) ?_
  exact OL.appendK hx hy hn hu (hp'.at _) hsl hl h1 hs hlim k
/-- one slice behind another one that is full: a new row -/
theorem OL.appendF {F : Item → List Item} {e : TypeId} {dd sz bb p m cap2 m2 base : Nat} {q q2 : Option Addr} {xs news : List Value}
    (hx : evl l x = some (true, .slice q m m)) (hy : evl l y = some (true, .slice q2 m2 cap2)) (hn : Nat.ble (dd + 1) n.n = true)
    (hu : rowElem P t = some (e, sz, bb)) (hp' : Hole p H nothing F) (hsx : ∀ w, Cls H S w → SlAt w w.heap.size q xs) (hlx : xs.length = m * sz) (hsl : ∀ w, Cls H S w → SlAt w w.heap.size q2 news) (hl : news.length = m2 * sz) (h1 : oneL news = true) (hpos : 0 < m2)
    (hs : ∃ s ∈ S, base ≤ s.heap.size) (hlim : (m + m2) ≤ 9223372036854775807 ∧ (m + m2) * bb ≤ 140737488355328) (hq0 : q = none → m = 0)
    (k : ∀ (O' : Nat → Prop) (q' : Option Addr) (cap' : Nat), OL P n ops Q rest ((dd, true, .slice q' (m + m2) cap') :: l) (Cls (F (row base O' q' (m + m2) cap' e sz (xs ++ news))) S)) :
    OL P n ops Q (⟨some dd, .call { callee := .builtin .append, args := #[x, y], argTypes := #[t, t] }, ty, pos, af, none⟩ :: rest) l (Cls H S) := by
  refine OL.newT (α := (Nat → Prop) × Option Addr × Nat) (C' := fun r w => Cls (F (row base r.1 r.2.1 (m + m2) r.2.2 e sz (xs ++ news))) S w) rfl rfl hn (fun r => .slice r.2.1 (m + m2) r.2.2) (fun a w hs' hc => ?_) (fun r => k r.1 r.2.1 r.2.2)
  obtain ⟨i, z, g1, g2, g3, g4, g5, g6, g7⟩ := rowElem_spec hu
  obtain ⟨s, hsm, hsb⟩ := hs
  have hbw : base ≤ w.heap.size := Nat.le_trans hsb (hc.kp s hsm).size
  have hnl : 0 < news.length := by rw [hl]; exact Nat.mul_pos hpos g7
  obtain ⟨ad, rfl, _, hca⟩ := hsl w hc hnl
  have hnews : ∀ j u, news[j]? = some u → w.cell? (ad.add j) = some u := fun j u hj => hca j u hj
  have key : ∃ v' w', (Builtin.append_ #[t, t] ty #[.slice q m m, .slice (some ad) m2 cap2]).run P w = .ok v' w' ∧ w'.ownsRow w.heap.size e sz v' (m + m2) (xs ++ news) ∧ w.grownBy w' none := by
    cases q with
    | none =>
      have hm := hq0 rfl
      subst hm
      have hxs : xs = [] := List.eq_nil_of_length_eq_zero (by omega)
      subst hxs
      obtain ⟨v', w', hr, h2, h3, h4, h5⟩ := run_append_own_at (P := P) (w := w) w.heap.size t ty e i z sz bb g1 g2 g3 g4 g5 g6 g7 (.slice none 0 0) 0 [] ⟨by simp, .inl ⟨rfl, rfl⟩⟩ ad m2 cap2 news hl hnews (fun u hu => oneL_mem h1 u hu) (by simp only [maxLen]; omega) hlim.2 (Nat.le_refl _)
      exact ⟨v', w', hr, h2, h3⟩
    | some ax =>
      have holds : ∀ j u, xs[j]? = some u → w.cell? (ax.add j) = some u := fun j u hj => by
        obtain ⟨a2, e2, _, hc2⟩ := hsx w hc (by have := (List.getElem?_eq_some_iff.1 hj).1; omega)
        obtain rfl := Option.some.inj e2
        exact hc2 j u hj
      exact run_append_arg_grows (P := P) (w := w) t ty e i z sz bb g1 g2 g3 g4 g5 g6 g7 ax m m xs hlx holds ad m2 cap2 news hl hnews (by omega) (by simp only [maxLen]; omega) hlim.2
  obtain ⟨v', w', hr, h2, h3⟩ := key
  have hext : Ext w w' := ⟨h3.os, h3.tape, h3.output, h3.size, fun k hk hn => h3.block k hk (fun h => by cases h)⟩
  rcases h2.2 with ⟨_, h0⟩ | ⟨g', cap', cur, rfl, hb', hg', hrest⟩
  · omega
  · refine ⟨(fun k => k = g', some ⟨g', 0, none⟩, cap'), w', ?_, ?_⟩
    · simp only [execOp, resolve, invoke, builtin, Sem.run_bind, Sem.run_pure, Result.andThen_ok, List.map_toArray, List.map_cons, List.map_nil, hs'.eval hx rfl, hs'.eval hy rfl, hr]
    · refine Cls.fill hp' (hc.add hext _ ⟨fun a ha => by cases ha; rfl, h2.1, .inr ⟨g', cap', cur, rfl, Nat.le_trans hbw hb', hg', hrest⟩⟩ (fun k hk => ?_))
      have hk' : k = g' := hk.2
      rw [hk']
      exact ⟨hb', (Array.getElem?_eq_some_iff.1 hg').1⟩
end
end Go.Eng

/- The walks of modules.Check and of the reference's ModulesError. Conditions: none. -/
namespace Go.Proofs.Ytgllgllbgojhfaa.mo
open Go.RowKit Go.Eng Go.Mo
set_option maxRecDepth 100000
theorem Check_calls (q q' : Option Addr) (cap cap' : Nat) (l : List ByteArray) (ll : List (List ByteArray)) (w : World) (hlen : l.length ≤ 9223372036854775807) (hcap : l.length ≤ cap) (h : SlAt w w.heap.size q (strs l))
    (hlen' : ll.length ≤ 9223372036854775807) (h' : StrRows w w.heap.size q' ll) :
    Calls Try.prog 13 #[.slice q l.length cap, .slice q' ll.length cap'] w fun e w' => e = .returned (.int .i64 (chk l ll)) ∧ Ext w w' := by
  refine enter Try.func13 rfl Try.ntmps13 rfl (Cls.start w) ?_
  (simp only [argEnv, Nat.zero_add, Nat.reduceAdd])
  apply W.sr
  apply oas; rfl; rfl
  apply OL.nx
  apply W.sb
  apply W.sr
  apply omv; rfl; rfl
  apply oop; rfl; apply Pev.len_slice; rfl; exact yes; rfl
  apply obn; rfl; rfl; rfl; apply Bin.gtr
  apply oas; rfl; rfl
  apply OL.nx
  (refine W.cnd (fun h1 => ?_) (fun h1 => ?_)) <;> (try (exfalso; first | omega | exact h1 trivial | contradiction))
  · apply W.sr
    apply oas; rfl; rfl
    apply OL.nx
    refine W.rt ?_
    ((with_reducible apply At.fin1); rfl; rfl; intro w' hw')
    exact ⟨by simp [chk, show 16 < l.length by omega], by (exact hw'.fr)⟩
  apply W.sr
  apply omv; rfl; rfl
  apply oop; rfl; apply Pev.len_slice; rfl; exact yes; rfl
  apply omv; rfl; rfl
  apply oop; rfl; apply Pev.len_slice; rfl; exact yes; rfl
  apply obn; rfl; rfl; rfl; apply Bin.neq
  apply oas; rfl; rfl
  apply OL.nx
  (refine W.cnd (fun h2 => ?_) (fun h2 => ?_)) <;> (try (exfalso; first | omega | exact h2 trivial | contradiction))
  · apply W.sr
    apply oas; rfl; rfl
    apply OL.nx
    refine W.rt ?_
    ((with_reducible apply At.fin1); rfl; rfl; intro w' hw')
    exact ⟨by simp [chk, show ¬ 16 < l.length by omega, show ¬ ll.length = l.length by omega], by (exact hw'.fr)⟩
  apply W.skip
  with_reducible apply At.in_normal
  with_reducible apply At.next
  apply W.seq
  apply W.sr
  apply omv; rfl; rfl
  apply oop; rfl; apply Pev.len_slice; rfl; exact yes; rfl
  apply omv; rfl; rfl
  apply OL.nx
  apply W.block
  have hsz : ∀ w2, Cls [] [w] w2 → (∀ p : Addr, p.block < w.heap.size → w2.cell? p = w.cell? p) ∧ w.heap.size ≤ w2.heap.size := fun w2 hw2 =>
    ⟨hw2.below (s := w) (by exact mau) (Nat.le_refl _) (fun k hk => by exact NotOwned.au), (hw2.kp w (by exact mau)).size⟩
  refine W.loop (G := Nat) (fun i => i ≤ l.length ∧ ∀ j u, j < i → l[j]? = some u → hasB (l.take j) u = false) (fun i => l.length - i)
    (fun i => [(23, true, .int .i64 (i : Int)), (22, true, .int .i64 (l.length : Int)), (21, true, .slice q l.length cap), (0, true, .slice q l.length cap), (1, true, .slice q' ll.length cap')])
    (fun i => Cls [] [w]) 0 ⟨by omega, fun j u hj => by omega⟩ (by exact Sub.au) (fun w' hw' => hw') ?_
  rintro i ⟨hi, hno⟩
  apply W.sr
  apply obn; rfl; rfl; rfl; apply Bin.lss
  apply OL.nx
  apply W.seq
  (refine W.cnd (fun hlt => ?_) (fun hlt => ?_)) <;> (try (exfalso; first | omega | exact hlt trivial | contradiction))
  · have hil : i < l.length := by omega
    obtain ⟨a, u, rfl, hab, hu, hcell⟩ := h.str hil
    have hti : (l.take i).length = i := by rw [List.length_take]; omega
    have key : ∀ w2, Cls [] [w] w2 → Calls Try.prog 7 #[.slice (some a) i cap, .string u] w2 fun e w3 => e = .returned (.bool (hasB (l.take i) u)) ∧ Cls [] [w] w3 := fun w2 hw2 => by
      have hcc := Contains_calls (some a) cap (l.take i) u w2 (by omega) ((take_at h i).keep (hsz w2 hw2).1 (hsz w2 hw2).2)
      rw [hti] at hcc
      exact hcc.mono (fun e w3 h => ⟨h.1, hw2.ext h.2⟩)
    apply W.sk
    apply W.sb
    apply W.sr
    apply omv; rfl; rfl
    apply oop; rfl; apply Pev.idx; rfl; exact yes; rfl; exact yes; rfl; rfl; intro hcond; omega
    apply oop; rfl; apply Pev.load_kept; rfl; exact yes; exact .head _; rfl; intro hcond; assumption; intro hcond; (rw [add_block]; assumption); intro hcond; exact NotOwned.au
    apply oas; rfl; rfl
    apply oas; rfl; rfl
    apply OL.nsr
    apply omv; rfl; rfl
    apply omv; rfl; rfl
    apply oop; rfl; apply Pev.slice_hi; rfl; exact yes; rfl; exact yes; rfl; rfl; intro hcond; omega
    apply omv; rfl; rfl
    (((first | (with_reducible apply OL.op) | (with_reducible apply QL.op)); (exact Guard.au); rfl; rfl); (exact Pev.call rfl (by exact Args.au) (fun _ w2 hw2 => key w2 hw2)))
    apply OL.nx
    (refine W.cnd (fun hd => ?_) (fun hd => ?_)) <;> (try (exfalso; first | omega | exact hd trivial | contradiction))
    · apply W.sr
      apply oas; rfl; rfl
      apply OL.nx
      refine W.rt ?_
      ((with_reducible apply At.fin1); rfl; rfl; intro w' hw')
      exact ⟨by simp [chk, show ¬ 16 < l.length by omega, show ll.length = l.length by omega, dupA_yes hu hd], by (exact hw'.fr)⟩
    · apply W.skip
      with_reducible apply At.in_normal
      with_reducible apply At.next
      apply W.reg
      apply obn; rfl; rfl; rfl; apply Bin.add_in; omega
      apply omv; rfl; rfl
      apply OL.nil
      refine At.again (i + 1) ⟨by omega, fun j u' hj hu' => ?_⟩ (by omega) (by exact Sub.au) (fun w' hw' => hw')
      by_cases hji : j = i
      · subst hji
        rw [hu] at hu'
        rw [← Option.some.inj hu']
        simpa using hd
      · exact hno j u' (by omega) hu'
  · have hdup : dupA l = false := dupA_no fun j u hu => hno j u (by have := (List.getElem?_eq_some_iff.1 hu).1; omega) hu
    refine W.xt ?_
    with_reducible apply At.next
    apply W.seq
    apply W.sr
    apply omv; rfl; rfl
    apply oop; rfl; apply Pev.len_slice; rfl; exact yes; rfl
    apply omv; rfl; rfl
    apply OL.nx
    apply W.block
    refine W.loop (G := Nat) (fun i => i ≤ ll.length ∧ ∀ j m, j < i → ll[j]? = some m → ∀ (k : Nat) (s : ByteArray), m[k]? = some s → hasB l s = true) (fun i => ll.length - i)
      (fun i => [(36, true, .int .i64 (i : Int)), (35, true, .int .i64 (ll.length : Int)), (34, true, .slice q' ll.length cap'), (0, true, .slice q l.length cap)])
      (fun i => Cls [] [w]) 0 ⟨by omega, fun j u hj => by omega⟩ (by exact Sub.au) (fun w' hw' => hw') ?_
    rintro i2 ⟨hi2, hno2⟩
    apply W.sr
    apply obn; rfl; rfl; rfl; apply Bin.lss
    apply OL.nx
    apply W.seq
    (refine W.cnd (fun hlt2 => ?_) (fun hlt2 => ?_)) <;> (try (exfalso; first | omega | exact hlt2 trivial | contradiction))
    · have hil : i2 < ll.length := by omega
      obtain ⟨m, hm⟩ : ∃ m, ll[i2]? = some m := ⟨_, List.getElem?_eq_getElem hil⟩
      obtain ⟨a, q2, cap2, rfl, hab, hcell, hmcap, hmlen, hms⟩ := h'.get i2 m hm
      apply W.sk
      apply W.sb
      apply W.sr
      apply oop; rfl; apply Pev.idx; rfl; exact yes; rfl; exact yes; rfl; rfl; intro hcond; omega
      apply oop; rfl; apply Pev.load_kept; rfl; exact yes; exact .head _; rfl; intro hcond; assumption; intro hcond; (rw [add_block]; assumption); intro hcond; exact NotOwned.au
      apply oas; rfl; rfl
      apply OL.nsr
      apply omv; rfl; rfl
      apply oop; rfl; apply Pev.len_slice; rfl; exact yes; rfl
      apply omv; rfl; rfl
      apply OL.nx
      apply W.block
      refine W.loop (G := Nat) (fun k => k ≤ m.length ∧ ∀ (j : Nat) (s : ByteArray), j < k → m[j]? = some s → hasB l s = true) (fun k => m.length - k)
        (fun k => [(42, true, .int .i64 (k : Int)), (41, true, .int .i64 (m.length : Int)), (40, true, .slice q2 m.length cap2), (36, true, .int .i64 (i2 : Int)), (35, true, .int .i64 (ll.length : Int)), (34, true, .slice (some a) ll.length cap'), (0, true, .slice q l.length cap)])
        (fun k => Cls [] [w]) 0 ⟨by omega, fun j u hj => by omega⟩ (by exact Sub.au) (fun w' hw' => hw') ?_
      rintro k ⟨hk, hno3⟩
      apply W.sr
      apply obn; rfl; rfl; rfl; apply Bin.lss
      apply OL.nx
      apply W.seq
      (refine W.cnd (fun hlt3 => ?_) (fun hlt3 => ?_)) <;> (try (exfalso; first | omega | exact hlt3 trivial | contradiction))
      · obtain ⟨a3, s, rfl, hab3, hs, hcell3⟩ := hms.str (show k < m.length by omega)
        apply W.sk
        apply W.sb
        apply W.sr
        apply oop; rfl; apply Pev.idx; rfl; exact yes; rfl; exact yes; rfl; rfl; intro hcond; omega
        apply oop; rfl; apply Pev.load_kept; rfl; exact yes; exact .head _; rfl; intro hcond; assumption; intro hcond; (rw [add_block]; assumption); intro hcond; exact NotOwned.au
        apply oas; rfl; rfl
        apply OL.nsr
        apply omv; rfl; rfl
        apply omv; rfl; rfl
        (((first | (with_reducible apply OL.op) | (with_reducible apply QL.op)); (exact Guard.au); rfl; rfl); (exact Pev.call rfl (by exact Args.au) (fun _ w2 hw2 => (Contains_calls q cap l s w2 hlen (h.keep (hsz w2 hw2).1 (hsz w2 hw2).2)).mono (fun e w3 h => ⟨h.1, hw2.ext h.2⟩))))
        apply oop; rfl; apply Pev.not; rfl; exact yes
        apply OL.nx
        (refine W.cnd (fun hd => ?_) (fun hd => ?_)) <;> (try (exfalso; first | omega | exact hd trivial | contradiction))
        · apply W.sr
          apply oas; rfl; rfl
          apply OL.nx
          refine W.rt ?_
          ((with_reducible apply At.fin1); rfl; rfl; intro w' hw')
          exact ⟨by simp [chk, show ¬ 16 < l.length by omega, show ll.length = l.length by omega, hdup, miss_yes hm hs (by simpa using hd)], by (exact hw'.fr)⟩
        · apply W.skip
          with_reducible apply At.in_normal
          with_reducible apply At.next
          apply W.reg
          apply obn; rfl; rfl; rfl; apply Bin.add_in; omega
          apply omv; rfl; rfl
          apply OL.nil
          refine At.again (k + 1) ⟨by omega, fun j s' hj hs' => ?_⟩ (by omega) (by exact Sub.au) (fun w' hw' => hw')
          by_cases hjk : j = k
          · subst hjk
            rw [hs] at hs'
            rw [← Option.some.inj hs']
            simpa using hd
          · exact hno3 j s' (by omega) hs'
      · refine W.xt ?_
        with_reducible apply At.in_normal
        with_reducible apply At.next
        apply W.reg
        apply obn; rfl; rfl; rfl; apply Bin.add_in; omega
        apply omv; rfl; rfl
        apply OL.nil
        refine At.again (i2 + 1) ⟨by omega, fun j m' hj hm' k' s' hs' => ?_⟩ (by omega) (by exact Sub.au) (fun w' hw' => hw')
        by_cases hji : j = i2
        · subst hji
          rw [hm] at hm'
          obtain rfl := Option.some.inj hm'
          exact hno3 k' s' (by have := (List.getElem?_eq_some_iff.1 hs').1; omega) hs'
        · exact hno2 j m' (by omega) hm' k' s' hs'
    · refine W.xt ?_
      with_reducible apply At.next
      apply W.sr
      apply oas; rfl; rfl
      apply OL.nx
      apply W.ret
      ((with_reducible apply At.fin1); rfl; rfl; intro w' hw')
      have hmiss : miss l ll = false := miss_no fun j m hm => hno2 j m (by have := (List.getElem?_eq_some_iff.1 hm).1; omega) hm
      exact ⟨by simp [chk, show ¬ 16 < l.length by omega, show ll.length = l.length by omega, hdup, hmiss], by (exact hw'.fr)⟩
theorem Err_calls (q q' : Option Addr) (cap cap' : Nat) (l : List ByteArray) (ll : List (List ByteArray)) (w : World) (hlen : l.length ≤ 9223372036854775807) (hcap : l.length ≤ cap) (h : SlAt w w.heap.size q (strs l))
    (hlen' : ll.length ≤ 9223372036854775807) (h' : StrRows w w.heap.size q' ll) :
    Calls Try.prog 6 #[.slice q l.length cap, .slice q' ll.length cap'] w fun e w' => e = .returned (.int .i64 (err l ll)) ∧ Ext w w' := by
  refine enter Try.func6 rfl Try.ntmps6 rfl (Cls.start w) ?_
  (simp only [argEnv, Nat.zero_add, Nat.reduceAdd])
  apply W.sr
  apply oas; rfl; rfl
  apply OL.nx
  apply W.seq
  apply W.sr
  apply omv; rfl; rfl
  apply oop; rfl; apply Pev.len_slice; rfl; exact yes; rfl
  apply obn; rfl; rfl; rfl; apply Bin.gtr
  apply OL.nx
  (refine W.cnd (fun h1 => ?_) (fun h1 => ?_)) <;> (try (exfalso; first | omega | exact h1 trivial | contradiction))
  · apply W.sr
    apply oas; rfl; rfl
    apply OL.nx
    refine W.rt ?_
    ((with_reducible apply At.fin1); rfl; rfl; intro w' hw')
    exact ⟨by simp [err, show 16 < l.length by omega], by (exact hw'.fr)⟩
  apply W.sk
  apply W.seq
  apply W.sr
  apply omv; rfl; rfl
  apply oop; rfl; apply Pev.len_slice; rfl; exact yes; rfl
  apply omv; rfl; rfl
  apply oop; rfl; apply Pev.len_slice; rfl; exact yes; rfl
  apply obn; rfl; rfl; rfl; apply Bin.neq
  apply OL.nx
  (refine W.cnd (fun h2 => ?_) (fun h2 => ?_)) <;> (try (exfalso; first | omega | exact h2 trivial | contradiction))
  · apply W.sr
    apply oas; rfl; rfl
    apply OL.nx
    refine W.rt ?_
    ((with_reducible apply At.fin1); rfl; rfl; intro w' hw')
    exact ⟨by simp [err, show ¬ 16 < l.length by omega, show ¬ l.length = ll.length by omega], by (exact hw'.fr)⟩
  apply W.sk
  apply W.seq
  apply W.sr
  apply omv; rfl; rfl
  apply oop; rfl; apply Pev.len_slice; rfl; exact yes; rfl
  apply omv; rfl; rfl
  apply OL.nx
  apply W.block
  have hsz : ∀ w2, Cls [] [w] w2 → (∀ p : Addr, p.block < w.heap.size → w2.cell? p = w.cell? p) ∧ w.heap.size ≤ w2.heap.size := fun w2 hw2 =>
    ⟨hw2.below (s := w) (by exact mau) (Nat.le_refl _) (fun k hk => by exact NotOwned.au), (hw2.kp w (by exact mau)).size⟩
  refine W.loop (G := Nat) (fun i => i ≤ l.length ∧ ∀ j u, j < i → l[j]? = some u → hasB (l.drop (j + 1)) u = false) (fun i => l.length - i)
    (fun i => [(20, true, .int .i64 (i : Int)), (19, true, .int .i64 (l.length : Int)), (0, true, .slice q l.length cap), (1, true, .slice q' ll.length cap')])
    (fun i => Cls [] [w]) 0 ⟨by omega, fun j u hj => by omega⟩ (by exact Sub.au) (fun w' hw' => hw') ?_
  rintro i ⟨hi, hno⟩
  apply W.sr
  apply obn; rfl; rfl; rfl; apply Bin.lss
  apply OL.nx
  apply W.seq
  (refine W.cnd (fun hlt => ?_) (fun hlt => ?_)) <;> (try (exfalso; first | omega | exact hlt trivial | contradiction))
  · have hil : i < l.length := by omega
    obtain ⟨a, u, rfl, hab, hu, hcell⟩ := h.str hil
    have hti : (l.drop (i + 1)).length = l.length - (i + 1) := by rw [List.length_drop]
    have key : ∀ w2, Cls [] [w] w2 → Calls Try.prog 17 #[.slice (cutq (some a) cap (i + 1) 1) (l.length - (i + 1)) (cap - (i + 1)), .string u] w2 fun e w3 => e = .returned (.bool (hasB (l.drop (i + 1)) u)) ∧ Cls [] [w] w3 := fun w2 hw2 => by
      have hcc := has_calls (cutq (some a) cap (i + 1) 1) (cap - (i + 1)) (l.drop (i + 1)) u w2 (by omega) ((drop_at h hcap (i + 1)).keep (hsz w2 hw2).1 (hsz w2 hw2).2)
      rw [hti] at hcc
      exact hcc.mono (fun e w3 h => ⟨h.1, hw2.ext h.2⟩)
    apply W.sk
    apply W.sb
    apply W.sr
    apply omv; rfl; rfl
    apply oas; rfl; rfl
    apply OL.nx
    apply W.seq
    apply W.regd0; decide +kernel; kernel_rfl; decide +kernel; exact fun w hw => hw.drew
    apply qmv; rfl; rfl
    apply qmv; rfl; rfl
    apply qbn; rfl; rfl; rfl; apply Bin.add_in; omega
    apply qop; rfl; apply Pev.slice_lo; rfl; exact yes; rfl; exact yes; rfl; rfl; intro hcond; (simp only [Bool.and_eq_true, Bool.or_eq_true, Bool.not_eq_true', decide_eq_true_eq, decide_eq_false_iff_not] at *; omega)
    apply qmv; rfl; rfl
    apply qmv; rfl; rfl
    apply qop; rfl; apply Pev.idx; rfl; exact yes; rfl; exact yes; rfl; rfl; intro hcond; omega
    apply qop; rfl; apply Pev.load_kept; rfl; exact yes; exact .head _; rfl; intro hcond; assumption; intro hcond; (rw [add_block]; assumption); intro hcond; exact NotOwned.au
    (((first | (with_reducible apply OL.op) | (with_reducible apply QL.op)); (exact Guard.au); rfl; rfl); (exact Pev.call rfl (by exact Args.au) (fun _ w2 hw2 => key w2 hw2)))
    apply QL.nil
    with_reducible apply At.next
    (refine W.cnd (fun hd => ?_) (fun hd => ?_)) <;> (try (exfalso; first | omega | exact hd trivial | contradiction))
    · apply W.sr
      apply oas; rfl; rfl
      apply OL.nx
      refine W.rt ?_
      ((with_reducible apply At.fin1); rfl; rfl; intro w' hw')
      exact ⟨by simp [err, show ¬ 16 < l.length by omega, show l.length = ll.length by omega, show ¬ 16 < ll.length by omega, dupB_yes hu hd], by (exact hw'.fr)⟩
    · apply W.skip
      with_reducible apply At.in_normal
      with_reducible apply At.next
      apply W.reg
      apply obn; rfl; rfl; rfl; apply Bin.add_in; omega
      apply omv; rfl; rfl
      apply OL.nil
      refine At.again (i + 1) ⟨by omega, fun j u' hj hu' => ?_⟩ (by omega) (by exact Sub.au) (fun w' hw' => hw')
      by_cases hji : j = i
      · subst hji
        rw [hu] at hu'
        rw [← Option.some.inj hu']
        simpa using hd
      · exact hno j u' (by omega) hu'
  · have hdup : dupB l = false := dupB_no fun j u hu => hno j u (by have := (List.getElem?_eq_some_iff.1 hu).1; omega) hu
    refine W.xt ?_
    with_reducible apply At.next
    apply W.seq
    apply W.sr
    apply omv; rfl; rfl
    apply oop; rfl; apply Pev.len_slice; rfl; exact yes; rfl
    apply omv; rfl; rfl
    apply OL.nx
    apply W.block
    refine W.loop (G := Nat) (fun i => i ≤ ll.length ∧ ∀ j m, j < i → ll[j]? = some m → ∀ (k : Nat) (s : ByteArray), m[k]? = some s → hasB l s = true) (fun i => ll.length - i)
      (fun i => [(35, true, .int .i64 (i : Int)), (34, true, .int .i64 (ll.length : Int)), (33, true, .slice q' ll.length cap'), (0, true, .slice q l.length cap)])
      (fun i => Cls [] [w]) 0 ⟨by omega, fun j u hj => by omega⟩ (by exact Sub.au) (fun w' hw' => hw') ?_
    rintro i2 ⟨hi2, hno2⟩
    apply W.sr
    apply obn; rfl; rfl; rfl; apply Bin.lss
    apply OL.nx
    apply W.seq
    (refine W.cnd (fun hlt2 => ?_) (fun hlt2 => ?_)) <;> (try (exfalso; first | omega | exact hlt2 trivial | contradiction))
    · have hil : i2 < ll.length := by omega
      obtain ⟨m, hm⟩ : ∃ m, ll[i2]? = some m := ⟨_, List.getElem?_eq_getElem hil⟩
      obtain ⟨a, q2, cap2, rfl, hab, hcell, hmcap, hmlen, hms⟩ := h'.get i2 m hm
      apply W.sk
      apply W.sb
      apply W.sr
      apply oop; rfl; apply Pev.idx; rfl; exact yes; rfl; exact yes; rfl; rfl; intro hcond; omega
      apply oop; rfl; apply Pev.load_kept; rfl; exact yes; exact .head _; rfl; intro hcond; assumption; intro hcond; (rw [add_block]; assumption); intro hcond; exact NotOwned.au
      apply oas; rfl; rfl
      apply OL.nsr
      apply omv; rfl; rfl
      apply oop; rfl; apply Pev.len_slice; rfl; exact yes; rfl
      apply omv; rfl; rfl
      apply OL.nx
      apply W.block
      refine W.loop (G := Nat) (fun k => k ≤ m.length ∧ ∀ (j : Nat) (s : ByteArray), j < k → m[j]? = some s → hasB l s = true) (fun k => m.length - k)
        (fun k => [(41, true, .int .i64 (k : Int)), (40, true, .int .i64 (m.length : Int)), (39, true, .slice q2 m.length cap2), (35, true, .int .i64 (i2 : Int)), (34, true, .int .i64 (ll.length : Int)), (33, true, .slice (some a) ll.length cap'), (0, true, .slice q l.length cap)])
        (fun k => Cls [] [w]) 0 ⟨by omega, fun j u hj => by omega⟩ (by exact Sub.au) (fun w' hw' => hw') ?_
      rintro k ⟨hk, hno3⟩
      apply W.sr
      apply obn; rfl; rfl; rfl; apply Bin.lss
      apply OL.nx
      apply W.seq
      (refine W.cnd (fun hlt3 => ?_) (fun hlt3 => ?_)) <;> (try (exfalso; first | omega | exact hlt3 trivial | contradiction))
      · obtain ⟨a3, s, rfl, hab3, hs, hcell3⟩ := hms.str (show k < m.length by omega)
        apply W.sk
        apply W.sb
        apply W.sr
        apply oop; rfl; apply Pev.idx; rfl; exact yes; rfl; exact yes; rfl; rfl; intro hcond; omega
        apply oop; rfl; apply Pev.load_kept; rfl; exact yes; exact .head _; rfl; intro hcond; assumption; intro hcond; (rw [add_block]; assumption); intro hcond; exact NotOwned.au
        apply oas; rfl; rfl
        apply OL.nsr
        apply omv; rfl; rfl
        apply omv; rfl; rfl
        (((first | (with_reducible apply OL.op) | (with_reducible apply QL.op)); (exact Guard.au); rfl; rfl); (exact Pev.call rfl (by exact Args.au) (fun _ w2 hw2 => (has_calls q cap l s w2 hlen (h.keep (hsz w2 hw2).1 (hsz w2 hw2).2)).mono (fun e w3 h => ⟨h.1, hw2.ext h.2⟩))))
        apply oop; rfl; apply Pev.not; rfl; exact yes
        apply OL.nx
        (refine W.cnd (fun hd => ?_) (fun hd => ?_)) <;> (try (exfalso; first | omega | exact hd trivial | contradiction))
        · apply W.sr
          apply oas; rfl; rfl
          apply OL.nx
          refine W.rt ?_
          ((with_reducible apply At.fin1); rfl; rfl; intro w' hw')
          exact ⟨by simp [err, show ¬ 16 < l.length by omega, show l.length = ll.length by omega, show ¬ 16 < ll.length by omega, hdup, miss_yes hm hs (by simpa using hd)], by (exact hw'.fr)⟩
        · apply W.skip
          with_reducible apply At.in_normal
          with_reducible apply At.next
          apply W.reg
          apply obn; rfl; rfl; rfl; apply Bin.add_in; omega
          apply omv; rfl; rfl
          apply OL.nil
          refine At.again (k + 1) ⟨by omega, fun j s' hj hs' => ?_⟩ (by omega) (by exact Sub.au) (fun w' hw' => hw')
          by_cases hjk : j = k
          · subst hjk
            rw [hs] at hs'
            rw [← Option.some.inj hs']
            simpa using hd
          · exact hno3 j s' (by omega) hs'
      · refine W.xt ?_
        with_reducible apply At.in_normal
        with_reducible apply At.next
        apply W.reg
        apply obn; rfl; rfl; rfl; apply Bin.add_in; omega
        apply omv; rfl; rfl
        apply OL.nil
        refine At.again (i2 + 1) ⟨by omega, fun j m' hj hm' k' s' hs' => ?_⟩ (by omega) (by exact Sub.au) (fun w' hw' => hw')
        by_cases hji : j = i2
        · subst hji
          rw [hm] at hm'
          obtain rfl := Option.some.inj hm'
          exact hno3 k' s' (by have := (List.getElem?_eq_some_iff.1 hs').1; omega) hs'
        · exact hno2 j m' (by omega) hm' k' s' hs'
    · refine W.xt ?_
      with_reducible apply At.next
      apply W.sr
      apply oas; rfl; rfl
      apply OL.nx
      apply W.ret
      ((with_reducible apply At.fin1); rfl; rfl; intro w' hw')
      have hmiss : miss l ll = false := miss_no fun j m hm => hno2 j m (by have := (List.getElem?_eq_some_iff.1 hm).1; omega) hm
      exact ⟨by simp [err, show ¬ 16 < l.length by omega, show l.length = ll.length by omega, show ¬ 16 < ll.length by omega, hdup, hmiss], by (exact hw'.fr)⟩
end Go.Proofs.Ytgllgllbgojhfaa.mo

/- The walk of reaches. Conditions: none. -/
namespace Go.Proofs.Ytgllgllbgojhfaa.mo
open Go.RowKit Go.Eng Go.Mo Go.Mc
set_option maxRecDepth 100000
theorem strs_oneL : ∀ l : List ByteArray, oneL (strs l) = true
  | [] => rfl
  | s :: l => by
    show (true && oneL (strs l)) = true
    rw [strs_oneL l]
    rfl
theorem strs_len (l : List ByteArray) : (strs l).length = l.length := by simp [strs]
theorem strs_app (a b : List ByteArray) : strs a ++ strs b = strs (a ++ b) := by simp [strs]
structure HS where
  k : Nat
  hs : List ByteArray
  q : Option Addr
  cap : Nat
  O : Nat → Prop
theorem reaches_calls (q q' : Option Addr) (cap cap' : Nat) (l : List ByteArray) (ll : List (List ByteArray)) (frm to : ByteArray) (n : Nat) (w : World) (hc : chk l ll = 0) (hsm : ∀ m ∈ ll, m.length ≤ 1048576) (hf : frm ∈ l) (hn : n ≤ 100) (hcap : l.length ≤ cap) (h : SlAt w w.heap.size q (strs l)) (h' : StrRows w w.heap.size q' ll) :
    Calls Try.prog 40 #[.slice q l.length cap, .slice q' ll.length cap', .string frm, .string to, .int .i64 (n : Int)] w fun e w' => e = .returned (.bool (reachP l ll frm to n)) ∧ Ext w w' := by
  obtain ⟨hl16, hll⟩ := chk_len hc
  refine enter Try.func40 rfl Try.ntmps40 rfl (Cls.start w) ?_
  (simp only [argEnv, Nat.zero_add, Nat.reduceAdd])
  apply W.sr
  apply oas; rfl; rfl
  apply OL.nsr
  apply omv; rfl; rfl
  apply OL.buildSlice; rfl; rfl; rfl; exact Elems.au; rfl; rfl; (intro bk hbk; simp only [AllLe, and_true] at hbk)
  apply oas; rfl; rfl
  apply OL.nx
  apply W.seq
  apply W.sr
  apply omv; rfl; rfl
  apply omv; rfl; rfl
  apply OL.nx
  apply W.block
  refine W.loop (G := HS) (fun g => g.k ≤ n ∧ g.hs = hereP l ll frm g.k ∧ reachP l ll frm to g.k = false) (fun g => n - g.k)
    (fun g => [(18, true, .int .i64 (g.k : Int)), (17, true, .int .i64 (n : Int)), (11, true, .slice g.q g.hs.length g.cap), (0, true, .slice q l.length cap), (1, true, .slice q' ll.length cap'), (3, true, .string to)])
    (fun g => Cls [row w.heap.size g.O g.q g.hs.length g.cap 9 1 (strs g.hs)] [w]) ⟨0, [frm], some ⟨bk, 0, none⟩, 1, fun k => k = bk⟩ ⟨Nat.zero_le _, rfl, rfl⟩ (by exact Sub.au) (fun w' hw' => ?_) ?_
  · exact Cls.blk_row_at (m := 1) (cs := [.string frm]) .z hw' hbk (by rfl) (by decide)
  rintro ⟨k, hs, qh, ch, Oh⟩ ⟨hk, hhs, hno⟩
  simp only at hk hhs hno ⊢
  apply W.sr
  apply obn; rfl; rfl; rfl; apply Bin.lss
  apply OL.nx
  apply W.seq
  (refine W.cnd (fun hlt => ?_) (fun hlt => ?_)) <;> (try (exfalso; first | omega | exact hlt trivial | contradiction))
  · apply W.sk
    apply W.sb
    apply W.sr
    apply oas; rfl; rfl
    apply OL.nx
    apply W.seq
    apply W.sr
    apply omv; rfl; rfl
    apply oop; rfl; apply Pev.len_slice; rfl; exact yes; rfl
    apply omv; rfl; rfl
    apply OL.nx
    apply W.block
    obtain ⟨hhn, hhi⟩ := here_in (ll := ll) hc hf k
    rw [← hhs] at hhn hhi
    have hhl : hs.length ≤ 16 := Nat.le_trans (nodup_le2 hhn hhi) hl16
    refine W.loop (G := HS) (fun g => g.k ≤ hs.length ∧ g.hs = (hs.take g.k).flatMap (impS l ll)) (fun g => hs.length - g.k)
      (fun g => [(22, true, .int .i64 (g.k : Int)), (21, true, .int .i64 (hs.length : Int)), (20, true, .slice qh hs.length ch), (12, true, .slice g.q g.hs.length g.cap), (18, true, .int .i64 (k : Int)), (17, true, .int .i64 (n : Int)), (0, true, .slice q l.length cap), (1, true, .slice q' ll.length cap'), (3, true, .string to)])
      (fun g => Cls [row w.heap.size g.O g.q g.hs.length g.cap 9 1 (strs g.hs), row w.heap.size Oh qh hs.length ch 9 1 (strs hs)] [w]) ⟨0, [], none, 0, fun _ => False⟩ ⟨Nat.zero_le _, rfl⟩ (by exact Sub.au) (fun w' hw' => ?_) ?_
    · exact hw'.row_nil w.heap.size 9 1
    rintro ⟨i, ms, qm, cm, Om⟩ ⟨hi, hms⟩
    simp only at hi hms ⊢
    apply W.sr
    apply obn; rfl; rfl; rfl; apply Bin.lss
    apply OL.nx
    apply W.seq
    (refine W.cnd (fun hli => ?_) (fun hli => ?_)) <;> (try (exfalso; first | omega | exact hli trivial | contradiction))
    · obtain ⟨s, hsi⟩ : ∃ s, hs[i]? = some s := ⟨_, List.getElem?_eq_getElem (by omega)⟩
      have hsl : s ∈ l := hhi s (List.mem_of_getElem? hsi)
      obtain ⟨hx1, hx2⟩ := ix_of hsl
      obtain ⟨hr1, hr2⟩ := imp_row hll hsl
      obtain ⟨a, q2, cap2, hqa, hab, hcell, hmcap, hmlen, hmst⟩ := h'.get _ _ hr2
      refine W.fact (φ := ∃ g0, qh = some ⟨g0, 0, none⟩) (fun w' hw' => row_some (hw'.item (i := row w.heap.size Oh qh hs.length ch 9 1 (strs hs)) (by exact mau)) (by omega)) (fun ⟨g0, hg0⟩ => ?_)
      subst hg0
      subst hqa
      have hel : (strs hs)[0 + (i : Int).toNat * 1]? = some (.string s) := by
        rw [show 0 + (i : Int).toNat * 1 = i by omega]
        simp [strs, hsi]
      apply W.sk
      apply W.sb
      apply W.sr
      apply oop; rfl; apply Pev.idxB; rfl; exact yes; rfl; exact yes; rfl; intro hcond; omega; rfl
      apply oop; rfl; apply Pev.load_row; rfl; exact yes; exact .tail _ (.head _); rfl; assumption
      apply oas; rfl; rfl
      apply OL.nx
      apply W.reg
      apply omv; rfl; rfl
      apply omv; rfl; rfl
      apply omv; rfl; rfl
      apply omv; rfl; rfl
      (((first | (with_reducible apply OL.op) | (with_reducible apply QL.op)); (exact Guard.au); rfl; rfl); (exact Pev.call (v := .int .i64 (ix l s : Int)) rfl (by exact Args.au) (fun _ w2 hw2 => (Index_calls q cap l s w2 (by omega) (h.keep (hw2.below (s := w) (by exact mau) (Nat.le_refl _) (fun k hk => by exact NotOwned.au)) (hw2.kp w (by exact mau)).size)).mono (fun e w3 h => ⟨by rw [h.1, hx1], hw2.ext h.2⟩))))
      have him : (impS l ll s).length ≤ 1048576 := hsm _ (List.mem_of_getElem? hr2)
      have hml : ms.length ≤ 16777216 := by
        have h1 := flat_len (l := l) hsm (hs.take i)
        rw [← hms] at h1
        have h2 : (hs.take i).length ≤ 16 := by rw [List.length_take]; omega
        exact Nat.le_trans h1 (Nat.le_trans (Nat.mul_le_mul_right _ h2) (by decide))
      apply oop; rfl; apply Pev.idx; rfl; exact yes; rfl; exact yes; rfl; rfl; intro hcond; omega
      apply oop; rfl; apply Pev.load_kept; rfl; exact yes; exact .head _; rfl; intro hcond; assumption; intro hcond; (rw [add_block]; assumption); intro hcond; exact NotOwned.au
      (apply OL.appendK (news := strs (impS l ll s))); rfl; rfl; rfl; rfl; (exact Hole.au); (exact fun w2 hw2 => hmst.keep (hw2.below (s := w) (by exact mau) (Nat.le_refl _) (fun k hk => by exact NotOwned.au)) (hw2.kp w (by exact mau)).size); (rw [strs_len, Nat.mul_one]); (exact strs_oneL _); (exact ⟨w, .head _, Nat.le_refl _⟩); (omega); (intro O1 q1 c1)
      rw [strs_app]
      apply oas; rfl; rfl
      apply OL.nil
      with_reducible apply At.in_normal
      with_reducible apply At.next
      apply W.reg
      apply obn; rfl; rfl; rfl; apply Bin.add_in; omega
      apply omv; rfl; rfl
      apply OL.nil
      refine At.again ⟨i + 1, ms ++ impS l ll s, q1, c1, O1⟩ ⟨by simp only; omega, ?_⟩ (by simp only; omega) (by simp only [List.length_append]; exact Sub.au) (fun w' hw' => by simp only [List.length_append]; exact hw')
      show ms ++ impS l ll s = _
      rw [hms, List.take_add_one, hsi]
      simp
    · obtain rfl : i = hs.length := by omega
      rw [List.take_length] at hms
      have hml : ms.length ≤ 16777216 := by
        have h1 := flat_len (l := l) hsm hs
        rw [← hms] at h1
        exact Nat.le_trans h1 (Nat.le_trans (Nat.mul_le_mul_right _ hhl) (by decide))
      refine W.xt ?_
      with_reducible apply At.next
      apply W.sr
      apply omv; rfl; rfl
      refine OL.callE (α := Unit) (fun _ => .tuple #[]) (fun _ => True) (fun _ => Cls [row w.heap.size Om qm ms.length cm 9 1 (strs (srtS ms)), row w.heap.size Oh qh hs.length ch 9 1 (strs hs)] [w]) rfl rfl (by exact Args.au) (fun w2 hw2 => (Sort_calls .z hw2 (by omega)).mono fun e w3 h => ⟨(), h.1, trivial, h.2⟩) ?_
      intro _ _
      have hsl := srtS_len ms
      rw [← hsl]
      apply OL.nsr
      apply omv; rfl; rfl
      refine OL.callE (α := Unit) (fun _ => .slice qm (cmpS (srtS ms)).length cm) (fun _ => True) (fun _ => Cls [row w.heap.size Om qm (cmpS (srtS ms)).length cm 9 1 (strs (cmpS (srtS ms))), row w.heap.size Oh qh hs.length ch 9 1 (strs hs)] [w]) rfl rfl (by exact Args.au) (fun w2 hw2 => (Compact_calls (xs := srtS ms) .z (fun _ => .z) hw2 (by omega)).mono fun e w3 h => ⟨(), h.1, trivial, h.2⟩) ?_
      intro _ _
      have e1 : cmpS (srtS ms) = hereP l ll frm (k + 1) := by
        rw [hereP, ← hhs, ← hms]
      obtain ⟨hhn1, hhi1⟩ := here_in (ll := ll) hc hf (k + 1)
      have hhl1 : (cmpS (srtS ms)).length ≤ 16 := by
        rw [e1]
        exact Nat.le_trans (nodup_le2 hhn1 hhi1) hl16
      apply oas; rfl; rfl
      apply OL.nsr
      apply omv; rfl; rfl
      apply omv; rfl; rfl
      (((first | (with_reducible apply OL.op) | (with_reducible apply QL.op)); (exact Guard.au); rfl; rfl); (exact Pev.call (v := .bool (hasB (cmpS (srtS ms)) to)) rfl (by exact Args.au) (fun _ w2 hw2 => (Contains_calls qm cm (cmpS (srtS ms)) to w2 (by omega) (SlAt.of_row (hw2.item (.head _)))).mono (fun e w3 h => ⟨h.1, hw2.ext h.2⟩))))
      apply OL.nx
      (refine W.cnd (fun hto => ?_) (fun hto => ?_)) <;> (try (exfalso; first | omega | exact hto trivial | contradiction))
      · apply W.sr
        apply oas; rfl; rfl
        apply OL.nx
        refine W.rt ?_
        ((with_reducible apply At.fin1); rfl; rfl; intro w' hw')
        have : reachP l ll frm to n = true := List.any_eq_true.2 ⟨k, List.mem_range.2 (by omega), by rw [← e1]; simpa using hto⟩
        exact ⟨by rw [this], by (exact hw'.fr)⟩
      · apply W.skip
        with_reducible apply At.in_normal
        with_reducible apply At.next
        apply W.reg
        apply obn; rfl; rfl; rfl; apply Bin.add_in; omega
        apply omv; rfl; rfl
        apply OL.nil
        refine At.again ⟨k + 1, cmpS (srtS ms), qm, cm, Om⟩ ⟨by simp only; omega, e1, ?_⟩ (by simp only; omega) (by exact Sub.au) (fun w' hw' => hw'.thin (.keep (.any (fun k hk => ⟨hk.1, trivial⟩) Thin.nil)))
        simp only
        rw [reachP_succ, hno, ← e1]
        simpa using hto
  · obtain rfl : k = n := by omega
    refine W.xt ?_
    with_reducible apply At.next
    apply W.sr
    apply oas; rfl; rfl
    apply OL.nx
    apply W.ret
    ((with_reducible apply At.fin1); rfl; rfl; intro w' hw')
    exact ⟨by rw [hno], by (exact hw'.fr)⟩
end Go.Proofs.Ytgllgllbgojhfaa.mo
