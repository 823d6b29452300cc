/- Plain: what the reference's Reaches keeps of its matrix. No program in sight. -/
import Derived.Test.YtgllgllbgojhfaaMoM
namespace Go.Mo
open Go.Eng
set_option linter.unusedVariables false
set_option linter.unusedSimpArgs false

def dir (l : List ByteArray) (ll : List (List ByteArray)) (i j : Nat) : Bool := hasB (ll.getD i []) (nm l j)
inductive Path (l : List ByteArray) (ll : List (List ByteArray)) : Nat → Nat → Prop where
  | one {i j : Nat} (hi : i < l.length) (hj : j < l.length) (h : dir l ll i j = true) : Path l ll i j
  | two {i j k : Nat} (h1 : Path l ll i k) (h2 : Path l ll k j) : Path l ll i j
structure GoodM (l : List ByteArray) (ll : List (List ByteArray)) (M : List (List Bool)) : Prop where
  len : M.length = l.length
  row : ∀ (i : Nat) (r : List Bool), M[i]? = some r → r.length = l.length
  snd : ∀ (i j : Nat) (r : List Bool), M[i]? = some r → r[j]? = some true → Path l ll i j
  inc : ∀ (i j : Nat) (r : List Bool), M[i]? = some r → j < l.length → dir l ll i j = true → r[j]? = some true
theorem GoodM.set {l : List ByteArray} {ll : List (List ByteArray)} {M : List (List Bool)} (h : GoodM l ll M) {i j k : Nat} {r rk : List Bool} (hi : M[i]? = some r) (hk : M[k]? = some rk) (h1 : r[k]? = some true) (h2 : rk[j]? = some true) :
    GoodM l ll (M.set i (r.set j true)) := by
  have hlt := (List.getElem?_eq_some_iff.1 hi).1
  have hjl : j < r.length := by
    have := (List.getElem?_eq_some_iff.1 h2).1
    rw [h.row k rk hk] at this
    rw [h.row i r hi]; exact this
  have key : ∀ (i' : Nat) (r' : List Bool), (M.set i (r.set j true))[i']? = some r' → (i' = i ∧ r' = r.set j true) ∨ (M[i']? = some r') := fun i' r' he => by
    by_cases e : i = i'
    · subst e
      rw [List.getElem?_set_self hlt] at he
      exact .inl ⟨rfl, (Option.some.inj he).symm⟩
    · rw [List.getElem?_set_ne e] at he
      exact .inr he
  refine ⟨by rw [List.length_set]; exact h.len, fun i' r' he => ?_, fun i' j' r' he hj => ?_, fun i' j' r' he hj hd => ?_⟩
  · rcases key i' r' he with ⟨rfl, rfl⟩ | he
    · rw [List.length_set]; exact h.row _ _ hi
    · exact h.row _ _ he
  · rcases key i' r' he with ⟨rfl, rfl⟩ | he
    · by_cases e : j = j'
      · subst e
        exact .two (h.snd _ _ _ hi h1) (h.snd _ _ _ hk h2)
      · rw [List.getElem?_set_ne e] at hj
        exact h.snd _ _ _ hi hj
    · exact h.snd _ _ _ he hj
  · rcases key i' r' he with ⟨rfl, rfl⟩ | he
    · by_cases e : j = j'
      · subst e
        exact List.getElem?_set_self hjl
      · rw [List.getElem?_set_ne e]
        exact h.inc _ _ _ hi hj hd
    · exact h.inc _ _ _ he hj hd
def initRow (l m : List ByteArray) : List Bool := l.map fun s => hasB m s
def initM (l : List ByteArray) (ll : List (List ByteArray)) (i : Nat) : List (List Bool) := (List.range i).map fun k => initRow l (ll.getD k [])
theorem GoodM.init (l : List ByteArray) (ll : List (List ByteArray)) : GoodM l ll (initM l ll l.length) := by
  have key : ∀ (i : Nat) (r : List Bool), (initM l ll l.length)[i]? = some r → i < l.length ∧ r = initRow l (ll.getD i []) := fun i r he => by
    have hlt : i < l.length := by
      have := (List.getElem?_eq_some_iff.1 he).1
      simpa [initM] using this
    refine ⟨hlt, ?_⟩
    unfold initM at he
    rw [List.getElem?_map, List.getElem?_range hlt] at he
    exact (Option.some.inj he).symm
  have cell : ∀ (i j : Nat), j < l.length → (initRow l (ll.getD i []))[j]? = some (dir l ll i j) := fun i j hj => by
    unfold initRow dir nm
    rw [show l.getD j ByteArray.empty = l[j] by rw [List.getD_eq_getElem?_getD, List.getElem?_eq_getElem hj]; rfl, List.getElem?_map, List.getElem?_eq_getElem hj]; rfl
  refine ⟨by simp [initM], fun i r he => ?_, fun i j r he hj => ?_, fun i j r he hj hd => ?_⟩
  · obtain ⟨hi, rfl⟩ := key i r he
    simp [initRow]
  · obtain ⟨hi, rfl⟩ := key i r he
    have hjl : j < l.length := by
      have := (List.getElem?_eq_some_iff.1 hj).1
      simpa [initRow] using this
    rw [cell i j hjl] at hj
    exact .one hi hjl (Option.some.inj hj)
  · obtain ⟨hi, rfl⟩ := key i r he
    rw [cell i j hj, hd]

/-! the reference's order -/
def mget (M : List (List Bool)) (i j : Nat) : Bool := (M.getD i []).getD j false
theorem mget_of {M : List (List Bool)} {i j : Nat} {r : List Bool} {b : Bool} (h : M[i]? = some r) (hb : r[j]? = some b) : mget M i j = b := by
  unfold mget
  rw [List.getD_eq_getElem?_getD (l := M), h, Option.getD_some, List.getD_eq_getElem?_getD, hb]; rfl
def bad (M : List (List Bool)) (out : List Nat) (i j : Nat) : Bool := mget M i j && (!decide (j ∈ out) || decide (i = j))
def okTo (M : List (List Bool)) (out : List Nat) (i j : Nat) : Bool := !decide (i ∈ out) && !((List.range j).any (bad M out i))
theorem okTo_zero (M : List (List Bool)) (out : List Nat) (i : Nat) : okTo M out i 0 = !decide (i ∈ out) := by simp [okTo]
theorem okTo_succ (M : List (List Bool)) (out : List Nat) (i j : Nat) : okTo M out i (j + 1) = (okTo M out i j && !bad M out i j) := by
  unfold okTo
  rw [List.range_succ, List.any_append, List.any_cons, List.any_nil, Bool.or_false, Bool.not_or, Bool.and_assoc]
def stepR (l : List ByteArray) (M : List (List Bool)) (out : List Nat) (b : Int) (i : Nat) : Int :=
  if (okTo M out i l.length && (decide (b < 0) || Op.bytesLess (nm l i).toList (nm l b.toNat).toList)) = true then i else b
def bestR (l : List ByteArray) (M : List (List Bool)) (out : List Nat) (k : Nat) : Int := (List.range k).foldl (stepR l M out) (-1)
theorem bestR_succ (l : List ByteArray) (M : List (List Bool)) (out : List Nat) (k : Nat) : bestR l M out (k + 1) = stepR l M out (bestR l M out k) k := by
  unfold bestR; rw [List.range_succ, List.foldl_append]; rfl
theorem bestR_in (l : List ByteArray) (M : List (List Bool)) (out : List Nat) : ∀ k, -1 ≤ bestR l M out k ∧ bestR l M out k < k
  | 0 => by unfold bestR; simp
  | k + 1 => by
    have ih := bestR_in l M out k
    rw [bestR_succ]
    unfold stepR
    split <;> omega
def mordFrom (l : List ByteArray) (M : List (List Bool)) : Nat → List Nat → Option (List Nat)
  | 0, out => some out
  | f + 1, out => if bestR l M out l.length < 0 then none else mordFrom l M f (out ++ [(bestR l M out l.length).toNat])
def usedL (n : Nat) (out : List Nat) : List Bool := (List.range n).map fun i => decide (i ∈ out)
theorem usedL_get {n i : Nat} (out : List Nat) (h : i < n) : (usedL n out)[i]? = some (decide (i ∈ out)) := by
  unfold usedL; rw [List.getElem?_map, List.getElem?_range h]; rfl
theorem usedL_set {n b : Nat} (out : List Nat) (h : b < n) : (usedL n out).set b true = usedL n (out ++ [b]) := by
  apply List.ext_getElem?
  intro i
  by_cases hi : i < n
  · rw [usedL_get _ hi]
    by_cases e : b = i
    · subst e
      rw [List.getElem?_set_self (by simpa [usedL] using hi)]
      simp
    · rw [List.getElem?_set_ne e, usedL_get _ hi]
      have : ¬ i = b := fun h => e h.symm
      simp [this]
  · rw [List.getElem?_eq_none (by simp [usedL]; omega), List.getElem?_eq_none (by simp [usedL]; omega)]
end Go.Mo
