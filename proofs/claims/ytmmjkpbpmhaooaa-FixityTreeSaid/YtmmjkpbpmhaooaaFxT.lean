/- Plain: the trees of sequences, by climbing and by splitting. No program in sight. -/
import Derived.Test.YtmmjkpbpmhaooaaFxP
namespace Go.Fx
open Go.Eng
set_option linter.unusedVariables false

inductive T where
  | leaf (n : Int)
  | node (op : ByteArray) (l r : T)
def T.size : T → Nat
  | .leaf _ => 1
  | .node _ l r => l.size + r.size + 1
theorem T.pos : ∀ t : T, 0 < t.size
  | .leaf _ => by simp [T.size]
  | .node _ _ _ => by simp [T.size]
def flat : Nat → T → List Nod
  | _, .leaf n => [⟨⟨#[]⟩, n, 0, 0⟩]
  | b, .node op l r => flat b l ++ flat (b + l.size) r ++ [⟨op, 0, ((b + l.size - 1 : Nat) : Int), ((b + l.size + r.size - 1 : Nat) : Int)⟩]
theorem flat_length : ∀ (t : T) (b : Nat), (flat b t).length = t.size
  | .leaf _, b => rfl
  | .node _ l r, b => by simp [flat, T.size, flat_length l, flat_length r]; omega
abbrev P := Sig × Int
def nextL (x : Sig) : Int := if x.side = 1 then x.lev else x.lev + 1
def loopP : Nat → Int → Sig → Sig → T → List P → Option (T × List P)
  | 0, _, _, _, t, ps => some (t, ps)
  | f + 1, least, outer, last, t, ps => match ps with
    | [] => some (t, [])
    | (x, n) :: r => if x.lev < least then some (t, (x, n) :: r) else if (against x outer || against x last) = true then none else
      match loopP f (nextL x) x x (.leaf n) r with
      | none => none
      | some (rt, r') => loopP f least outer x (.node x.op t rt) r'
theorem loopP_len : ∀ (f : Nat) (least : Int) (outer last : Sig) (t t' : T) (ps ps' : List P), loopP f least outer last t ps = some (t', ps') → ps'.length ≤ ps.length
  | 0, _, _, _, t, t', ps, ps', h => by
    rw [loopP] at h
    simp only [Option.some.injEq, Prod.mk.injEq] at h
    rw [h.2]; exact Nat.le_refl _
  | f + 1, least, outer, last, t, t', [], ps', h => by
    rw [loopP] at h
    simp only [Option.some.injEq, Prod.mk.injEq] at h
    rw [← h.2]; exact Nat.le_refl _
  | f + 1, least, outer, last, t, t', (x, n) :: r, ps', h => by
    rw [loopP] at h
    split at h
    · simp only [Option.some.injEq, Prod.mk.injEq] at h
      rw [← h.2]; exact Nat.le_refl _
    · split at h
      · cases h
      · split at h
        · cases h
        · rename_i rt r' hr
          have h1 := loopP_len f _ _ _ _ _ _ _ hr
          have h2 := loopP_len f _ _ _ _ _ _ _ h
          simp only [List.length_cons]
          omega
/-- the operators and operands behind the first operand -/
def pairs (table : List Sig) : List Itm → List P
  | o :: a :: r => (find table o.op, a.n) :: pairs table r
  | _ => []
theorem pairs_cons {table : List Sig} {its : List Itm} {i : Nat} {o a : Itm} (ho : its[i]? = some o) (ha : its[i + 1]? = some a) : pairs table (its.drop i) = (find table o.op, a.n) :: pairs table (its.drop (i + 2)) := by
  obtain ⟨h1, rfl⟩ := List.getElem?_eq_some_iff.1 ho
  obtain ⟨h2, rfl⟩ := List.getElem?_eq_some_iff.1 ha
  rw [List.drop_eq_getElem_cons h1, List.drop_eq_getElem_cons h2, pairs]
theorem pairs_len (table : List Sig) : ∀ (m : Nat) (its : List Itm), its.length = 2 * m → (pairs table its).length = m
  | 0, its, h => by
    have : its = [] := List.eq_nil_of_length_eq_zero (by omega)
    subst this; rfl
  | m + 1, its, h => by
    match its, h with
    | o :: a :: r, h =>
      rw [pairs, List.length_cons, pairs_len table m r (by simp only [List.length_cons] at h; omega)]
    | [o], h => simp only [List.length_cons, List.length_nil] at h; omega
    | [], h => simp only [List.length_nil] at h; omega
end Go.Fx
