/- Plain: what the functions of package fixity and of its reference compute. No program in sight. -/
import Derived.Test.YtmmjkpbpmhaooaaExt
namespace Go.Fx
open Go.Eng
set_option linter.unusedVariables false

structure Sig where
  op : ByteArray
  side : Int
  lev : Int
structure Itm where
  op : ByteArray
  n : Int
structure Nod where
  op : ByteArray
  n : Int
  a : Int
  b : Int
def sc (x : Sig) : List Value := [.string x.op, .int .i64 x.side, .int .i64 x.lev]
def ic (x : Itm) : List Value := [.string x.op, .int .i64 x.n]
def nc (x : Nod) : List Value := [.string x.op, .int .i64 x.n, .int .i64 x.a, .int .i64 x.b]
def sv (x : Sig) : Value := .agg (sc x).toArray
theorem slen (x : Sig) : (sc x).length = 3 := rfl
theorem ilen (x : Itm) : (ic x).length = 2 := rfl
theorem nlen (x : Nod) : (nc x).length = 4 := rfl
theorem none_ (x : Nod) : oneL (nc x) = true := rfl

/-- the fixity of an operator -/
def find (l : List Sig) (op : ByteArray) : Sig := (l.find? fun x => decide (x.op = op)).getD ⟨op, 0, 9⟩
def against (x y : Sig) : Bool := decide (x.lev = y.lev) && (!decide (x.side = y.side) || decide (x.side = 2))
/-- the first fault of a table -/
def chkF (pre : List Sig) : List Sig → Int
  | [] => 0
  | x :: r => if x.op = ⟨#[]⟩ then 3 else if x.side < 0 ∨ 2 < x.side ∨ x.lev < 0 ∨ 9 < x.lev then 4 else if (pre.any fun y => decide (y.op = x.op)) = true then 7 else chkF (pre ++ [x]) r
theorem chkF_step {l : List Sig} {i : Nat} {x : Sig} (h : l[i]? = some x) : chkF (l.take i) (l.drop i) =
    if x.op = ⟨#[]⟩ then 3 else if x.side < 0 ∨ 2 < x.side ∨ x.lev < 0 ∨ 9 < x.lev then 4 else if ((l.take i).any fun y => decide (y.op = x.op)) = true then 7 else chkF (l.take (i + 1)) (l.drop (i + 1)) := by
  obtain ⟨hl, rfl⟩ := List.getElem?_eq_some_iff.1 h
  rw [List.drop_eq_getElem_cons hl, chkF, List.take_add_one, h]
  rfl
theorem find_drop {l : List Sig} {op : ByteArray} {i : Nat} {x : Sig} (h : l[i]? = some x) : find (l.drop i) op = if x.op = op then x else find (l.drop (i + 1)) op := by
  obtain ⟨hl, rfl⟩ := List.getElem?_eq_some_iff.1 h
  rw [List.drop_eq_getElem_cons hl, find, List.find?_cons]
  by_cases e : l[i].op = op
  · simp [e]
  · simp [e, find]
end Go.Fx
