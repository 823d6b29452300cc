/- Plain: what Sequence computes. No program in sight. -/
import Derived.Test.YtfnkahakocbofaaCat
namespace Go.Mv
open Go.Eng
set_option linter.unusedVariables false
abbrev Pr := Int × Int
def pcell (p : Pr) : List Value := [.int .i64 p.1, .int .i64 p.2]
def pv (p : Pr) : Value := .agg (pcell p).toArray
theorem plen (p : Pr) : (pcell p).length = 2 := rfl
theorem pone (p : Pr) : oneL (pcell p) = true := rfl

def freeP (left : List Pr) (x : Pr) : Bool := !(left.any fun y => decide (y.2 = x.1))
def atF (left : List Pr) : Int := idxP (freeP left) left 0
def redirP (spare v : Int) (y : Pr) : Pr := if y.2 = v then (y.1, spare) else y
def seqF (spare : Int) : Nat → List Pr → List Pr → List Pr
  | 0, _, out => out
  | f + 1, left, out =>
    if left.length = 0 then out
    else if atF left < 0 then
      seqF spare f ((left.map (redirP spare (left.getD 0 (0, 0)).1)).eraseIdx 0) ((out ++ [(spare, (left.getD 0 (0, 0)).1)]) ++ [(left.map (redirP spare (left.getD 0 (0, 0)).1)).getD 0 (0, 0)])
    else seqF spare f (left.eraseIdx (atF left).toNat) (out ++ [left.getD (atF left).toNat (0, 0)])
def errF (spare : Int) (pre : List Pr) : List Pr → Int
  | [] => 0
  | x :: r => if x.1 < 0 ∨ x.2 < 0 then 4 else if (pre.any fun y => decide (y.1 = x.1)) = true then 7 else if x.1 = spare ∨ x.2 = spare then 1 else errF spare (pre ++ [x]) r
def leftF (l : List Pr) : List Pr := l.filter fun x => !decide (x.1 = x.2)
def seqR (l : List Pr) (spare : Int) : List Pr × Int := if errF spare [] l = 0 then (seqF spare (leftF l).length (leftF l) [], 0) else ([], errF spare [] l)
theorem errF_step {spare : Int} {l : List Pr} {i : Nat} {x : Pr} (h : l[i]? = some x) : errF spare (l.take i) (l.drop i) =
    if x.1 < 0 ∨ x.2 < 0 then 4 else if ((l.take i).any fun y => decide (y.1 = x.1)) = true then 7 else if x.1 = spare ∨ x.2 = spare then 1 else errF spare (l.take (i + 1)) (l.drop (i + 1)) := by
  obtain ⟨hl, rfl⟩ := List.getElem?_eq_some_iff.1 h
  rw [List.drop_eq_getElem_cons hl, errF, List.take_add_one, h]
  rfl
end Go.Mv
