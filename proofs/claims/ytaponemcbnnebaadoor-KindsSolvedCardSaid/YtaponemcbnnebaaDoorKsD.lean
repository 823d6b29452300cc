/- Plain: what all data types require. No condition. -/
import Derived.Test.YtaponemcbnnebaaDoorKsB
namespace Go.Ki
open Go.Eng Go.RowKit
set_option linter.unusedVariables false
set_option linter.unusedSimpArgs false
/-- all arguments of a data type, of all data types, have the kind of types -/
def rA (ds : List DS) (f : Nat → Int) (i : Nat) (l : List Pa) : Bool := l.all fun a => req (pkF [] ds (fiOf ds 3) f) ((slotsOf ds i).map f) a.t (f 0)
def rC (ds : List DS) (f : Nat → Int) (i : Nat) (l : List DC) : Bool := l.all fun c => rA ds f i c.args
def rD (ds : List DS) (f : Nat → Int) : Nat → List DD → Bool
  | _, [] => true
  | i, d :: r => rC ds f i d.cons && rD ds f (i + 1) r
theorem rA_drop {ds : List DS} {f : Nat → Int} {i j : Nat} {l : List Pa} {a : Pa} (h : l[j]? = some a) : rA ds f i (l.drop j) = (req (pkF [] ds (fiOf ds 3) f) ((slotsOf ds i).map f) a.t (f 0) && rA ds f i (l.drop (j + 1))) := by
  obtain ⟨h1, rfl⟩ := List.getElem?_eq_some_iff.1 h
  rw [List.drop_eq_getElem_cons h1, rA, List.all_cons]; rfl
theorem rC_drop {ds : List DS} {f : Nat → Int} {i j : Nat} {l : List DC} {a : DC} (h : l[j]? = some a) : rC ds f i (l.drop j) = (rA ds f i a.args && rC ds f i (l.drop (j + 1))) := by
  obtain ⟨h1, rfl⟩ := List.getElem?_eq_some_iff.1 h
  rw [List.drop_eq_getElem_cons h1, rC, List.all_cons]; rfl
theorem rD_drop {ds : List DS} {f : Nat → Int} {i j : Nat} {l : List DD} {a : DD} (h : l[j]? = some a) : rD ds f i (l.drop j) = (rC ds f i a.cons && rD ds f (i + 1) (l.drop (j + 1))) := by
  obtain ⟨h1, rfl⟩ := List.getElem?_eq_some_iff.1 h
  rw [List.drop_eq_getElem_cons h1, rD]
theorem rA_ok (ds : List DS) (flat : List Int) (i : Nat) (l : List Pa) : rA ds (fOf flat) i l = okA ds flat i l := by
  unfold rA okA
  congr 1
  funext a
  rw [vs_eq, show pkF [] ds (fiOf ds 3) (fOf flat) = pkR ds flat from funext fun nm => pkF_eq ds flat nm]
  rfl
theorem rD_ok (ds : List DS) (flat : List Int) : ∀ (l : List DD) (i : Nat), rD ds (fOf flat) i l = okD ds flat i l
  | [], _ => rfl
  | d :: r, i => by
    rw [rD, okD, rD_ok ds flat r (i + 1)]
    congr 1
    unfold rC okC
    congr 1
    funext c
    exact rA_ok ds flat i c.args
end Go.Ki
