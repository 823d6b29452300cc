/- Plain functions that tell what the reference's typeError and the program's check compute. No program in sight. -/
import Derived.Test.YtaponemcbnnebaaDoorTyp
namespace Go.Eng
set_option linter.unusedVariables false
set_option linter.unusedSimpArgs false

def manyOf (k : Int) : Int := if k = 0 then 0 else if k = 1 then -1 else if k = 2 then 3 else if k = 3 then 1 else if k = 4 then 0 else 2
theorem many_get {k : Int} (h : 0 ≤ k ∧ k ≤ 5) : ([.int .i64 0, .int .i64 (-1), .int .i64 3, .int .i64 1, .int .i64 0, .int .i64 2] : List Value)[0 + k.toNat * 1]? = some (.int .i64 (manyOf k)) := by
  have : k = 0 ∨ k = 1 ∨ k = 2 ∨ k = 3 ∨ k = 4 ∨ k = 5 := by omega
  rcases this with rfl | rfl | rfl | rfl | rfl | rfl <;> rfl
def wantRow (k : Int) (i : Nat) (kind : Int) : Bool := (decide (k = 2) && decide ((i : Int) = 1)) || decide (k = 3) || (decide (k = 5) && decide ((i : Int) = 1)) || (decide (k = 1) && decide (3 < kind))

/-- the first fault of a node itself, in order; 0: none -/
def nodeErr (row : Bool) (k : Int) (nm : ByteArray) (v : Int) (n : Nat) (deep : Bool) : Int :=
  if deep = true then 2
  else if k < 0 ∨ 5 < k then 9
  else if (0 ≤ manyOf k ∧ ¬ manyOf k = n) ∨ (0 < k ∧ ¬ v = 0) ∨ (¬ k = 1 ∧ ¬ k = 5 ∧ ¬ nm = ⟨#[]⟩) then 3
  else if ¬ k = 0 ∧ ¬ row = decide (3 < k) then 9
  else if k = 0 ∧ (v < 0 ∨ 4095 < v) then 4
  else 0

mutual
/-- how many nodes have been looked at, and the first fault -/
def tyErr : Ty → Bool → Int → Int → Int × Int
  | .mk k nm v as, row, depth, seen =>
    if nodeErr row k nm v as.length (decide (4096 < seen + 1) || decide (400 < depth)) = 0 then tyErrs k as 0 depth (seen + 1)
    else (seen + 1, nodeErr row k nm v as.length (decide (4096 < seen + 1) || decide (400 < depth)))
def tyErrs (k : Int) : List Ty → Nat → Int → Int → Int × Int
  | [], _, _, seen => (seen, 0)
  | t :: r, i, depth, seen =>
    if (tyErr t (wantRow k i t.kind) (depth + 1) seen).2 = 0 then tyErrs k r (i + 1) depth (tyErr t (wantRow k i t.kind) (depth + 1) seen).1
    else tyErr t (wantRow k i t.kind) (depth + 1) seen
end

theorem nodeErr_deep {row : Bool} {k : Int} {nm : ByteArray} {v : Int} {n : Nat} {deep : Bool} (h : nodeErr row k nm v n deep = 0) : deep = false := by
  unfold nodeErr at h
  cases deep with
  | false => rfl
  | true => simp at h

theorem tyErr_err {k : Int} {nm : ByteArray} {v : Int} {l : List Ty} {row : Bool} {depth seen c : Int} (h : nodeErr row k nm v l.length (decide (4096 < seen + 1) || decide (400 < depth)) = c) (hc : ¬ c = 0) :
    tyErr (.mk k nm v l) row depth seen = (seen + 1, c) := by rw [tyErr, h, if_neg hc]
theorem tyErr_ok {k : Int} {nm : ByteArray} {v : Int} {l : List Ty} {row : Bool} {depth seen : Int} (h : nodeErr row k nm v l.length (decide (4096 < seen + 1) || decide (400 < depth)) = 0) :
    tyErr (.mk k nm v l) row depth seen = tyErrs k l 0 depth (seen + 1) := by rw [tyErr, if_pos h]
mutual
theorem tyErr_seen : ∀ (t : Ty) (row : Bool) (depth seen : Int), 0 ≤ seen → seen ≤ 4096 → seen ≤ (tyErr t row depth seen).1 ∧ (tyErr t row depth seen).1 ≤ 4097 ∧ ((tyErr t row depth seen).2 = 0 → (tyErr t row depth seen).1 ≤ 4096 ∧ depth ≤ 400)
  | .mk k nm v as, row, depth, seen, h0, h1 => by
    rw [tyErr]
    split
    · rename_i h
      have hd := nodeErr_deep h
      simp only [Bool.or_eq_false_iff, decide_eq_false_iff_not] at hd
      have := tyErrs_seen k as 0 depth (seen + 1) (by omega) (by omega)
      refine ⟨by omega, this.2.1, fun e => ⟨this.2.2 e, by omega⟩⟩
    · rename_i h
      exact ⟨by simp; omega, by simp; omega, fun e => absurd e h⟩
theorem tyErrs_seen (k : Int) : ∀ (as : List Ty) (i : Nat) (depth seen : Int), 0 ≤ seen → seen ≤ 4096 → seen ≤ (tyErrs k as i depth seen).1 ∧ (tyErrs k as i depth seen).1 ≤ 4097 ∧ ((tyErrs k as i depth seen).2 = 0 → (tyErrs k as i depth seen).1 ≤ 4096)
  | [], i, depth, seen, h0, h1 => by rw [tyErrs]; exact ⟨by simp, by simp; omega, fun _ => h1⟩
  | t :: r, i, depth, seen, h0, h1 => by
    have ht := tyErr_seen t (wantRow k i t.kind) (depth + 1) seen h0 h1
    rw [tyErrs]
    split
    · rename_i h
      have := tyErrs_seen k r (i + 1) depth (tyErr t (wantRow k i t.kind) (depth + 1) seen).1 (by omega) (ht.2.2 h).1
      exact ⟨by omega, this.2⟩
    · exact ⟨ht.1, ht.2.1, fun e => (ht.2.2 e).1⟩
end
theorem tyErrs_drop (k : Int) (as : List Ty) (i : Nat) (t : Ty) (h : as[i]? = some t) (depth seen : Int) :
    tyErrs k (as.drop i) i depth seen = if (tyErr t (wantRow k i t.kind) (depth + 1) seen).2 = 0 then tyErrs k (as.drop (i + 1)) (i + 1) depth (tyErr t (wantRow k i t.kind) (depth + 1) seen).1 else tyErr t (wantRow k i t.kind) (depth + 1) seen := by
  obtain ⟨hl, rfl⟩ := List.getElem?_eq_some_iff.1 h
  rw [List.drop_eq_getElem_cons hl, tyErrs]
theorem tyErrs_drop_mk (k : Int) (l : List Ty) (i : Nat) {uk : Int} {un : ByteArray} {uv : Int} {ua : List Ty} (h : l[i]? = some (.mk uk un uv ua)) (depth seen : Int) :
    tyErrs k (l.drop i) i depth seen = if (tyErr (.mk uk un uv ua) (wantRow k i uk) (depth + 1) seen).2 = 0 then tyErrs k (l.drop (i + 1)) (i + 1) depth (tyErr (.mk uk un uv ua) (wantRow k i uk) (depth + 1) seen).1 else tyErr (.mk uk un uv ua) (wantRow k i uk) (depth + 1) seen :=
  tyErrs_drop k l i _ h depth seen
end Go.Eng
