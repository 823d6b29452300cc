/- Plain laws on a search for a word in a list of words that is written as one string. No program in sight. -/
import Derived.Test.YtmmjkpbpmhaooaaRows
import Derived.Lib.IndexMore
import Derived.Lib.IndexLaws
namespace Go.Kw
set_option linter.unusedVariables false
set_option linter.unusedSimpArgs false

theorem contains_nil (sub : List UInt8) : Lib.contains [] sub = sub.isEmpty := by
  unfold Lib.contains Lib.index
  cases sub <;> simp
theorem contains_cons (b : UInt8) (l sub : List UInt8) : Lib.contains (b :: l) sub = (sub.isPrefixOf (b :: l) || Lib.contains l sub) := by
  have hge := Lib.index_ge l sub
  unfold Lib.contains
  rw [Lib.index]
  by_cases h : sub.isPrefixOf (b :: l) = true
  · simp [h]
  · rw [if_neg h]
    have h' : sub.isPrefixOf (b :: l) = false := Bool.eq_false_iff.2 h
    rw [h', Bool.false_or]
    by_cases h1 : Lib.index l sub = -1
    · simp [h1]
    · have : (Lib.index l sub == -1) = false := by simpa using h1
      rw [this]
      simp only [Bool.false_eq_true, if_false]
      congr 1
      exact propext ⟨fun _ => by omega, fun _ => by omega⟩

def flat (sep : UInt8) (ws : List (List UInt8)) : List UInt8 := ws.flatMap (fun w => w ++ [sep])
theorem flat_cons (sep : UInt8) (w : List UInt8) (ws : List (List UInt8)) : flat sep (w :: ws) = w ++ sep :: flat sep ws := by simp [flat]

theorem skip (sep : UInt8) (t : List UInt8) : ∀ (w r : List UInt8), sep ∉ w → Lib.contains (w ++ r) (sep :: t) = Lib.contains r (sep :: t)
  | [], r, _ => rfl
  | b :: w, r, h => by
    have hb : ¬ b = sep := fun e => h (by simp [e])
    have hw : sep ∉ w := fun e => h (by simp [e])
    rw [List.cons_append, contains_cons, skip sep t w r hw]
    have : (sep :: t).isPrefixOf (b :: (w ++ r)) = false := by
      rw [List.isPrefixOf]
      have : (sep == b) = false := by simpa using fun e : sep = b => hb e.symm
      rw [this]; rfl
    rw [this, Bool.false_or]
theorem word (sep : UInt8) : ∀ (s w r : List UInt8), sep ∉ s → sep ∉ w → (s ++ [sep]).isPrefixOf (w ++ sep :: r) = decide (s = w)
  | [], [], r, _, _ => by simp [List.isPrefixOf]
  | [], b :: w, r, _, hw => by
    have hb : (sep == b) = false := by simpa using fun e : sep = b => hw (by simp [e])
    simp [List.isPrefixOf, hb]
  | a :: s, [], r, hs, _ => by
    have ha : (a == sep) = false := by simpa using fun e : a = sep => hs (by simp [e])
    simp [List.isPrefixOf, ha]
  | a :: s, b :: w, r, hs, hw => by
    have ih := word sep s w r (fun e => hs (by simp [e])) (fun e => hw (by simp [e]))
    simp only [List.cons_append, List.isPrefixOf]
    rw [ih]
    by_cases hab : a = b
    · subst hab; simp
    · have : (a == b) = false := by simpa using hab
      simp [this, hab]
theorem among (sep : UInt8) (s : List UInt8) (hs : sep ∉ s) : ∀ (ws : List (List UInt8)), (∀ w ∈ ws, sep ∉ w) → Lib.contains (sep :: flat sep ws) (sep :: s ++ [sep]) = decide (s ∈ ws)
  | [], _ => by
    rw [contains_cons]
    have h1 : Lib.contains (flat sep []) (sep :: s ++ [sep]) = false := by
      show Lib.contains [] _ = _
      rw [contains_nil]; rfl
    rw [h1]
    cases s <;> simp [flat, List.isPrefixOf]
  | w :: ws, h => by
    have hw : sep ∉ w := h w (by simp)
    have ih := among sep s hs ws (fun x hx => h x (by simp [hx]))
    rw [flat_cons, contains_cons, List.cons_append, skip sep _ w _ hw, ← List.cons_append, ih]
    have : (sep :: s ++ [sep]).isPrefixOf (sep :: (w ++ sep :: flat sep ws)) = decide (s = w) := by
      rw [List.cons_append, List.isPrefixOf, word sep s w _ hs hw]; simp
    rw [this]
    simp

def kws : List (List UInt8) := [[109, 111, 100, 117, 108, 101], [105, 109, 112, 111, 114, 116], [101, 120, 112, 111, 114, 116], [100, 97, 116, 97], [99, 108, 97, 115, 115], [105, 110, 115, 116, 97, 110, 99, 101], [101, 102, 102, 101, 99, 116], [119, 104, 101, 114, 101], [108, 101, 116], [105, 110], [105, 102], [116, 104, 101, 110], [101, 108, 115, 101], [99, 97, 115, 101], [111, 102], [104, 97, 110, 100, 108, 101], [119, 105, 116, 104], [105, 110, 102, 105, 120, 108], [105, 110, 102, 105, 120, 114], [105, 110, 102, 105, 120], [114, 101, 116, 117, 114, 110], [], [61], [45, 62], [61, 62], [58], [124], [92], [46], [33]]
def rws : List (List UInt8) := [[109, 111, 100, 117, 108, 101], [105, 109, 112, 111, 114, 116], [101, 120, 112, 111, 114, 116], [100, 97, 116, 97], [99, 108, 97, 115, 115], [105, 110, 115, 116, 97, 110, 99, 101], [101, 102, 102, 101, 99, 116], [119, 104, 101, 114, 101], [108, 101, 116], [105, 110], [105, 102], [116, 104, 101, 110], [101, 108, 115, 101], [99, 97, 115, 101], [111, 102], [104, 97, 110, 100, 108, 101], [119, 105, 116, 104], [105, 110, 102, 105, 120, 108], [105, 110, 102, 105, 120, 114], [105, 110, 102, 105, 120], [114, 101, 116, 117, 114, 110], [61], [45, 62], [61, 62], [58], [92], [46], [33]]
def kstr : List UInt8 := 32 :: flat 32 kws
def rstr : List UInt8 := 124 :: flat 124 rws
theorem kws_sep : ∀ w ∈ kws, (32 : UInt8) ∉ w := by decide +kernel
theorem rws_sep : ∀ w ∈ rws, (124 : UInt8) ∉ w := by decide +kernel
theorem rws_kws : ∀ w ∈ rws, w ∈ kws ∧ w ≠ [] ∧ w ≠ [124] := by decide +kernel
theorem kws_rws : ∀ w ∈ kws, w = [] ∨ w = [124] ∨ (w ∈ rws ∧ (124 : UInt8) ∉ w) := by decide +kernel

/-- what Keyword tells -/
def kw (s : List UInt8) : Bool := decide (s ≠ []) && (!decide (32 ∈ s) && Lib.contains kstr (32 :: s ++ [32]))
/-- what Reserved tells -/
def rs (s : List UInt8) : Bool := decide (s = [124]) || (decide (s ≠ []) && (!decide (124 ∈ s) && Lib.contains rstr (124 :: s ++ [124])))
theorem kw_rs (s : List UInt8) : kw s = rs s := by
  have h1 : kw s = decide (s ≠ [] ∧ s ∈ kws) := by
    unfold kw
    by_cases h : (32 : UInt8) ∈ s
    · have : s ∉ kws := fun e => kws_sep s e h
      simp [h, this]
    · rw [show kstr = 32 :: flat 32 kws from rfl, among 32 s h kws kws_sep]
      simp [h]
  have h2 : rs s = decide (s = [124] ∨ s ∈ rws) := by
    unfold rs
    by_cases h : (124 : UInt8) ∈ s
    · have : s ∉ rws := fun e => rws_sep s e h
      simp [h, this]
    · rw [show rstr = 124 :: flat 124 rws from rfl, among 124 s h rws rws_sep]
      have : s ∈ rws → ¬ s = [] := fun e => (rws_kws s e).2.1
      by_cases hr : s ∈ rws <;> simp [h, hr, this]
  rw [h1, h2]
  apply decide_eq_decide.2
  constructor
  · intro ⟨a, b⟩
    rcases kws_rws s b with h | h | h
    · exact absurd h a
    · exact .inl h
    · exact .inr h.1
  · rintro (h | h)
    · subst h; exact ⟨by decide, by decide +kernel⟩
    · exact ⟨(rws_kws s h).2.1, (rws_kws s h).1⟩
end Go.Kw
