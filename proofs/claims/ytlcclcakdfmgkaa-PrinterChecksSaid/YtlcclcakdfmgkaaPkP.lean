/- Trees: what the printer's Check and the reference's TreeError give, in plain words. No program in sight. No condition. -/
import Derived.Test.YtlcclcakdfmgkaaCat
namespace Go.Pk
open Go.Eng
set_option linter.unusedVariables false
set_option linter.unusedSimpArgs false

/-! classes of kinds, as lists -/
def inL (L : List Int) (k : Int) : Bool := L.any fun x => decide (x = k)
theorem inL_iff {L : List Int} {k : Int} : inL L k = true ↔ k ∈ L := by simp [inL]
theorem inL_append (A B : List Int) (k : Int) : inL (A ++ B) k = (inL A k || inL B k) := by simp [inL]
def declL : List Int := [1, 2, 4, 5, 7, 9, 10, 12, 13]
def typeL : List Int := [14, 15, 16, 17]
def exprL : List Int := [20, 21, 22, 23, 24, 25, 26, 27, 29, 30, 31, 32]
def parL : List Int := [35, 36]
def patL : List Int := [35, 36, 37, 38]

/-! the reference's shapes -/
inductive Mk where | one | star | plus | opt
  deriving DecidableEq
/-- the class of a letter -/
def clsOf (c : UInt8) : List Int :=
  if c = 68 then declL else if c = 84 then typeL else if c = 69 then exprL else if c = 88 then typeL ++ exprL else if c = 80 then patL else if c = 86 then parL
  else if c = 98 then [13, 12] else if c = 104 then [33, 34] else if c = 110 then [3] else if c = 118 then [14] else if c = 99 then [6] else if c = 111 then [8]
  else if c = 115 then [12] else if c = 113 then [11] else if c = 100 then [13] else if c = 114 then [18] else if c = 102 then [19] else if c = 97 then [28] else []
def letters : List UInt8 := [68, 84, 69, 88, 80, 86, 98, 104, 110, 118, 99, 111, 115, 113, 100, 114, 102, 97]
abbrev Sh := List (UInt8 × Mk)
def P1 (c : UInt8) (x : Int) : Bool := inL (clsOf c) x
def mt : Sh → List Int → Bool
  | [], l => l.isEmpty
  | (_, .one) :: _, [] => false
  | (c, .one) :: r, x :: l => P1 c x && mt r l
  | (_, .plus) :: _, [] => false
  | (c, .plus) :: r, x :: l => P1 c x && mt ((c, .star) :: r) l
  | (_, .opt) :: r, [] => mt r []
  | (c, .opt) :: r, x :: l => mt r (x :: l) || (P1 c x && mt r l)
  | (_, .star) :: r, [] => mt r []
  | (c, .star) :: r, x :: l => mt r (x :: l) || (P1 c x && mt ((c, .star) :: r) l)
termination_by r l => r.length + l.length
def markB : Mk → List UInt8
  | .one => []
  | .star => [42]
  | .plus => [43]
  | .opt => [63]
/-- the text of a shape -/
def enc : Sh → List UInt8
  | [] => []
  | (c, m) :: r => c :: (markB m ++ enc r)
def shapeR (k : Int) : Sh :=
  if k = 0 then [(68, .star)] else if k = 1 ∨ k = 2 then [(110, .star)] else if k = 5 then [(118, .star), (99, .plus)] else if k = 6 ∨ k = 15 then [(84, .star)] else if k = 7 then [(111, .star)]
  else if k = 8 then [(84, .one), (84, .one)] else if k = 9 then [(118, .one), (110, .star), (115, .star)] else if k = 10 then [(84, .one), (113, .star), (100, .star)] else if k = 11 then [(118, .one)]
  else if k = 12 then [(113, .star), (84, .one)] else if k = 13 ∨ k = 30 then [(69, .one)] else if k = 16 then [(84, .one), (114, .one), (84, .one)] else if k = 17 then [(102, .star), (118, .opt)]
  else if k = 18 then [(110, .star), (118, .opt)] else if k = 19 then [(88, .one)] else if k = 22 then [(86, .plus), (69, .one)] else if k = 23 ∨ k = 31 then [(69, .one), (69, .one)]
  else if k = 25 then [(98, .star), (69, .one)] else if k = 26 then [(69, .one), (69, .one), (69, .one)] else if k = 27 then [(69, .one), (97, .star)] else if k = 28 then [(80, .one), (69, .one)]
  else if k = 29 then [(102, .star)] else if k = 32 then [(69, .one), (104, .star)] else if k = 33 then [(86, .one), (69, .one)] else if k = 34 then [(86, .one), (86, .one), (69, .one)]
  else if k = 38 then [(80, .star)] else []

/-! loops with a place -/
def allI (p : Nat → Int → Bool) : List Int → Nat → Bool
  | [], _ => true
  | x :: l, i => p i x && allI p l (i + 1)
theorem allI_append (p : Nat → Int → Bool) : ∀ (a b : List Int) (i : Nat), allI p (a ++ b) i = (allI p a i && allI p b (i + a.length))
  | [], b, i => by simp [allI]
  | x :: a, b, i => by
    rw [List.cons_append, allI, allI, allI_append p a b (i + 1), List.length_cons, Bool.and_assoc, show i + 1 + a.length = i + (a.length + 1) by omega]
theorem allI_congr {p p' : Nat → Int → Bool} : ∀ (l : List Int) (i : Nat), (∀ j x, i ≤ j → j < i + l.length → p j x = p' j x) → allI p l i = allI p' l i
  | [], i, _ => rfl
  | x :: l, i, h => by
    rw [allI, allI, h i x (Nat.le_refl _) (by simp), allI_congr l (i + 1) fun j x h1 h2 => h j x (by omega) (by simp only [List.length_cons]; omega)]
theorem allI_const (f : Int → Bool) : ∀ (l : List Int) (i : Nat), allI (fun _ x => f x) l i = l.all f
  | [], _ => rfl
  | x :: l, i => by rw [allI, List.all_cons, allI_const f l (i + 1)]
theorem allI_get {p : Nat → Int → Bool} {l : List Int} {i k : Nat} {x : Int} (h : l[i]? = some x) : allI p (l.drop i) k = (p k x && allI p (l.drop (i + 1)) (k + 1)) := by
  have hi := (List.getElem?_eq_some_iff.1 h).1
  rw [List.drop_eq_getElem_cons hi, allI]
  rw [List.getElem?_eq_getElem hi] at h
  rw [Option.some.inj h]
theorem allI_end {p : Nat → Int → Bool} {l : List Int} {i k : Nat} (h : l.length ≤ i) : allI p (l.drop i) k = true := by
  rw [List.drop_eq_nil_of_le h]; rfl

/-! the sequence of operators -/
def opAt (i : Nat) (x : Int) : Bool := (decide (i % 2 = 1) && decide (x = 3)) || (decide (i % 2 = 0) && inL exprL x)
def opsP (l : List Int) : Bool := decide (2 < l.length) && decide (l.length % 2 = 1) && allI opAt l 0
def fitR (k : Int) (l : List Int) : Bool := if k = 24 then opsP l else mt (shapeR k) l

/-! the program's shapes -/
structure Shp where
  first : List (List Int)
  last : List (List Int)
  between : List Int
  least : Int
def lst (l : List (List Int)) : Shp := ⟨l, [], [], 0⟩
def mny (f : List Int) (n : Int) : Shp := ⟨[], [], f, n⟩
def shapeP (k : Int) : Shp :=
  if k = 0 then mny declL 0 else if k = 1 ∨ k = 2 then mny [3] 0 else if k = 6 ∨ k = 15 then mny typeL 0 else if k = 7 then mny [8] 0 else if k = 8 then lst [typeL, typeL] else if k = 11 then lst [[14]]
  else if k = 12 then ⟨[], [typeL], [11], 0⟩ else if k = 13 ∨ k = 30 then lst [exprL] else if k = 16 then lst [typeL, [18], typeL] else if k = 19 then lst [typeL ++ exprL]
  else if k = 22 then ⟨[], [exprL], parL, 1⟩ else if k = 23 ∨ k = 31 then lst [exprL, exprL] else if k = 25 then ⟨[], [exprL], [13] ++ [12], 0⟩ else if k = 26 then lst [exprL, exprL, exprL]
  else if k = 27 then ⟨[exprL], [], [28], 0⟩ else if k = 28 then lst [patL, exprL] else if k = 29 then mny [19] 0 else if k = 32 then ⟨[exprL], [], [33] ++ [34], 0⟩ else if k = 33 then lst [parL, exprL]
  else if k = 34 then lst [parL, parL, exprL] else if k = 38 then mny patL 0 else lst []
def groupsP (k : Int) : List (List Int) × List Int :=
  if k = 5 then ([[14], [6]], [0, 1]) else if k = 9 then ([[14], [3], [12]], [1, 0, 0]) else if k = 10 then ([typeL, [11], [13]], [1, 0, 0]) else if k = 17 then ([[19], [14]], [0, 0])
  else if k = 18 then ([[3], [14]], [0, 0]) else ([], [])
/-- the class at a place -/
def pickS (s : Shp) (inner : Int) (i : Nat) : List Int :=
  if i < s.first.length then s.first.getD i [] else if (s.first.length : Int) + inner ≤ i then s.last.getD (i - s.first.length - inner.toNat) [] else s.between
def innerS (s : Shp) (l : List Int) : Int := (l.length : Int) - s.first.length - s.last.length
def shP (s : Shp) (l : List Int) : Bool := if innerS s l < s.least then false else allI (fun i x => inL (pickS s (innerS s l) i) x) l 0
/-- too few, or too many, of a group -/
def badG (k : Int) (i n : Nat) (m : Int) : Bool := decide ((n : Int) < m) || (decide (1 < n) && (decide (k = 9) && decide (i = 0) || decide (k = 10) && decide (i = 0) || decide (17 ≤ k) && decide (i = 1)))
def groupedF (k : Int) : List (List Int) → List Int → Nat → List Int → Bool
  | f :: fs, m :: ms, i, l => if badG k i (l.takeWhile (inL f)).length m then false else groupedF k fs ms (i + 1) (l.dropWhile (inL f))
  | _, _, _, l => l.isEmpty
def groupedP (k : Int) (l : List Int) : Bool := groupedF k (groupsP k).1 (groupsP k).2 0 l
def opBad (i : Nat) (x : Int) : Bool := (decide (i % 2 = 0) && !inL exprL x) || (decide (i % 2 = 1) && !decide (x = 3))
def fitP (k : Int) (l : List Int) : Bool :=
  if k = 24 then allI (fun i x => !opBad i x) l 0 && (decide (3 ≤ l.length) && decide (l.length % 2 = 1))
  else if (groupsP k).1 = [] then shP (shapeP k) l else groupedP k l

/-! shapes match -/
def needS : Sh → Nat
  | [] => 0
  | (_, .one) :: r => needS r + 1
  | (_, .plus) :: r => needS r + 1
  | _ :: r => needS r
theorem mt_need : ∀ (n : Nat) (r : Sh) (l : List Int), r.length + l.length ≤ n → mt r l = true → needS r ≤ l.length
  | n, [], l, _, _ => Nat.zero_le _
  | 0, (c, m) :: r, l, h, _ => by simp at h
  | n + 1, (c, .one) :: r, [], h, hm => by simp [mt] at hm
  | n + 1, (c, .one) :: r, x :: l, h, hm => by
    simp only [mt, Bool.and_eq_true] at hm
    simp only [List.length_cons] at h
    have := mt_need n r l (by omega) hm.2
    simp only [needS, List.length_cons]; omega
  | n + 1, (c, .plus) :: r, [], h, hm => by simp [mt] at hm
  | n + 1, (c, .plus) :: r, x :: l, h, hm => by
    simp only [mt, Bool.and_eq_true] at hm
    simp only [List.length_cons] at h
    have := mt_need n ((c, .star) :: r) l (by simp only [List.length_cons]; omega) hm.2
    simp only [needS, List.length_cons] at this ⊢; omega
  | n + 1, (c, .opt) :: r, [], h, hm => by
    simp only [mt] at hm
    simp only [List.length_cons] at h
    have := mt_need n r [] (by omega) hm
    simpa only [needS] using this
  | n + 1, (c, .opt) :: r, x :: l, h, hm => by
    simp only [mt, Bool.or_eq_true, Bool.and_eq_true] at hm
    simp only [List.length_cons] at h
    simp only [needS, List.length_cons]
    rcases hm with hm | hm
    · have := mt_need n r (x :: l) (by simp only [List.length_cons]; omega) hm
      simpa only [List.length_cons] using this
    · have := mt_need n r l (by omega) hm.2
      omega
  | n + 1, (c, .star) :: r, [], h, hm => by
    simp only [mt] at hm
    simp only [List.length_cons] at h
    have := mt_need n r [] (by omega) hm
    simpa only [needS] using this
  | n + 1, (c, .star) :: r, x :: l, h, hm => by
    simp only [mt, Bool.or_eq_true, Bool.and_eq_true] at hm
    simp only [List.length_cons] at h
    simp only [needS, List.length_cons]
    rcases hm with hm | hm
    · have := mt_need n r (x :: l) (by simp only [List.length_cons]; omega) hm
      simpa only [List.length_cons] using this
    · have := mt_need n ((c, .star) :: r) l (by simp only [List.length_cons]; omega) hm.2
      simp only [needS] at this
      omega
theorem mt_short {r : Sh} {l : List Int} (h : l.length < needS r) : mt r l = false := by
  cases e : mt r l with
  | false => rfl
  | true => have := mt_need _ r l (Nat.le_refl _) e; omega
def ones (cs : List UInt8) : Sh := cs.map fun c => (c, .one)
theorem need_ones : ∀ cs : List UInt8, needS (ones cs) = cs.length
  | [] => rfl
  | c :: cs => by show needS (ones cs) + 1 = _; rw [need_ones cs]; rfl
def zipA : List (List Int) → List Int → Bool
  | [], [] => true
  | f :: fs, x :: l => inL f x && zipA fs l
  | _, _ => false
theorem mt_ones : ∀ (cs : List UInt8) (l : List Int), mt (ones cs) l = zipA (cs.map clsOf) l
  | [], [] => by simp [ones, mt, zipA]
  | [], x :: l => by simp [ones, mt, zipA]
  | c :: cs, [] => by
    show mt ((c, .one) :: ones cs) [] = _
    simp only [mt, List.map_cons, zipA]
  | c :: cs, x :: l => by
    show mt ((c, .one) :: ones cs) (x :: l) = _
    simp only [mt, List.map_cons, zipA, mt_ones cs l, P1]
theorem zipA_len : ∀ {fs : List (List Int)} {l : List Int}, zipA fs l = true → l.length = fs.length
  | [], [], _ => rfl
  | f :: fs, x :: l, h => by
    simp only [zipA, Bool.and_eq_true] at h
    simp only [List.length_cons, zipA_len h.2]
theorem zipA_bad {fs : List (List Int)} {l : List Int} (h : l.length ≠ fs.length) : zipA fs l = false := by
  cases e : zipA fs l with
  | false => rfl
  | true => exact absurd (zipA_len e) h
theorem mt_front (r : Sh) : ∀ (cs : List UInt8) (F l : List Int), F.length = cs.length → mt (ones cs ++ r) (F ++ l) = (zipA (cs.map clsOf) F && mt r l)
  | [], [], l, _ => by simp [ones, zipA]
  | c :: cs, x :: F, l, h => by
    show mt ((c, .one) :: (ones cs ++ r)) (x :: (F ++ l)) = _
    simp only [mt, List.map_cons, zipA, mt_front r cs F l (by simpa using h), P1, Bool.and_assoc]
theorem mt_star (c : UInt8) : ∀ l : List Int, mt [(c, .star)] l = l.all (P1 c)
  | [] => by simp [mt]
  | x :: l => by
    simp only [mt, List.all_cons, mt_star c l]
    simp
theorem mt_back (c : UInt8) (ds : List UInt8) : ∀ (M L : List Int), L.length = ds.length → mt ((c, .star) :: ones ds) (M ++ L) = (M.all (P1 c) && zipA (ds.map clsOf) L)
  | [], [], h => by
    rw [List.nil_append]
    simp only [mt, List.all_nil, Bool.true_and, mt_ones]
  | [], x :: L, h => by
    rw [List.nil_append]
    simp only [mt, List.all_nil, Bool.true_and, mt_ones]
    rw [mt_short (r := (c, .star) :: ones ds) (by simp only [needS, need_ones]; simp only [List.length_cons] at h; omega)]
    simp
  | x :: M, L, h => by
    rw [List.cons_append]
    simp only [mt, List.all_cons, mt_back c ds M L h, mt_ones]
    rw [zipA_bad (l := x :: (M ++ L)) (by simp only [List.length_cons, List.length_append, List.length_map]; omega)]
    simp [Bool.and_assoc]
/-- a greedy star -/
theorem mt_greedy (c : UInt8) (r : Sh) (h : ∀ x l, P1 c x = true → mt r (x :: l) = false) : ∀ l : List Int, mt ((c, .star) :: r) l = mt r (l.dropWhile (P1 c))
  | [] => by simp [mt]
  | x :: l => by
    simp only [mt, List.dropWhile_cons]
    cases hx : P1 c x with
    | true => simp [h x l hx, mt_greedy c r h l]
    | false => simp

/-! the program's shape -/
theorem allI_zip : ∀ (fs : List (List Int)) (l : List Int) (o : Nat) (g : Nat → List Int), l.length = fs.length → (∀ j, j < fs.length → g (o + j) = fs.getD j []) → allI (fun i x => inL (g i) x) l o = zipA fs l
  | [], [], o, g, _, _ => rfl
  | f :: fs, x :: l, o, g, hl, h => by
    have h0 := h 0 (by simp)
    simp only [Nat.add_zero, List.getD_cons_zero] at h0
    rw [allI, zipA, h0, allI_zip fs l (o + 1) g (by simpa using hl) fun j hj => by
      have := h (j + 1) (by simpa using hj)
      rw [List.getD_cons_succ] at this
      rw [← this]; congr 1; omega]
theorem shP_mid (s : Shp) (F M L : List Int) (hF : F.length = s.first.length) (hL : L.length = s.last.length) (hm : s.least ≤ M.length) :
    shP s (F ++ M ++ L) = (zipA s.first F && M.all (inL s.between) && zipA s.last L) := by
  have hin : innerS s (F ++ M ++ L) = (M.length : Int) := by
    unfold innerS; simp only [List.length_append]; omega
  unfold shP
  rw [hin, if_neg (by omega), allI_append, allI_append, Nat.zero_add, List.length_append]
  rw [allI_zip s.first F 0 (pickS s M.length) hF fun j hj => by unfold pickS; rw [Nat.zero_add, if_pos hj]]
  rw [allI_congr (p' := fun _ x => inL s.between x) M F.length fun j x h1 h2 => by
    unfold pickS; rw [if_neg (by omega), if_neg (by omega)]]
  rw [allI_const]
  rw [allI_zip s.last L (0 + (F.length + M.length)) (pickS s M.length) hL fun j hj => by
    unfold pickS
    rw [if_neg (by omega), if_pos (by omega)]
    congr 1
    omega]
theorem shP_short {s : Shp} {l : List Int} (h : innerS s l < s.least) : shP s l = false := by unfold shP; rw [if_pos h]
/-- every list has a front, a middle and a back -/
theorem cut3 (l : List Int) (a b : Nat) (h : a + b ≤ l.length) : ∃ F M L : List Int, l = F ++ M ++ L ∧ F.length = a ∧ L.length = b ∧ M.length = l.length - a - b := by
  refine ⟨l.take a, (l.drop a).take (l.length - a - b), (l.drop a).drop (l.length - a - b), ?_, by rw [List.length_take]; omega, by rw [List.length_drop, List.length_drop]; omega, by rw [List.length_take, List.length_drop]; omega⟩
  rw [List.append_assoc, List.take_append_drop, List.take_append_drop]
theorem fam_list (cs : List UInt8) (l : List Int) : shP (lst (cs.map clsOf)) l = mt (ones cs) l := by
  rw [mt_ones]
  by_cases h : l.length < cs.length
  · rw [shP_short (by unfold innerS lst; simp only [List.length_map, List.length_nil]; omega), zipA_bad (by rw [List.length_map]; omega)]
  · obtain ⟨F, M, L, rfl, hF, hL, hM⟩ := cut3 l cs.length 0 (by omega)
    rw [shP_mid _ _ _ _ (by simpa [lst] using hF) (by simpa [lst] using hL) (by simp [lst])]
    obtain rfl := List.eq_nil_of_length_eq_zero hL
    cases M with
    | nil => simp [lst, zipA]
    | cons x M =>
      rw [zipA_bad (l := F ++ (x :: M) ++ []) (by simp only [List.length_append, List.length_cons, List.length_map, List.length_nil]; omega)]
      simp [lst, inL]
theorem fam_front (cs : List UInt8) (c : UInt8) (l : List Int) : shP ⟨cs.map clsOf, [], clsOf c, 0⟩ l = mt (ones cs ++ [(c, .star)]) l := by
  by_cases h : l.length < cs.length
  · rw [shP_short (by unfold innerS; simp only [List.length_map, List.length_nil]; omega), mt_short]
    have : ∀ cs : List UInt8, needS (ones cs ++ [(c, .star)]) = cs.length := fun cs => by
      induction cs with
      | nil => rfl
      | cons d cs ih => show needS (ones cs ++ _) + 1 = _; rw [ih]; rfl
    rw [this]; exact h
  · obtain ⟨F, M, L, rfl, hF, hL, hM⟩ := cut3 l cs.length 0 (by omega)
    rw [shP_mid _ _ _ _ (by simpa using hF) (by simpa using hL) (by simp)]
    obtain rfl := List.eq_nil_of_length_eq_zero hL
    rw [List.append_nil, mt_front _ _ _ _ hF, mt_star]
    simp only [zipA, Bool.and_true]
    rfl
theorem fam_back (c : UInt8) (ds : List UInt8) (l : List Int) : shP ⟨[], ds.map clsOf, clsOf c, 0⟩ l = mt ((c, .star) :: ones ds) l := by
  by_cases h : l.length < ds.length
  · rw [shP_short (by unfold innerS; simp only [List.length_map, List.length_nil]; omega), mt_short]
    show _ < needS (ones ds)
    rw [need_ones]; exact h
  · obtain ⟨F, M, L, rfl, hF, hL, hM⟩ := cut3 l 0 ds.length (by omega)
    rw [shP_mid _ _ _ _ (by simpa using hF) (by simpa using hL) (by simp)]
    obtain rfl := List.eq_nil_of_length_eq_zero hF
    rw [List.nil_append, mt_back _ _ _ _ hL]
    simp only [zipA, Bool.true_and]
    rfl
theorem fam_lam (c : UInt8) (ds : List UInt8) (l : List Int) : shP ⟨[], ds.map clsOf, clsOf c, 1⟩ l = mt ((c, .plus) :: ones ds) l := by
  by_cases h : l.length < ds.length + 1
  · rw [shP_short (by unfold innerS; simp only [List.length_map, List.length_nil]; omega), mt_short]
    show _ < needS (ones ds) + 1
    rw [need_ones]; exact h
  · obtain ⟨F, M, L, rfl, hF, hL, hM⟩ := cut3 l 0 ds.length (by omega)
    rw [shP_mid _ _ _ _ (by simpa using hF) (by simpa using hL) (by simp only; omega)]
    obtain rfl := List.eq_nil_of_length_eq_zero hF
    rw [List.nil_append]
    cases M with
    | nil => simp only [List.length_nil, List.length_append] at hM h; omega
    | cons x M =>
      rw [List.cons_append]
      simp only [mt, mt_back _ _ _ _ hL, zipA, Bool.true_and, List.all_cons, Bool.and_assoc, P1]
      rfl
end Go.Pk
