/- Places in a text: lines, starts of lines, the search for a place. No program in sight. No condition. -/
import Derived.Test.YtikamdddfpjmaaaDoorStr
import Derived.Lib.SplitLaws
import Derived.Lib.LastIndexByte
namespace Go.Sp
open Go.Eng
set_option linter.unusedVariables false
set_option linter.unusedSimpArgs false

def badI (x : Int) : Bool := !decide (x = 10) && (decide (x < 32) || decide (126 < x))
def badL (l : List UInt8) : Bool := l.any fun c => badI (c.toNat : Int)
/-- what Check tells -/
def chk (s : ByteArray) : Int := if 8192 < s.size then 2 else if badL s.data.toList then 5 else 0
theorem bt_get {s : ByteArray} {i : Nat} (h : i < s.size) : ∃ c : UInt8, s.data.toList[i]? = some c ∧ bt s i = (c.toNat : Int) := by
  have hl : i < s.data.toList.length := by rw [Array.length_toList]; exact h
  refine ⟨s.data.toList[i], List.getElem?_eq_getElem hl, ?_⟩
  unfold bt
  rw [List.getD_eq_getElem?_getD, List.getElem?_eq_getElem hl]; rfl
theorem badL_step {s : ByteArray} {i : Nat} (h : i < s.size) : badL (s.data.toList.drop i) = (badI (bt s i) || badL (s.data.toList.drop (i + 1))) := by
  obtain ⟨c, h1, h2⟩ := bt_get h
  have hl := (List.getElem?_eq_some_iff.1 h1).1
  rw [h2, List.drop_eq_getElem_cons hl]
  rw [List.getElem?_eq_getElem hl] at h1
  rw [Option.some.inj h1]; rfl
theorem badL_end {s : ByteArray} {i : Nat} (h : s.size ≤ i) : badL (s.data.toList.drop i) = false := by
  rw [List.drop_eq_nil_of_le (by rw [Array.length_toList]; exact h)]; rfl

/-! places -/
def pl (s : ByteArray) : Nat → Int × Int
  | 0 => (1, 1)
  | i + 1 => if bt s i = 10 then ((pl s i).1 + 1, 1) else ((pl s i).1, (pl s i).2 + 1)
theorem pl_bound (s : ByteArray) : ∀ i, 1 ≤ (pl s i).1 ∧ (pl s i).1 ≤ i + 1 ∧ 1 ≤ (pl s i).2 ∧ (pl s i).2 ≤ i + 1
  | 0 => by simp [pl]
  | i + 1 => by
    have := pl_bound s i
    unfold pl
    split <;> simp only <;> omega
theorem lastIdx_cut (s : ByteArray) (c : Int) (m : Nat) (hm : m ≤ s.size) : ∀ i, i ≤ m → Lib.lastIdx (s.extract 0 m) c i = Lib.lastIdx s c i
  | 0, _ => rfl
  | i + 1, h => by
    unfold Lib.lastIdx
    have e : (s.extract 0 m).data[i]! = s.data[i]! := by
      have h1 : i < (s.extract 0 m).data.size := by simp [ByteArray.data_extract]; omega
      rw [getElem!_pos _ i h1, getElem!_pos s.data i (by have : s.size = s.data.size := rfl; omega)]
      simp [ByteArray.data_extract]
    rw [e, lastIdx_cut s c m hm i (by omega)]
theorem bt_bang {s : ByteArray} {i : Nat} (h : i < s.size) : ((s.data[i]!).toNat : Int) = bt s i := by
  obtain ⟨c, h1, h2⟩ := bt_get h
  rw [h2]
  rw [Array.getElem?_toList] at h1
  have hl : i < s.data.size := h
  rw [getElem!_pos s.data i hl]
  rw [Array.getElem?_eq_getElem hl] at h1
  rw [Option.some.inj h1]
theorem pl_col (s : ByteArray) : ∀ i, i ≤ s.size → (pl s i).2 = (i : Int) - Lib.lastIdx s 10 i
  | 0, _ => rfl
  | i + 1, h => by
    unfold pl Lib.lastIdx
    rw [bt_bang (by omega)]
    have := pl_col s i (by omega)
    split <;> simp only <;> omega
theorem count_step {s : ByteArray} {i : Nat} (h : i < s.size) : (s.data.toList.take (i + 1)).count 10 = (s.data.toList.take i).count 10 + if bt s i = 10 then 1 else 0 := by
  obtain ⟨c, h1, h2⟩ := bt_get h
  rw [List.take_add_one, h1, List.count_append]
  congr 1
  simp only [Option.toList, List.count_singleton, h2]
  by_cases hc : c = 10
  · subst hc; rfl
  · rw [if_neg (by simpa using hc), if_neg]
    intro e
    exact hc (UInt8.toNat_inj.1 (by have : (10 : UInt8).toNat = 10 := rfl; omega))
theorem pl_line (s : ByteArray) : ∀ i, i ≤ s.size → (pl s i).1 = 1 + ((s.data.toList.take i).count 10 : Nat)
  | 0, _ => rfl
  | i + 1, h => by
    have := pl_line s i (by omega)
    rw [count_step (by omega)]
    unfold pl
    split <;> simp only <;> omega

/-! the search for a place -/
def sc (ln co : Int) : List UInt8 → Int → Int → Int → Int
  | [], x, y, i => if x = ln ∧ y = co then i else -1
  | c :: l, x, y, i => if x = ln ∧ y = co then i else if c = 10 then sc ln co l (x + 1) 1 (i + 1) else sc ln co l x (y + 1) (i + 1)
/-- the lines -/
def lns : List UInt8 → List (List UInt8)
  | [] => [[]]
  | c :: l => if c = 10 then [] :: lns l else match lns l with
    | h :: t => (c :: h) :: t
    | [] => [[c]]
theorem lns_cons (l : List UInt8) : ∃ h t, lns l = h :: t := by
  cases l with
  | nil => exact ⟨_, _, rfl⟩
  | cons c l =>
    unfold lns
    split
    · exact ⟨_, _, rfl⟩
    · split <;> exact ⟨_, _, rfl⟩
/-- where a line begins -/
def starts : List UInt8 → Nat → Nat
  | _, 0 => 0
  | [], _ + 1 => 0
  | c :: l, k + 1 => if c = 10 then starts l k + 1 else starts l (k + 1) + 1
def an (l : List UInt8) (k : Nat) (y co i : Int) : Int := match (lns l)[k]? with
  | none => -1
  | some t => if (if k = 0 then y else 1) ≤ co ∧ co ≤ (if k = 0 then y else 1) + t.length then i + starts l k + (co - (if k = 0 then y else 1)) else -1
theorem sc_far (ln co : Int) : ∀ (l : List UInt8) (x y i : Int), ln < x → sc ln co l x y i = -1
  | [], x, y, i, h => by unfold sc; rw [if_neg (by omega)]
  | c :: l, x, y, i, h => by
    unfold sc
    rw [if_neg (by omega)]
    split
    · exact sc_far ln co l _ _ _ (by omega)
    · exact sc_far ln co l _ _ _ h
theorem sc_an (ln co : Int) : ∀ (l : List UInt8) (x y i : Int) (k : Nat), ln = x + k → sc ln co l x y i = an l k y co i
  | [], x, y, i, 0, h => by
    unfold sc an
    simp only [lns, List.getElem?_cons_zero, starts, List.length_nil, if_true]
    split <;> split <;> omega
  | [], x, y, i, k + 1, h => by
    unfold sc an
    simp only [lns, List.getElem?_cons_succ, List.getElem?_nil]
    rw [if_neg (by omega)]
  | c :: l, x, y, i, k, h => by
    unfold sc an
    by_cases hc : c = 10
    · subst hc
      simp only [lns, if_true]
      cases k with
      | zero =>
        rw [sc_far ln co l (x + 1) 1 (i + 1) (by omega)]
        simp only [List.getElem?_cons_zero, starts, List.length_nil, if_true]
        split <;> split <;> omega
      | succ k =>
        rw [if_neg (by omega), sc_an ln co l (x + 1) 1 (i + 1) k (by omega)]
        unfold an
        simp only [List.getElem?_cons_succ, starts, if_true]
        have e : (if k = 0 then (1 : Int) else 1) = 1 := by split <;> rfl
        have e2 : (if k + 1 = 0 then y else 1) = 1 := if_neg (by omega)
        rw [e, e2]
        cases (lns l)[k]? with
        | none => rfl
        | some t => simp only; split <;> omega
    · obtain ⟨hd, tl, e⟩ := lns_cons l
      simp only [lns, if_neg hc, e]
      rw [sc_an ln co l x (y + 1) (i + 1) k h]
      unfold an
      rw [e]
      cases k with
      | zero =>
        simp only [List.getElem?_cons_zero, starts, List.length_cons, if_true]
        split <;> split <;> (try split) <;> omega
      | succ k =>
        simp only [List.getElem?_cons_succ, starts, if_neg hc]
        rw [if_neg (by omega)]
        rw [if_neg (show ¬ k + 1 = 0 by omega), if_neg (show ¬ k + 1 = 0 by omega)]
        cases tl[k]? with
        | none => rfl
        | some t => simp only; split <;> omega
theorem ib_cons (c : UInt8) (l : List UInt8) (hc : c ≠ 10) (h : 10 ∈ l) : Lib.indexByte (c :: l) 10 = Lib.indexByte l 10 + 1 := by
  have h2 : Lib.indexByte l 10 ≠ -1 := by
    clear hc
    induction l with
    | nil => cases h
    | cons b l ih =>
      unfold Lib.indexByte
      by_cases hb : b = 10
      · simp [hb]
      · have hm : (10 : UInt8) ∈ l := by
          rcases List.mem_cons.1 h with h | h
          · exact absurd h.symm hb
          · exact h
        have := ih hm
        have hge := Lib.indexByte_ge l 10
        simp only [beq_iff_eq, hb, this, if_false]
        omega
  conv => lhs; unfold Lib.indexByte
  simp [hc, h2]
theorem lns_long : ∀ (l : List UInt8), 1 < (lns l).length → 10 ∈ l
  | [], h => by simp [lns] at h
  | c :: l, h => by
    by_cases hc : c = 10
    · rw [hc]; exact .head _
    · obtain ⟨hd, tl, e⟩ := lns_cons l
      simp only [lns, if_neg hc, e, List.length_cons] at h
      exact .tail _ (lns_long l (by rw [e]; simpa using h))
theorem starts_step : ∀ (l : List UInt8) (k : Nat), k + 1 < (lns l).length → (starts l (k + 1) : Int) = starts l k + (Lib.indexByte (l.drop (starts l k)) 10 + 1)
  | [], k, h => by simp [lns] at h
  | c :: l, k, h => by
    by_cases hc : c = 10
    · subst hc
      simp only [lns, if_true, List.length_cons] at h
      cases k with
      | zero => simp [starts, Lib.indexByte]
      | succ k =>
        have ih := starts_step l k (by omega)
        simp only [starts, if_true, List.drop_succ_cons]
        omega
    · obtain ⟨hd, tl, e⟩ := lns_cons l
      simp only [lns, if_neg hc, e, List.length_cons] at h
      have ih := starts_step l k (by rw [e]; simpa using h)
      cases k with
      | zero =>
        have hm := lns_long l (by rw [e]; simpa using h)
        have h3 : starts (c :: l) 0 = 0 := rfl
        have h4 : starts l 0 = 0 := by cases l <;> rfl
        rw [h3, List.drop_zero, ib_cons c l hc hm]
        rw [h4, List.drop_zero] at ih
        simp only [starts, if_neg hc]
        omega
      | succ k =>
        simp only [starts, if_neg hc, List.drop_succ_cons]
        omega
theorem starts_le : ∀ (l : List UInt8) (k : Nat), starts l k ≤ l.length
  | _, 0 => by simp [starts]
  | [], k + 1 => by simp [starts]
  | c :: l, k + 1 => by
    have h1 := starts_le l k
    have h2 := starts_le l (k + 1)
    simp only [starts, List.length_cons]
    split <;> omega

/-! the pieces -/
theorem lns_miss : ∀ (l : List UInt8), Lib.index l [10] = -1 → lns l = [l]
  | [], _ => rfl
  | c :: l, h => by
    rw [Lib.index] at h
    by_cases hc : c = 10
    · subst hc; simp [List.isPrefixOf] at h
    · have hp : ([10] : List UInt8).isPrefixOf (c :: l) = false := by simp [List.isPrefixOf, Ne.symm hc]
      rw [hp] at h
      have hge := Lib.index_ge l [10]
      have h2 : Lib.index l [10] = -1 := by
        by_cases e : Lib.index l [10] = -1
        · exact e
        · simp [e] at h; try omega
      simp only [lns, if_neg hc, lns_miss l h2]
theorem lns_hit : ∀ (l : List UInt8) (j : Nat), Lib.index l [10] = (j : Int) → lns l = l.take j :: lns (l.drop (j + 1))
  | [], j, h => by simp [Lib.index] at h; try omega
  | c :: l, j, h => by
    rw [Lib.index] at h
    by_cases hc : c = 10
    · subst hc
      simp [List.isPrefixOf] at h
      obtain rfl : j = 0 := by omega
      simp [lns]
    · have hp : ([10] : List UInt8).isPrefixOf (c :: l) = false := by simp [List.isPrefixOf, Ne.symm hc]
      rw [hp] at h
      have hge := Lib.index_ge l [10]
      by_cases e : Lib.index l [10] = -1
      · simp [e] at h; try omega
      · simp [e] at h
        obtain ⟨j', rfl⟩ : ∃ j', j = j' + 1 := ⟨j - 1, by omega⟩
        have ih := lns_hit l j' (by omega)
        rw [lns, if_neg hc, ih, List.take_succ_cons, List.drop_succ_cons]
theorem split_lns : ∀ (k : Nat) (l : List UInt8), Lib.count l [10] = k → Lib.splitK [10] 0 k l = lns l
  | 0, l, h => by
    rw [Lib.splitK]
    by_cases e : Lib.index l [10] = -1
    · exact (lns_miss l e).symm
    · have hge := Lib.index_ge l [10]
      obtain ⟨j, hj⟩ : ∃ j : Nat, Lib.index l [10] = j := ⟨(Lib.index l [10]).toNat, by omega⟩
      rw [Lib.count_hit (by simp) hj] at h
      omega
  | k + 1, l, h => by
    rw [Lib.splitK]
    by_cases e : Lib.index l [10] = -1
    · rw [Lib.count_miss e] at h; omega
    · have hge := Lib.index_ge l [10]
      obtain ⟨j, hj⟩ : ∃ j : Nat, Lib.index l [10] = j := ⟨(Lib.index l [10]).toNat, by omega⟩
      have h' : Lib.count l [10] = 1 + Lib.count (l.drop (j + 1)) [10] := Lib.count_hit (by simp) hj
      rw [if_neg (by simpa using e), hj, Int.toNat_natCast, Nat.add_zero, lns_hit l j hj]
      congr 1
      exact split_lns k (l.drop (j + 1)) (by omega)
def nl : ByteArray := ⟨#[10]⟩
def pcs (s : ByteArray) : List ByteArray := Lib.splitB nl 0 (Lib.countB s nl) s
theorem pcs_lns (s : ByteArray) : (pcs s).map (·.data.toList) = lns s.data.toList := by
  unfold pcs
  rw [Lib.splitB_data]
  exact split_lns _ _ rfl
theorem pcs_len (s : ByteArray) : (pcs s).length = Lib.countB s nl + 1 := Lib.splitB_all nl (by decide) 0 _ s rfl
theorem countB_bound (s : ByteArray) : Lib.countB s nl ≤ s.size := Lib.countB_le nl (by decide) s.size s (Nat.le_refl _)
theorem lns_at {s : ByteArray} {k : Nat} {t : ByteArray} (h : (pcs s)[k]? = some t) : (lns s.data.toList)[k]? = some t.data.toList := by
  rw [← pcs_lns, List.getElem?_map, h]; rfl
theorem lns_no {s : ByteArray} {k : Nat} (h : (pcs s).length ≤ k) : (lns s.data.toList)[k]? = none := by
  rw [← pcs_lns, List.getElem?_map, List.getElem?_eq_none h]; rfl
theorem lns_len (s : ByteArray) : (lns s.data.toList).length = (pcs s).length := by rw [← pcs_lns, List.length_map]
theorem piece_le : ∀ (l : List UInt8) (k : Nat) (t : List UInt8), (lns l)[k]? = some t → starts l k + t.length ≤ l.length
  | [], k, t, h => by
    cases k with
    | zero => simp [lns] at h; subst h; simp [starts]
    | succ k => simp [lns] at h
  | c :: l, k, t, h => by
    by_cases hc : c = 10
    · subst hc
      simp only [lns, if_true] at h
      cases k with
      | zero => simp at h; subst h; simp [starts]
      | succ k =>
        have := piece_le l k t (by simpa using h)
        simp only [starts, if_true, List.length_cons]; omega
    · obtain ⟨hd, tl, e⟩ := lns_cons l
      simp only [lns, if_neg hc, e] at h
      cases k with
      | zero =>
        have := piece_le l 0 hd (by rw [e]; rfl)
        have h4 : starts l 0 = 0 := by cases l <;> rfl
        simp at h; subst h
        simp only [starts, List.length_cons]; omega
      | succ k =>
        have := piece_le l (k + 1) t (by rw [e]; simpa using h)
        simp only [starts, if_neg hc, List.length_cons]; omega

/-! what the functions give -/
def placeV (s : ByteArray) (at_ : Int) : Int × Int × Int :=
  if chk s ≠ 0 then (0, 0, chk s) else if at_ < 0 ∨ (s.size : Int) < at_ then (0, 0, 4) else ((pl s at_.toNat).1, (pl s at_.toNat).2, 0)
def lineOK (s : ByteArray) (ln : Int) : Bool := decide (1 ≤ ln) && decide (ln ≤ (pcs s).length)
def offV (s : ByteArray) (ln co : Int) : Int × Int :=
  if chk s ≠ 0 then (0, chk s) else if sc ln co s.data.toList 1 1 0 < 0 then (0, 4) else (sc ln co s.data.toList 1 1 0, 0)
theorem sc_pieces {s t : ByteArray} {ln co : Int} (h1 : 1 ≤ ln) (h : (pcs s)[(ln - 1).toNat]? = some t) :
    sc ln co s.data.toList 1 1 0 = if 1 ≤ co ∧ co ≤ 1 + (t.size : Int) then (starts s.data.toList (ln - 1).toNat : Int) + (co - 1) else -1 := by
  rw [sc_an ln co s.data.toList 1 1 0 (ln - 1).toNat (by omega)]
  unfold an
  rw [lns_at h]
  have e : (if (ln - 1).toNat = 0 then (1 : Int) else 1) = 1 := by split <;> rfl
  simp only [e, Array.length_toList]
  have e2 : t.data.size = t.size := rfl
  rw [e2]
  split <;> omega
theorem sc_none {s : ByteArray} {ln co : Int} (h : ln < 1 ∨ ((pcs s).length : Int) < ln) : sc ln co s.data.toList 1 1 0 = -1 := by
  rcases Int.lt_or_le ln 1 with h1 | h1
  · exact sc_far ln co _ _ _ _ h1
  · rw [sc_an ln co s.data.toList 1 1 0 (ln - 1).toNat (by omega)]
    unfold an
    rw [lns_no (by omega)]
end Go.Sp
