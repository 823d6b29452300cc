/- LayoutBlocks: tokens, open blocks, what the layout does to them, in plain lists. No condition. -/
import Derived.Test.YtlcclcakdfmgkaaCat
namespace Go.Ly
open Go.Eng
abbrev BA := ByteArray
structure Tok where
  kind : Int
  text : BA
  n : Int
  line : Int
  col : Int
structure Cx where
  col : Int
  word : BA
def tc (t : Tok) : List Value := [.int .i64 t.kind, .string t.text, .int .i64 t.n, .int .i64 t.line, .int .i64 t.col]
def cc (c : Cx) : List Value := [.int .i64 c.col, .string c.word]
theorem tlen (t : Tok) : (tc t).length = 5 := rfl
theorem clen (c : Cx) : (cc c).length = 2 := rfl
theorem tone (t : Tok) : oneL (tc t) = true := rfl
theorem cone (c : Cx) : oneL (cc c) = true := rfl
/-- a token of the layout at the place of another one -/
def tk (k : Int) (t : Tok) : Tok := ⟨k, ⟨#[]⟩, 0, t.line, t.col⟩
def isT (t : Tok) (k : Int) (s : BA) : Bool := decide (t.kind = k) && decide (t.text = s)
def opT (t : Tok) : Bool := decide (t.kind = 4) && (((decide (t.text = ⟨#[119, 104, 101, 114, 101]⟩) || decide (t.text = ⟨#[111, 102]⟩)) || decide (t.text = ⟨#[108, 101, 116]⟩)) || decide (t.text = ⟨#[119, 105, 116, 104]⟩))
def isLet (c : Cx) : Bool := decide (c.word = ⟨#[108, 101, 116]⟩)
/-- the innermost context; the innermost one stands first -/
def topX : List Cx → Cx
  | [] => ⟨0, ⟨#[]⟩⟩
  | c :: _ => c
def posX (c : Cx) : Bool := decide (0 < c.col)
def inn (s : List Cx) : List Cx := s.takeWhile posX
def enc : List Cx → Int
  | [] => 0
  | c :: r => if 0 < c.col then c.col else enc r
/-- how many blocks up to the first 'let' -/
def uptoLet : List Cx → Nat
  | [] => 0
  | c :: r => if isLet c then 1 else uptoLet r + 1
/-- how many blocks a token ends, and whether it ends a bracket -/
def ends (s : List Cx) (t : Tok) : Nat × Bool :=
  if isT t 5 ⟨#[41]⟩ || isT t 5 ⟨#[125]⟩ then ((inn s).length, decide ((inn s).length < s.length))
  else if isT t 5 ⟨#[44]⟩ then (if (inn s).length < s.length then (inn s).length else 0, false)
  else if isT t 4 ⟨#[105, 110]⟩ then (if (inn s).any isLet then uptoLet (inn s) else 0, false)
  else (0, false)
abbrev St := List Cx × List Tok
/-- n blocks end -/
def shutN (n : Nat) (t : Tok) (x : St) : St := (x.1.drop n, x.2 ++ List.replicate n (tk 7 t))
def endsS (t : Tok) (x : St) : St := ((if (ends x.1 t).2 then (x.1.drop (ends x.1 t).1).drop 1 else x.1.drop (ends x.1 t).1), x.2 ++ List.replicate (ends x.1 t).1 (tk 7 t))
def lineN (t : Tok) (s : List Cx) : Nat := (s.takeWhile fun c => decide (t.col < c.col)).length
def lineS (t : Tok) (x : St) : St := ((shutN (lineN t x.1) t x).1, (shutN (lineN t x.1) t x).2 ++ if (topX (x.1.drop (lineN t x.1))).col = t.col then [tk 8 t] else [])
/-- is a block to begin here? -/
def opd (prev : Option Tok) : Bool := match prev with | none => false | some p => opT p
def wordOf (prev : Option Tok) : BA := match prev with | none => ⟨#[]⟩ | some p => p.text
def openS (prev : Option Tok) (t : Tok) (x : St) : St :=
  if opd prev = false then x else if isT t 5 ⟨#[123]⟩ then x
  else if t.kind ≠ 9 ∧ enc x.1 < t.col then (⟨t.col, wordOf prev⟩ :: x.1, x.2 ++ [tk 6 t])
  else (x.1, x.2 ++ [tk 6 t] ++ [tk 7 t])
/-- is it the first one of its line, and begins no block? -/
def newln (prev : Option Tok) (t : Tok) : Bool := match prev with | none => true | some p => decide (p.line < t.line)
def firstB (prev : Option Tok) (t : Tok) (s : List Cx) : Bool :=
  if opd prev = false then newln prev t else if isT t 5 ⟨#[123]⟩ then false
  else if t.kind ≠ 9 ∧ enc s < t.col then false else newln prev t
def brk (t : Tok) (x : St) : St := if isT t 5 ⟨#[40]⟩ || isT t 5 ⟨#[123]⟩ then (⟨0, ⟨#[]⟩⟩ :: x.1, x.2) else x
def stepS (prev : Option Tok) (t : Tok) (x : St) : St :=
  let y := openS prev t x
  let z := if firstB prev t x.1 then lineS t y else y
  let u := endsS t z
  brk t (u.1, u.2 ++ [t])
/-- the layout from a token on -/
def lay : Option Tok → List Tok → St → List Tok
  | _, [], x => x.2
  | prev, t :: r, x => if t.kind = 9 then (openS prev t x).2 ++ List.replicate (((openS prev t x).1.filter posX).length) (tk 7 t) ++ [t] else lay (some t) r (stepS prev t x)

/-! ### the faults of a list of tokens -/
def before (prev : Option Tok) (t : Tok) : Bool := match prev with | none => false | some p => decide (t.line < p.line) || (decide (t.line = p.line) && decide (t.col < p.col))
def tokE (prev : Option Tok) (last : Bool) (t : Tok) : Int :=
  if t.line < 1 ∨ t.col < 1 then 4
  else if t.kind < 0 ∨ 9 < t.kind ∨ (6 ≤ t.kind ∧ t.kind ≤ 8) ∨ (t.kind = 9 ∧ last = false) then 3
  else if before prev t = true then 3 else 0
def chkL : Option Tok → List Tok → Int
  | _, [] => 0
  | prev, t :: r => if tokE prev r.isEmpty t = 0 then chkL (some t) r else tokE prev r.isEmpty t
def endK (l : List Tok) : Int := match l.getLast? with | none => 0 | some t => t.kind
def chk (l : List Tok) : Int := if 8193 < l.length then 2 else if l.length = 0 ∨ endK l ≠ 9 then 3 else chkL none l
def prv (l : List Tok) (i : Nat) : Option Tok := if i = 0 then none else l[i - 1]?
theorem prv_succ {l : List Tok} {i : Nat} {t : Tok} (h : l[i]? = some t) : prv l (i + 1) = some t := by simp [prv, h]
theorem drop_of {l : List Tok} {i : Nat} {t : Tok} (h : l[i]? = some t) : l.drop i = t :: l.drop (i + 1) := by
  obtain ⟨hl, rfl⟩ := List.getElem?_eq_some_iff.1 h
  exact List.drop_eq_getElem_cons hl
theorem last_of {l : List Tok} {i : Nat} {t : Tok} (h : l[i]? = some t) : (l.drop (i + 1)).isEmpty = decide (i + 1 = l.length) := by
  have hl := (List.getElem?_eq_some_iff.1 h).1
  rw [Bool.eq_iff_iff, List.isEmpty_iff, List.drop_eq_nil_iff, decide_eq_true_eq]
  omega
theorem endK_get {l : List Tok} {t : Tok} (h : l[l.length - 1]? = some t) : endK l = t.kind := by
  rw [endK, List.getLast?_eq_getElem?, h]
theorem tw_drop {p : Cx → Bool} : ∀ (s : List Cx) (i : Nat), i ≤ (s.takeWhile p).length → (s.drop i).takeWhile p = (s.takeWhile p).drop i
  | [], i, _ => by simp
  | c :: r, 0, _ => rfl
  | c :: r, i + 1, h => by
    rw [List.takeWhile_cons] at h ⊢
    cases hc : p c with
    | false => rw [hc] at h; simp at h
    | true =>
      rw [hc] at h
      simp only [if_true, List.length_cons] at h
      rw [if_pos rfl, List.drop_succ_cons, List.drop_succ_cons]
      exact tw_drop r i (by omega)
theorem tw_yes {p : Cx → Bool} {s r : List Cx} {i : Nat} {c : Cx} (hi : i ≤ (s.takeWhile p).length) (hd : s.drop i = c :: r) (hc : p c = true) : i < (s.takeWhile p).length := by
  have h := tw_drop s i hi
  rw [hd, List.takeWhile_cons_of_pos hc] at h
  have h2 := congrArg List.length h
  simp only [List.length_cons, List.length_drop] at h2
  omega
theorem tw_no {p : Cx → Bool} {s : List Cx} {i : Nat} (hi : i ≤ (s.takeWhile p).length) (h0 : ∀ c r, s.drop i = c :: r → p c = false) : i = (s.takeWhile p).length := by
  have h := tw_drop s i hi
  cases hd : s.drop i with
  | nil =>
    rw [hd] at h
    have h2 := congrArg List.length h
    simp only [List.takeWhile_nil, List.length_nil, List.length_drop] at h2
    omega
  | cons c r =>
    rw [hd, List.takeWhile_cons_of_neg (by rw [h0 c r hd]; simp)] at h
    have h2 := congrArg List.length h
    simp only [List.length_nil, List.length_drop] at h2
    omega
theorem drop_next {s r : List Cx} {i : Nat} {c : Cx} (h : s.drop i = c :: r) : s.drop (i + 1) = r ∧ i < s.length := by
  have h1 : s.drop (i + 1) = (s.drop i).drop 1 := by rw [List.drop_drop]
  refine ⟨by rw [h1, h]; rfl, ?_⟩
  rcases Nat.lt_or_ge i s.length with hl | hl
  · exact hl
  · rw [List.drop_eq_nil_of_le hl] at h; cases h
theorem rep_succ (n : Nat) (out : List Tok) (x : Tok) : out ++ List.replicate n x ++ [x] = out ++ List.replicate (n + 1) x := by
  rw [List.append_assoc, ← List.replicate_succ']
theorem tokE_pos {prev : Option Tok} {last : Bool} {t : Tok} (h : t.line < 1 ∨ t.col < 1) : tokE prev last t = 4 := by unfold tokE; rw [if_pos h]
theorem tokE_kind {prev : Option Tok} {last : Bool} {t : Tok} (h0 : ¬ (t.line < 1 ∨ t.col < 1)) (h : t.kind < 0 ∨ 9 < t.kind ∨ (6 ≤ t.kind ∧ t.kind ≤ 8) ∨ (t.kind = 9 ∧ last = false)) : tokE prev last t = 3 := by unfold tokE; rw [if_neg h0, if_pos h]
theorem tokE_bef {prev : Option Tok} {last : Bool} {t : Tok} (h0 : ¬ (t.line < 1 ∨ t.col < 1)) (h1 : ¬ (t.kind < 0 ∨ 9 < t.kind ∨ (6 ≤ t.kind ∧ t.kind ≤ 8) ∨ (t.kind = 9 ∧ last = false))) (h : before prev t = true) : tokE prev last t = 3 := by unfold tokE; rw [if_neg h0, if_neg h1, if_pos h]
theorem tokE_ok {prev : Option Tok} {last : Bool} {t : Tok} (h0 : ¬ (t.line < 1 ∨ t.col < 1)) (h1 : ¬ (t.kind < 0 ∨ 9 < t.kind ∨ (6 ≤ t.kind ∧ t.kind ≤ 8) ∨ (t.kind = 9 ∧ last = false))) (h : ¬ before prev t = true) : tokE prev last t = 0 := by unfold tokE; rw [if_neg h0, if_neg h1, if_neg h]
theorem chk_step {l : List Tok} {i : Nat} {t : Tok} (ht : l[i]? = some t) (h : chkL (prv l i) (l.drop i) = chkL none l) :
    (if tokE (prv l i) (decide (i + 1 = l.length)) t = 0 then chkL (prv l (i + 1)) (l.drop (i + 1)) else tokE (prv l i) (decide (i + 1 = l.length)) t) = chkL none l := by
  rw [drop_of ht, chkL, last_of ht] at h
  rw [prv_succ ht]
  exact h
theorem bef_prv {l : List Tok} {i : Nat} {t p : Tok} (hp : 0 < i → l[i - 1]? = some p) : (decide (0 < (i : Int)) && (decide (t.line < p.line) || (decide (t.line = p.line) && decide (t.col < p.col)))) = before (prv l i) t := by
  cases i with
  | zero => rfl
  | succ k => rw [prv, if_neg (by omega), hp (by omega), decide_eq_true (by omega)]; rfl
/-! ### what holds of a list without faults -/
theorem chkL_get : ∀ (l : List Tok) (prev : Option Tok) (i : Nat) (t : Tok), chkL prev l = 0 → l[i]? = some t → tokE (if i = 0 then prev else l[i - 1]?) (decide (i + 1 = l.length)) t = 0
  | [], _, i, t, _, h => by simp at h
  | u :: r, prev, 0, t, h, ht => by
    obtain rfl : u = t := by simpa using ht
    rw [chkL] at h
    rw [if_pos rfl]
    have e : r.isEmpty = decide (0 + 1 = (u :: r).length) := by cases r <;> simp
    rw [e] at h
    by_cases h0 : tokE prev (decide (0 + 1 = (u :: r).length)) u = 0
    · exact h0
    · rw [if_neg h0] at h; exact absurd h h0
  | u :: r, prev, i + 1, t, h, ht => by
    rw [chkL] at h
    by_cases h0 : tokE prev r.isEmpty u = 0
    · rw [if_pos h0] at h
      have := chkL_get r (some u) i t h (by simpa using ht)
      rw [if_neg (by omega)]
      have e : decide (i + 1 + 1 = (u :: r).length) = decide (i + 1 = r.length) := by rw [decide_eq_decide]; simp
      rw [e]
      cases i with
      | zero => simpa using this
      | succ i => simpa using this
    · rw [if_neg h0] at h; exact absurd h h0
theorem tokE_zero {prev : Option Tok} {last : Bool} {t : Tok} (h : tokE prev last t = 0) : 1 ≤ t.line ∧ 1 ≤ t.col ∧ (t.kind = 9 → last = true) ∧ before prev t = false := by
  unfold tokE at h
  split at h
  · cases h
  · split at h
    · cases h
    · split at h
      · cases h
      · rename_i h1 h2 h3
        refine ⟨by omega, by omega, fun h9 => ?_, by simpa using h3⟩
        cases last with
        | true => rfl
        | false => exact absurd (.inr (.inr (.inr ⟨h9, rfl⟩))) h2
theorem chk_zero {l : List Tok} (h : chk l = 0) : l.length ≤ 8193 ∧ 0 < l.length ∧ endK l = 9 ∧ chkL none l = 0 := by
  unfold chk at h
  split at h
  · cases h
  · split at h
    · cases h
    · rename_i h1 h2
      have h3 : ¬ l.length = 0 := fun e => h2 (.inl e)
      exact ⟨by omega, by omega, Classical.byContradiction fun e => h2 (.inr e), h⟩
theorem chk_get {l : List Tok} (h : chk l = 0) {i : Nat} {t : Tok} (ht : l[i]? = some t) : 1 ≤ t.line ∧ 1 ≤ t.col ∧ (t.kind = 9 ↔ i + 1 = l.length) ∧ before (prv l i) t = false := by
  obtain ⟨h1, h2, h3, h4⟩ := chk_zero h
  obtain ⟨g1, g2, g3, g4⟩ := tokE_zero (chkL_get l none i t h4 ht)
  refine ⟨g1, g2, ⟨fun e => of_decide_eq_true (g3 e), fun e => ?_⟩, g4⟩
  rw [← h3, endK_get (show l[l.length - 1]? = some t by rw [← ht]; congr 1; omega)]
theorem opd_prv {l : List Tok} {i : Nat} {p : Tok} (hp : 0 < i → l[i - 1]? = some p) : (decide (0 < (i : Int)) && opT p) = opd (prv l i) := by
  cases i with
  | zero => rfl
  | succ k => rw [prv, if_neg (by omega), hp (by omega), decide_eq_true (by omega), Bool.true_and]; rfl
theorem newln_prv {l : List Tok} {i : Nat} {t p : Tok} (hp : 0 < i → l[i - 1]? = some p) : (decide ((i : Int) = 0) || decide (p.line < t.line)) = newln (prv l i) t := by
  cases i with
  | zero => rfl
  | succ k => rw [prv, if_neg (by omega), hp (by omega), decide_eq_false (by omega), Bool.false_or]; rfl
theorem word_prv {l : List Tok} {i : Nat} {p : Tok} (hp : 0 < i → l[i - 1]? = some p) (h : opd (prv l i) = true) : wordOf (prv l i) = p.text ∧ 0 < i := by
  cases i with
  | zero => cases h
  | succ k => rw [prv, if_neg (by omega), hp (by omega)]; exact ⟨rfl, by omega⟩
/-! ### sizes -/
def szS (x : St) : Nat := x.1.length + x.2.length
def posS (x : St) : Prop := ∀ c ∈ x.1, 0 ≤ c.col
theorem shutN_sz {n : Nat} {t : Tok} {x : St} (h : n ≤ x.1.length) : szS (shutN n t x) = szS x := by
  unfold szS shutN; simp only [List.length_drop, List.length_append, List.length_replicate]; omega
theorem lineN_le (t : Tok) (s : List Cx) : lineN t s ≤ s.length := (List.takeWhile_sublist _).length_le
theorem lineS_sz {t : Tok} {x : St} : szS (lineS t x) ≤ szS x + 1 := by
  have h := shutN_sz (t := t) (lineN_le t x.1)
  unfold szS at h ⊢
  unfold lineS
  simp only [List.length_append]
  split <;> simp only [List.length_cons, List.length_nil] <;> omega
theorem inn_le (s : List Cx) : (inn s).length ≤ s.length := (List.takeWhile_sublist _).length_le
theorem openS_sz {prev : Option Tok} {t : Tok} {x : St} : szS (openS prev t x) ≤ szS x + 2 := by
  unfold openS
  split
  · omega
  · split
    · omega
    · split
      · unfold szS; simp only [List.length_append, List.length_cons, List.length_nil]; omega
      · unfold szS; simp only [List.length_append, List.length_cons, List.length_nil]; omega
theorem posS_drop {x : St} (h : posS x) (n : Nat) : ∀ c ∈ x.1.drop n, 0 ≤ c.col := fun c hc => h c (List.mem_of_mem_drop hc)
theorem openS_pos {prev : Option Tok} {t : Tok} {x : St} (ht : 1 ≤ t.col) (h : posS x) : posS (openS prev t x) := by
  unfold openS
  split
  · exact h
  · split
    · exact h
    · split
      · intro c hc
        rcases List.mem_cons.1 hc with rfl | hc
        · show 0 ≤ t.col; omega
        · exact h c hc
      · exact h
theorem lineS_pos {t : Tok} {x : St} (h : posS x) : posS (lineS t x) := posS_drop h _
theorem endsS_pos {t : Tok} {x : St} (h : posS x) : posS (endsS t x) := by
  unfold endsS posS
  simp only
  split
  · exact fun c hc => posS_drop h _ c (List.mem_of_mem_drop hc)
  · exact posS_drop h _
end Go.Ly
