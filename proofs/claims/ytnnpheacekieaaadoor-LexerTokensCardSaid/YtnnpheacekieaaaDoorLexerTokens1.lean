/- Texts of the proof of LexerTokens, part 1: rules of a calculus for walking, plain laws, and walks of the functions that the law reaches. No condition. -/
import Derived.WalkKit
import Derived.Deep.Quiet
import Derived.ProofKit
import Derived.OpenShut
import Derived.LoopN
import Derived.CallsIn
import Derived.OrdersIn
import Derived.LoopNIn
import Derived.TacticsIn
import Derived.RangeFuncLeaves
import Derived.Laws.BytesArg
import Derived.Lib.SplitLaws
import Derived.Lib.LastIndexByte
import Derived.Test.YtnnpheacekieaaaDoorRows
import Derived.Lib.IndexMore
import Derived.Lib.IndexLaws
import Derived.WideKeyArgs
import Derived.ChangeArms
import Derived.DataReads
import Derived.Test.YtnnpheacekieaaaDoorProg
import Derived.Shelf.Lays
import Derived.Shelf.LaysM
import Derived.Lib.IndexAny
import Derived.Shelf.Small.Strs
import Derived.Shelf.Strings.Search1
import Derived.Shelf.Strings.Search2
import Derived.Shelf.Strings.Search3
import Derived.Shelf.Strings.Shaped
import Derived.Maps.AppendAt
import Derived.Laws.MakeOwn
import Derived.WalkSpells
set_option linter.unusedVariables false
set_option linter.unusedSimpArgs false
set_option linter.unusedSectionVars false
/- Plain: the tokens of a text, byte by byte and line by line. No program in sight. No condition. -/
namespace Go.Lt
abbrev Bs := List UInt8
structure Tok where
  kind : Int
  text : Bs
  n : Int
  line : Int
  col : Int
structure Bad where
  code : Int
  line : Int
  col : Int
def small (c : UInt8) : Bool := (decide (97 ≤ c.toNat) && decide (c.toNat ≤ 122)) || decide (c.toNat = 95)
def large (c : UInt8) : Bool := decide (65 ≤ c.toNat) && decide (c.toNat ≤ 90)
def digit (c : UInt8) : Bool := decide (48 ≤ c.toNat) && decide (c.toNat ≤ 57)
def inner (c : UInt8) : Bool := small c || large c || digit c || decide (c.toNat = 39)
def marksL : Bs := [33, 35, 36, 37, 38, 42, 43, 47, 60, 61, 62, 63, 64, 94, 124, 45, 126, 58, 46, 92]
def punctL : Bs := [40, 41, 123, 125, 44, 59]
def mark (c : UInt8) : Bool := decide (c ∈ marksL)
def punct (c : UInt8) : Bool := decide (c ∈ punctL)
def notNl (c : UInt8) : Bool := decide (c ≠ 10)
/-- the value of digits -/
def numV (l : Bs) : Nat := l.foldl (fun a c => 10 * a + (c.toNat - 48)) 0
def big (l : Bs) : Bool := decide (1073741823 < numV l)
/-- a token, or what is between tokens: how long it is, tokens, errors; z: a number that is too great counts as 0 -/
def stepT (key : Bs → Bool) (z : Bool) (c : UInt8) (r : Bs) (line col : Int) : Nat × List Tok × List Bad :=
  if c = 32 then (1, [], [])
  else if small c then (((c :: r).takeWhile inner).length, [⟨if key ((c :: r).takeWhile inner) then 4 else 0, (c :: r).takeWhile inner, 0, line, col⟩], [])
  else if large c then (((c :: r).takeWhile inner).length, [⟨1, (c :: r).takeWhile inner, 0, line, col⟩], [])
  else if digit c then (((c :: r).takeWhile digit).length, [⟨2, (c :: r).takeWhile digit, if big ((c :: r).takeWhile digit) && z then 0 else (numV ((c :: r).takeWhile digit) : Int), line, col⟩], if big ((c :: r).takeWhile digit) then [⟨4, line, col⟩] else [])
  else if punct c then (1, [⟨5, [c], 0, line, col⟩], [])
  else if mark c then
    if 1 < ((c :: r).takeWhile mark).length ∧ ((c :: r).takeWhile mark).all (fun b => decide (b = 45)) = true then (((c :: r).takeWhile notNl).length, [], [])
    else (((c :: r).takeWhile mark).length, [⟨if key ((c :: r).takeWhile mark) then 4 else 3, (c :: r).takeWhile mark, 0, line, col⟩], [])
  else (1, [], [⟨5, line, col⟩])
/-- the tokens, the errors, and where the text ends -/
structure Res where
  toks : List Tok
  bads : List Bad
  line : Int
  col : Int
def Res.pre (ts : List Tok) (bs : List Bad) (x : Res) : Res := ⟨ts ++ x.toks, bs ++ x.bads, x.line, x.col⟩
def scanT (key : Bs → Bool) (z : Bool) : Nat → Bs → Int → Int → Res
  | 0, _, line, col => ⟨[], [], line, col⟩
  | f + 1, l, line, col => match l with
    | [] => ⟨[], [], line, col⟩
    | c :: r =>
      if c = 10 then scanT key z f r (line + 1) 1
      else Res.pre (stepT key z c r line col).2.1 (stepT key z c r line col).2.2 (scanT key z f ((c :: r).drop (stepT key z c r line col).1) line (col + ((stepT key z c r line col).1 : Int)))
variable {key : Bs → Bool} {z : Bool}
theorem inner_no : inner 10 = false := by decide
theorem digit_no : digit 10 = false := by decide
theorem mark_no : mark 10 = false := by decide
theorem notNl_no : notNl 10 = false := by decide
theorem inner_small {c : UInt8} (h : small c = true) : inner c = true := by simp [inner, h]
theorem inner_large {c : UInt8} (h : large c = true) : inner c = true := by simp [inner, h]
theorem tw_pos {p : UInt8 → Bool} {c : UInt8} {r : Bs} (h : p c = true) : 1 ≤ ((c :: r).takeWhile p).length := by
  rw [List.takeWhile_cons, if_pos h]
  simp
/-- a step takes one byte or more -/
theorem step_pos {c : UInt8} {r : Bs} {line col : Int} (hc : c ≠ 10) : 1 ≤ (stepT key z c r line col).1 := by
  unfold stepT
  split
  · exact Nat.le_refl _
  split
  · rename_i h; exact tw_pos (inner_small h)
  split
  · rename_i h; exact tw_pos (inner_large h)
  split
  · rename_i h; exact tw_pos h
  split
  · exact Nat.le_refl _
  split
  · rename_i h
    split
    · exact tw_pos (by simp [notNl, hc])
    · exact tw_pos h
  · exact Nat.le_refl _
theorem tw_le (p : UInt8 → Bool) (l : Bs) : (l.takeWhile p).length ≤ l.length := by
  induction l with
  | nil => simp
  | cons c r ih =>
    rw [List.takeWhile_cons]
    split
    · simp; omega
    · simp
theorem step_le {c : UInt8} {r : Bs} {line col : Int} : (stepT key z c r line col).1 ≤ (c :: r).length := by
  unfold stepT
  have h1 : 1 ≤ (c :: r).length := by simp
  repeat' (first | exact h1 | exact tw_le _ _ | split)
theorem tw_nl {p : UInt8 → Bool} (hp : p 10 = false) : ∀ (l rest : Bs), (l ++ 10 :: rest).takeWhile p = l.takeWhile p
  | [], rest => by simp [List.takeWhile_cons, hp]
  | c :: l, rest => by
    rw [List.cons_append, List.takeWhile_cons, List.takeWhile_cons, tw_nl hp l rest]
/-- a step within a line -/
theorem step_nl {c : UInt8} {r rest : Bs} {line col : Int} : stepT key z c (r ++ 10 :: rest) line col = stepT key z c r line col := by
  unfold stepT
  rw [← List.cons_append, tw_nl inner_no, tw_nl digit_no, tw_nl mark_no, tw_nl notNl_no]
/-- more steps than needed -/
theorem scan_fuel : ∀ (f g : Nat) (l : Bs) (line col : Int), l.length ≤ f → l.length ≤ g → scanT key z f l line col = scanT key z g l line col
  | 0, 0, _, _, _, _, _ => rfl
  | 0, g + 1, [], _, _, _, _ => rfl
  | 0, g + 1, c :: r, _, _, h, _ => by simp at h
  | f + 1, 0, [], _, _, _, _ => rfl
  | f + 1, 0, c :: r, _, _, _, h => by simp at h
  | f + 1, g + 1, [], _, _, _, _ => rfl
  | f + 1, g + 1, c :: r, line, col, h1, h2 => by
    simp only [scanT]
    simp only [List.length_cons] at h1 h2
    by_cases hc : c = 10
    · rw [if_pos hc, if_pos hc]
      exact scan_fuel f g r _ _ (by omega) (by omega)
    · rw [if_neg hc, if_neg hc]
      have hp := step_pos (key := key) (z := z) (r := r) (line := line) (col := col) hc
      rw [scan_fuel f g ((c :: r).drop (stepT key z c r line col).1) line _ (by rw [List.length_drop, List.length_cons]; omega) (by rw [List.length_drop, List.length_cons]; omega)]
def scan (key : Bs → Bool) (z : Bool) (l : Bs) (line col : Int) : Res := scanT key z l.length l line col
theorem scan_nil (line col : Int) : scan key z [] line col = ⟨[], [], line, col⟩ := rfl
theorem scan_nl (r : Bs) (line col : Int) : scan key z (10 :: r) line col = scan key z r (line + 1) 1 := by
  unfold scan
  rw [List.length_cons]
  simp only [scanT]
  rw [if_pos trivial]
theorem scan_step {c : UInt8} (hc : c ≠ 10) (r : Bs) (line col : Int) : scan key z (c :: r) line col = Res.pre (stepT key z c r line col).2.1 (stepT key z c r line col).2.2 (scan key z ((c :: r).drop (stepT key z c r line col).1) line (col + ((stepT key z c r line col).1 : Int))) := by
  have hp := step_pos (key := key) (z := z) (r := r) (line := line) (col := col) hc
  unfold scan
  rw [List.length_cons]
  simp only [scanT]
  rw [if_neg hc, scan_fuel r.length ((c :: r).drop (stepT key z c r line col).1).length _ _ _ (by rw [List.length_drop, List.length_cons]; omega) (Nat.le_refl _)]
def Res.app (x y : Res) : Res := ⟨x.toks ++ y.toks, x.bads ++ y.bads, y.line, y.col⟩
theorem Res.pre_app (ts : List Tok) (bs : List Bad) (x y : Res) : (Res.pre ts bs x).app y = Res.pre ts bs (x.app y) := by
  simp [Res.pre, Res.app]
/-- a line, and what comes behind it -/
theorem scan_line : ∀ (k : Nat) (l rest : Bs) (line col : Int), l.length ≤ k → 10 ∉ l → scan key z (l ++ 10 :: rest) line col = (scan key z l line col).app (scan key z rest (line + 1) 1)
  | _, [], rest, line, col, _, _ => by
    rw [List.nil_append, scan_nl, scan_nil]
    simp [Res.app]
  | 0, c :: r, _, _, _, h, _ => by simp at h
  | k + 1, c :: r, rest, line, col, h, hn => by
    have hc : c ≠ 10 := fun e => hn (by simp [e])
    have hp := step_pos (key := key) (z := z) (r := r) (line := line) (col := col) hc
    have hl := step_le (key := key) (z := z) (c := c) (r := r) (line := line) (col := col)
    rw [List.cons_append, scan_step hc, scan_step hc, step_nl, ← List.cons_append, List.drop_append_of_le_length hl, scan_line k _ rest _ _ (by rw [List.length_drop]; omega) (fun hm => hn (List.mem_of_mem_drop hm)), Res.pre_app]
/-- the column behind a line -/
theorem scan_end : ∀ (k : Nat) (l : Bs) (line col : Int), l.length ≤ k → 10 ∉ l → (scan key z l line col).line = line ∧ (scan key z l line col).col = col + (l.length : Int)
  | _, [], line, col, _, _ => by rw [scan_nil]; simp
  | 0, c :: r, _, _, h, _ => by simp at h
  | k + 1, c :: r, line, col, h, hn => by
    have hc : c ≠ 10 := fun e => hn (by simp [e])
    have hp := step_pos (key := key) (z := z) (r := r) (line := line) (col := col) hc
    have hl := step_le (key := key) (z := z) (c := c) (r := r) (line := line) (col := col)
    rw [scan_step hc]
    obtain ⟨h1, h2⟩ := scan_end k ((c :: r).drop (stepT key z c r line col).1) line (col + ((stepT key z c r line col).1 : Int)) (by rw [List.length_drop]; omega) (fun hm => hn (List.mem_of_mem_drop hm))
    simp only [Res.pre]
    refine ⟨h1, ?_⟩
    rw [h2, List.length_drop]
    omega
/-- great numbers are errors: without an error both ways agree -/
theorem step_z (c : UInt8) (r : Bs) (line col : Int) : (stepT key true c r line col).1 = (stepT key false c r line col).1 ∧ (stepT key true c r line col).2.2 = (stepT key false c r line col).2.2 ∧ ((stepT key false c r line col).2.2 = [] → (stepT key true c r line col).2.1 = (stepT key false c r line col).2.1) := by
  unfold stepT
  repeat' split
  all_goals first | exact ⟨rfl, rfl, fun _ => rfl⟩ | skip
  all_goals (refine ⟨rfl, rfl, fun h => ?_⟩; first | rfl | (simp_all; done) | skip)
theorem scan_z : ∀ (k : Nat) (l : Bs) (line col : Int), l.length ≤ k → (scan key true l line col).bads = (scan key false l line col).bads ∧ (scan key true l line col).line = (scan key false l line col).line ∧ (scan key true l line col).col = (scan key false l line col).col ∧ ((scan key false l line col).bads = [] → (scan key true l line col).toks = (scan key false l line col).toks)
  | _, [], line, col, _ => by rw [scan_nil, scan_nil]; exact ⟨rfl, rfl, rfl, fun _ => rfl⟩
  | 0, c :: r, _, _, h => by simp at h
  | k + 1, c :: r, line, col, h => by
    simp only [List.length_cons] at h
    by_cases hc : c = 10
    · subst hc
      rw [scan_nl, scan_nl]
      exact scan_z k r _ _ (by omega)
    · obtain ⟨h1, h2, h3⟩ := step_z (key := key) c r line col
      have hp := step_pos (key := key) (z := false) (r := r) (line := line) (col := col) hc
      rw [scan_step hc, scan_step hc, h1, h2]
      obtain ⟨g1, g2, g3, g4⟩ := scan_z k ((c :: r).drop (stepT key false c r line col).1) line (col + ((stepT key false c r line col).1 : Int)) (by rw [List.length_drop, List.length_cons]; omega)
      simp only [Res.pre]
      refine ⟨by rw [g1], g2, g3, fun hb => ?_⟩
      rw [List.append_eq_nil_iff] at hb
      rw [h3 hb.1, g4 hb.2]
end Go.Lt

/- A small calculus for walks: the temporaries as a list of entries, memory as a list of owned items and of worlds that are kept; rules for the operations. General: any program P. No condition. -/
namespace Go.Eng
open Go.RowKit
/-! ### Entries: slot, condition, value -/
abbrev Env := List (Nat × Bool × Value)
def look : Env → Nat → Option (Bool × Value)
  | [], _ => none
  | (t, e) :: r, s => bif Nat.beq t s then some e else look r s
def evl (l : Env) : Operand → Option (Bool × Value)
  | .tmp t => look l t
  | .const v => some (true, v)
  | .global g => some (true, .pointer (some ⟨g, 0, none⟩))
  | .func f => some (true, .func (.func f) #[] #[])
/-- how many slots; the deferred calls so far; the round that one is in -/
structure Nm where
  n : Nat
  M : List Deferred
  r : Option Nat
structure Sees (n : Nm) (l : Env) (a : Act) : Prop where
  df : a.defers = n.M
  sz : a.tmps.size = n.n
  at_ : ∀ t c v, look l t = some (c, v) → a.tmps[t]? = some (bif c then v else undef)
theorem Sees.eval {n : Nm} {l : Env} {a : Act} (h : Sees n l a) {x : Operand} {c : Bool} {v : Value} (hx : evl l x = some (c, v)) (hc : c = true) : a.eval x = v := by
  subst hc
  match x, hx with
  | .tmp t, hx =>
    have := h.at_ t true v hx
    simp only [Act.eval, Array.getD_eq_getD_getElem?, this]; rfl
  | .const u, hx => simp only [evl, Option.some.injEq, Prod.mk.injEq] at hx; exact hx.2
  | .global g, hx => simp only [evl, Option.some.injEq, Prod.mk.injEq] at hx; exact hx.2
  | .func f, hx => simp only [evl, Option.some.injEq, Prod.mk.injEq] at hx; exact hx.2
theorem Sees.put {n : Nm} {l : Env} {a : Act} (h : Sees n l a) {d : Nat} (hd : d < n.n) (c : Bool) (v : Value) :
    Sees n ((d, c, v) :: l) (a.put (some d) (bif c then v else undef)) := by
  refine ⟨h.df, ?_, fun t c' v' ht => ?_⟩
  · show (a.tmps.setIfInBounds d _).size = n.n
    rw [Array.size_setIfInBounds]; exact h.sz
  · show (a.tmps.setIfInBounds d _)[t]? = _
    rw [Array.getElem?_setIfInBounds]
    simp only [look] at ht
    by_cases e : d = t
    · subst e
      rw [Nat.beq_refl, cond_true] at ht
      simp only [Option.some.injEq, Prod.mk.injEq] at ht
      obtain ⟨rfl, rfl⟩ := ht
      rw [if_pos rfl, if_pos (by rw [h.sz]; exact hd)]
    · rw [show Nat.beq d t = false from by rw [Bool.eq_false_iff]; intro hb; exact e (Nat.eq_of_beq_eq_true hb), cond_false] at ht
      rw [if_neg e]
      exact h.at_ t c' v' ht
/-- every entry of l' stands in l -/
inductive Sub (l : Env) : Env → Prop where
  | nil : Sub l []
  | cons {t : Nat} {c : Bool} {v : Value} {l' : Env} (h : look l t = some (c, v)) (r : Sub l l') : Sub l ((t, c, v) :: l')
theorem Sub.look {l l' : Env} (h : Sub l l') : ∀ t c v, look l' t = some (c, v) → Eng.look l t = some (c, v) := by
  induction h with
  | nil => intro t c v h; cases h
  | @cons t0 c0 v0 l0 h0 _ ih =>
    intro t c v ht
    simp only [Eng.look] at ht
    by_cases e : t0 = t
    · subst e
      rw [Nat.beq_refl, cond_true] at ht
      rw [h0]; exact ht
    · rw [show Nat.beq t0 t = false from by rw [Bool.eq_false_iff]; intro hb; exact e (Nat.eq_of_beq_eq_true hb), cond_false] at ht
      exact ih t c v ht
theorem Sees.sub {n : Nm} {l l' : Env} {a : Act} (h : Sees n l a) (hs : Sub l l') : Sees n l' a :=
  ⟨h.df, h.sz, fun t c v ht => h.at_ t c v (hs.look t c v ht)⟩
/-! ### Guards -/
inductive Guard (l : Env) (ops : Array Oper) : Option (Nat × Bool) → Bool → Prop where
  | none : Guard l ops .none true
  | yes {j d : Nat} {b : Bool} (hd : (ops[j]?).bind (·.dst) = some d) (h : look l d = some (true, .bool b)) : Guard l ops (some (j, true)) b
  | no {j d : Nat} {b : Bool} (hd : (ops[j]?).bind (·.dst) = some d) (h : look l d = some (true, .bool b)) : Guard l ops (some (j, false)) (!b)
  | cyes {j d : Nat} {c b : Bool} (hd : (ops[j]?).bind (·.dst) = some d) (h : look l d = some (c, .bool b)) : Guard l ops (some (j, true)) (c && b)
  | cno {j d : Nat} {c b : Bool} (hd : (ops[j]?).bind (·.dst) = some d) (h : look l d = some (c, .bool b)) : Guard l ops (some (j, false)) (c && !b)
theorem yielded_of {n : Nm} {l : Env} {a : Act} (hs : Sees n l a) {ops : Array Oper} {j d : Nat} {c b : Bool} (hd : (ops[j]?).bind (·.dst) = some d) (h : look l d = some (c, .bool b)) :
    yielded ops a.tmps j = if c then some b else none := by
  have ht := hs.at_ d c _ h
  unfold yielded
  rw [hd]
  simp only [Option.bind_some, ht]
  cases c <;> simp [undef]
theorem Guard.wanted {n : Nm} {l : Env} {a : Act} (hs : Sees n l a) {ops : Array Oper} {o : Oper} {c : Bool} (h : Guard l ops o.guard c) :
    Region.wanted o (yielded ops a.tmps) = c := by
  unfold Region.wanted
  generalize o.guard = g at h
  cases h with
  | none => rfl
  | @yes j d b hd h => simp only [yielded_of hs hd h, if_true]; cases c <;> rfl
  | @no j d b hd h => simp only [yielded_of hs hd h, if_true]; cases b <;> rfl
  | @cyes j d c b hd h => simp only [yielded_of hs hd h]; cases c <;> cases b <;> rfl
  | @cno j d c b hd h => simp only [yielded_of hs hd h]; cases c <;> cases b <;> rfl
theorem Sub.cons_eq {l l' : Env} {t : Nat} {c : Bool} {v v' : Value} (h : Eng.look l t = some (c, v')) (hv : v' = v) (r : Sub l l') : Sub l ((t, c, v) :: l') := .cons (by rw [h, hv]) r
/-! what a tactic finds by itself, as an argument that is filled in -/
theorem Sub.au {l l' : Env} (h : Sub l l' := by (repeat (first | exact Sub.nil | apply Sub.cons rfl | (refine Sub.cons_eq rfl (congrArg (Value.int .i64) (by first | omega | (simp only; omega))) ?_))); first | done | fail) : Sub l l' := h
theorem Guard.au {l : Env} {ops : Array Oper} {g : Option (Nat × Bool)} {c : Bool} (h : Guard l ops g c := by (first | exact Guard.none | exact Guard.yes rfl rfl | exact Guard.no rfl rfl | exact Guard.cyes rfl rfl | exact Guard.cno rfl rfl); first | done | fail) : Guard l ops g c := h
/-! ### Memory: items and kept worlds -/
structure Item where
  own : Nat → Prop
  holds : World → Prop
  stab : ∀ w w' : World, (∀ k, own k → w'.heap[k]? = w.heap[k]?) → holds w → holds w'
/-- what is kept of s in w: all but the blocks O -/
structure Keep (O : Nat → Prop) (s w : World) : Prop where
  os : w.os = s.os
  tape : w.tape = s.tape
  output : w.output = s.output
  size : s.heap.size ≤ w.heap.size
  block : ∀ k, k < s.heap.size → ¬ O k → w.heap[k]? = s.heap[k]?
theorem Keep.refl (O : Nat → Prop) (s : World) : Keep O s s := ⟨rfl, rfl, rfl, Nat.le_refl _, fun _ _ _ => rfl⟩
theorem Keep.trans {O : Nat → Prop} {a b c : World} (h : Keep O a b) (k : Keep O b c) : Keep O a c :=
  ⟨k.os.trans h.os, k.tape.trans h.tape, k.output.trans h.output, Nat.le_trans h.size k.size, fun i hi ho => (k.block i (Nat.lt_of_lt_of_le hi h.size) ho).trans (h.block i hi ho)⟩
theorem Keep.mono {O O' : Nat → Prop} {s w : World} (h : Keep O s w) (ho : ∀ k, k < s.heap.size → O k → O' k) : Keep O' s w :=
  ⟨h.os, h.tape, h.output, h.size, fun k hk hn => h.block k hk fun x => hn (ho k hk x)⟩
/-- nothing that was there has turned -/
abbrev Ext (w w' : World) : Prop := Keep (fun _ => False) w w'
theorem Ext.below {w w' : World} (h : Ext w w') : Below w.heap.size w w' := ⟨h.os, h.tape, h.output, h.size, fun k hk => h.block k hk id⟩
theorem Ext.of_below {w w' : World} (h : Below w.heap.size w w') : Ext w w' := ⟨h.os, h.tape, h.output, h.size, fun k hk _ => h.block k hk⟩
def owned (H : List Item) (k : Nat) : Prop := ∃ i ∈ H, i.own k
structure Cls (H : List Item) (S : List World) (w : World) : Prop where
  holds : ∀ i ∈ H, i.holds w
  lt : ∀ i ∈ H, ∀ k, i.own k → k < w.heap.size
  dj : H.Pairwise fun i j => ∀ k, i.own k → ¬ j.own k
  kp : ∀ s ∈ S, Keep (owned H) s w
theorem Cls.start (w : World) : Cls [] [w] w :=
  { holds := fun i hi => by cases hi
    lt := fun i hi => by cases hi
    dj := List.Pairwise.nil
    kp := fun s hs => by simp only [List.mem_singleton] at hs; subst hs; exact .refl _ _ }
theorem Cls.ext {H : List Item} {S : List World} {w w' : World} (h : Cls H S w) (he : Ext w w') : Cls H S w' :=
  ⟨fun i hi => i.stab w w' (fun k hk => he.block k (h.lt i hi k hk) id) (h.holds i hi), fun i hi k hk => Nat.lt_of_lt_of_le (h.lt i hi k hk) he.size, h.dj,
    fun s hs => (h.kp s hs).trans (he.mono fun _ _ x => x.elim)⟩
theorem Cls.drew {H : List Item} {S : List World} {w : World} (h : Cls H S w) : Cls H S { w with drawn := w.drawn + 1 } :=
  h.ext ⟨rfl, rfl, rfl, Nat.le_refl _, fun _ _ _ => rfl⟩
/-- forget a kept world -/
theorem Cls.forget {H : List Item} {S S' : List World} {w : World} (h : Cls H S w) (hs : ∀ s ∈ S', s ∈ S) : Cls H S' w := ⟨h.holds, h.lt, h.dj, fun s x => h.kp s (hs s x)⟩
/-- keep the present world, too -/
theorem Cls.note {H : List Item} {S : List World} {w : World} (h : Cls H S w) : Cls H (w :: S) w :=
  ⟨h.holds, h.lt, h.dj, fun s x => by cases x with | head => exact .refl _ _ | tail _ x => exact h.kp s x⟩
/-- one item more: a block that is new -/
theorem Cls.add {H : List Item} {S : List World} {w w' : World} (h : Cls H S w) (he : Ext w w') (i : Item) (hi : i.holds w') (ho : ∀ k, i.own k → w.heap.size ≤ k ∧ k < w'.heap.size) : Cls (i :: H) S w' := by
  have h' := h.ext he
  refine ⟨fun j hj => ?_, fun j hj => ?_, .cons (fun j hj k hk hk' => ?_) h'.dj, fun s hs => (h'.kp s hs).mono fun k _ ⟨j, hj, x⟩ => ⟨j, .tail _ hj, x⟩⟩
  · cases hj with
    | head => exact hi
    | tail _ hj => exact h'.holds j hj
  · cases hj with
    | head => exact fun k hk => (ho k hk).2
    | tail _ hj => exact h'.lt j hj
  · have := h.lt j hj k hk'; have := (ho k hk).1; omega
theorem owns_mem {H : List Item} {i : Item} (hi : i ∈ H) {k : Nat} (hk : i.own k) : owned H k := ⟨i, hi, hk⟩
/-- ONE ITEM IS TURNED INTO ANOTHER: at its place p; the rest is as it was. 'own' may only grow, by what is new. -/
theorem Cls.turn {H : List Item} {S : List World} {w w' : World} (h : Cls H S w) (p : Nat) {i j : Item} (hp : H[p]? = some i) (hw : Keep i.own w w') (hj : j.holds w')
    (ho : ∀ k, j.own k → (i.own k ∨ w.heap.size ≤ k) ∧ k < w'.heap.size) (hk : ∀ k, i.own k → j.own k) : Cls (H.set p j) S w' := by
  have hlt : p < H.length := by
    rcases Nat.lt_or_ge p H.length with hl | hl
    · exact hl
    · rw [List.getElem?_eq_none hl] at hp; cases hp
  have hpi : H[p] = i := by rw [List.getElem?_eq_getElem hlt] at hp; exact Option.some.inj hp
  have far : ∀ q (hq : q < H.length), q ≠ p → ∀ k, H[q].own k → ¬ i.own k := by
    intro q hq hne k hk hik
    rcases Nat.lt_or_gt_of_ne hne with hl | hl
    · exact List.pairwise_iff_getElem.1 h.dj q p hq hlt hl k hk (hpi ▸ hik)
    · exact List.pairwise_iff_getElem.1 h.dj p q hlt hq hl k (hpi ▸ hik) hk
  have mem : ∀ x ∈ H.set p j, x = j ∨ ∃ q, ∃ hq : q < H.length, q ≠ p ∧ x = H[q] := by
    intro x hx
    obtain ⟨q, hq, e⟩ := List.getElem_of_mem hx
    rw [List.getElem_set] at e
    by_cases hqp : p = q
    · rw [if_pos hqp] at e; exact .inl e.symm
    · rw [if_neg hqp] at e; exact .inr ⟨q, by simpa using hq, Ne.symm hqp, e.symm⟩
  refine ⟨fun x hx => ?_, fun x hx k hxk => ?_, ?_, fun s hs => ?_⟩
  · rcases mem x hx with rfl | ⟨q, hq, hne, rfl⟩
    · exact hj
    · exact H[q].stab w w' (fun k hk => hw.block k (h.lt _ (List.getElem_mem hq) k hk) (far q hq hne k hk)) (h.holds _ (List.getElem_mem hq))
  · rcases mem x hx with rfl | ⟨q, hq, hne, rfl⟩
    · exact (ho k hxk).2
    · exact Nat.lt_of_lt_of_le (h.lt _ (List.getElem_mem hq) k hxk) hw.size
  · rw [List.pairwise_iff_getElem]
    intro a b ha hb hab k hka hkb
    rw [List.getElem_set] at hka hkb
    simp only [List.length_set] at ha hb
    by_cases h1 : p = a
    · subst h1
      rw [if_pos rfl] at hka
      rw [if_neg (by omega)] at hkb
      rcases (ho k hka).1 with h2 | h2
      · exact far b hb (by omega) k hkb h2
      · have := h.lt _ (List.getElem_mem hb) k hkb; omega
    · rw [if_neg h1] at hka
      by_cases h2 : p = b
      · subst h2
        rw [if_pos rfl] at hkb
        rcases (ho k hkb).1 with h3 | h3
        · exact far a ha (by omega) k hka h3
        · have := h.lt _ (List.getElem_mem ha) k hka; omega
      · rw [if_neg h2] at hkb
        exact List.pairwise_iff_getElem.1 h.dj a b ha hb hab k hka hkb
  · have hin : ∀ k, i.own k → owned (H.set p j) k := fun k hik => ⟨j, List.mem_of_getElem? (List.getElem?_set_self (by simpa using hlt)), hk k hik⟩
    have hs1 := h.kp s hs
    refine ⟨hw.os.trans hs1.os, hw.tape.trans hs1.tape, hw.output.trans hs1.output, Nat.le_trans hs1.size hw.size, fun k hks hno => ?_⟩
    have h1 : ¬ i.own k := fun x => hno (hin k x)
    refine (hw.block k (Nat.lt_of_lt_of_le hks hs1.size) h1).trans (hs1.block k hks ?_)
    rintro ⟨x, hx, hxk⟩
    obtain ⟨q, hq, rfl⟩ := List.getElem_of_mem hx
    by_cases hqp : q = p
    · subst hqp; exact h1 (hpi ▸ hxk)
    · exact hno ⟨H[q], List.mem_of_getElem? (by rw [List.getElem?_set_ne (Ne.symm hqp)]; exact List.getElem?_eq_getElem hq), hxk⟩
/-! ### Blocks -/
def blk (b : Nat) (t : TypeId) (c : List Value) : Item :=
  ⟨fun k => k = b, fun w => w.heap[b]? = some (.cells c.toArray t (0, 0)), fun w w' hk h => (hk b rfl).trans h⟩
theorem blk_cell {w : World} {b o : Nat} {t : TypeId} {c : List Value} (h : (blk b t c).holds w) : w.cell? ⟨b, o, none⟩ = c[o]? := by
  have h' : w.heap[b]? = some (.cells c.toArray t (0, 0)) := h
  simp [World.cell?, h']
theorem blk_frozen {w : World} {b o : Nat} {t : TypeId} {c : List Value} (h : (blk b t c).holds w) : w.frozen? ⟨b, o, none⟩ = false := by
  have h' : w.heap[b]? = some (.cells c.toArray t (0, 0)) := h
  simp [World.frozen?, h']
theorem ext_alloc (w : World) (o : Obj) : Ext w (w.alloc o) := Ext.of_below ((Below.refl _ _).alloc (Nat.le_refl _) o)
theorem Cls.alloc {H : List Item} {S : List World} {w : World} (h : Cls H S w) (t : TypeId) (c : List Value) :
    Cls (blk w.heap.size t c :: H) S (w.alloc (.cells c.toArray t)) :=
  h.add (ext_alloc w _) _ (heap_alloc_new w _) (fun k hk => by
    have hk' : k = w.heap.size := hk
    subst hk'; simp)
end Go.Eng

/- Codes walked in whatever round of a range over a function, with whatever deferred calls: the rules of control out of the kit's fenced ones. General. No condition. -/
namespace Go.Eng
open Go.RowKit
def wideR (r : Option Nat) : Fence := { Fence.wide with round := r }
theorem fencedR (P : Program) (r : Option Nat) (m : Machine) : m.fenced P (wideR r) := fenced_wide P m
theorem roomR (r : Option Nat) (n : Nat) : (wideR r).room n := room_wide n
def opCalm (o : Oper) : Bool := match o.op with
  | .defer _ => false
  | _ => true
/-- no deferred call -/
def calmC : Code → Bool
  | .region _ ops _ => ops.toList.all opCalm
  | .seq a b => calmC a && calmC b
  | .cond _ a b => calmC a && calmC b
  | .block _ a => calmC a
  | .loop a => calmC a
  | .scope a => calmC a
  | _ => true
def wpp (r : Option Nat) (P : Program) (c : Code) (Q : Exit → Act → World → Prop) (a : Act) (w : World) : Prop := (r.isSome = true → calmC c = true) → c.wpIn (wideR r) 0 P Q a w
section
variable {P : Program} {r : Option Nat} {Q : Exit → Act → World → Prop} {a : Act} {w : World} {x y c : Code} {ops : Array Oper}
theorem wpp_mono {Q' : Exit → Act → World → Prop} (h : wpp r P c Q a w) (hq : ∀ e a w, Q e a w → Q' e a w) : wpp r P c Q' a w := fun hp => wpIn_mono (h hp) hq
theorem wpp_seq (h : wpp r P x (Exit.then (wpp r P y Q) Q) a w) : wpp r P (.seq x y) Q a w := fun hp => by
  have hp2 : r.isSome = true → calmC x = true ∧ calmC y = true := fun h => by have := hp h; simpa [calmC] using this
  refine wpIn_seq (wpIn_mono (h fun h => (hp2 h).1) fun e a w hq => ?_)
  cases e with
  | normal => exact hq fun h => (hp2 h).2
  | _ => exact hq
theorem wpp_cond_split {o : Operand} {t : Bool} (hc : a.eval o = .bool t) (ht : t = true → wpp r P x Q a w) (hf : t = false → wpp r P y Q a w) : wpp r P (.cond o x y) Q a w := fun hp => by
  have hp2 : r.isSome = true → calmC x = true ∧ calmC y = true := fun h => by have := hp h; simpa [calmC] using this
  exact wpIn_cond_split hc (fun h => ht h fun h => (hp2 h).1) (fun h => hf h fun h => (hp2 h).2)
theorem wpp_block {id : Nat} (h : wpp r P c (Exit.inBlock id Q) a w) : wpp r P (.block id c) Q a w := fun hp => wpIn_block (h hp)
theorem wpp_skip (h : Q .normal a w) : wpp r P .skip Q a w := fun _ => wpIn_skip h
theorem wpp_exit {id : Nat} (h : Q (.exit id) a w) : wpp r P (.exit id) Q a w := fun _ => wpIn_exit h
theorem wpp_ret (h : Q .ret a w) : wpp r P .ret Q a w := fun _ => wpIn_ret h
theorem wpp_label {i : Nat} (h : Q .normal a w) : wpp r P (.label i) Q a w := fun _ => wpIn_label h
def roundsP (r : Option Nat) (P : Program) (c : Code) (Q : Exit → Act → World → Prop) : Nat → Act → World → Prop
  | 0, _, _ => False
  | m + 1, a, w => wpp r P c (Exit.then (roundsP r P c Q m) Q) a w
theorem wpp_loop (m : Nat) (h : roundsP r P c Q m a w) : wpp r P (.loop c) Q a w := fun hp => by
  have hp : r.isSome = true → calmC c = true := hp
  refine wpIn_loop_rounds m ?_
  induction m generalizing a w with
  | zero => exact h.elim
  | succ m ih =>
    refine wpIn_mono (h hp) fun e a w hq => ?_
    cases e with
    | normal => exact ih hq
    | _ => exact hq
theorem asks_outgrownR {b : Frame} {k : List Go.Item} {cs : List Frame} {i : Nat} {rest : List Nat} {o : Oper}
    (ho : ops[i]? = some o) (hw : Region.wanted o (yielded ops a.tmps) = true) (hb : b.kind ≠ .early) (hs : o.semAt b.roundOf a.eval = execOp a.eval o) (h : o.asks P a w) :
    Outgrown P (lone (b.atR a (.inRegion ops (i :: rest) :: k)) cs w) := by
  obtain ⟨hm, hkept⟩ := h
  have hg := stepGR_op (P := P) (b := b) (k := k) (cs := cs) (w := w) (rest := rest) ho hw
  rw [hs] at hg
  have hes : noRoomEvent ∈ (stepG P true { frame := b.atR a (.inRegion ops (i :: rest) :: k), callers := cs, status := .running, dying := none } w).es := by
    rw [hg]
    have hk : ((b.atR a (.inRegion ops (i :: rest) :: k)).kind == CallKind.early) = false := by simpa [Frame.atR] using hb
    have hm' : noRoomEvent ∈ Sem.events P (execOp a.eval o) w #[] := hm
    simp only [stepG.apply, Sem.runT_eq, if_true, hk, Bool.false_eq_true, if_false]
    rw [GStep.es_after]
    refine Array.mem_append.2 (.inl (seen_keeps P _ _ ?_))
    cases hrun : (execOp a.eval o).run P w with
    | ok x w' => exact hm'
    | halt x w' =>
      rw [hrun] at hkept
      cases x with
      | unsupported u => cases u <;> first | exact hkept.elim | exact hm'
      | blocked => exact hkept.elim
      | waiting => exact hkept.elim
      | _ => exact hm'
  refine Outgrown.now (o := { g := 0, fn := (b.atR a (.inRegion ops (i :: rest) :: k)).fn, pos := (b.atR a (.inRegion ops (i :: rest) :: k)).place, act := .mark .noRoom }) ?_ rfl rfl
  rw [stepT, move_lone]
  refine runT_lists P _ 0 { frame := b.atR a (.inRegion ops (i :: rest) :: k), callers := cs, status := .running, dying := none } (by simp [lone]) _ ?_
  exact mem_ofEvents (e := noRoomEvent) (by simpa [lone] using hes)
/-- some operations of a region, ahead of others -/
theorem wpp_ops2 {Y : Exit → Act → World → Prop} (l2 : List Nat) (hY : ∀ a w, Y .normal a w → ∀ (b : Frame) (k : List Go.Item) (cs : List Frame), b.roundOf = r → ∃ e a' w', Q e a' w' ∧ ArrivesIn (Machine.fenced P (wideR r)) P (lone (b.atR a (.inRegion ops l2 :: k)) cs w) b k cs e a' w')
    (hne : ∀ e a w, e ≠ .normal → Y e a w → Q e a w) (l : List Nat) : ∀ (a : Act) (w : World), wpOps P ops Y l a w → (r.isSome = true → ops.toList.all opCalm = true) → ∀ (b : Frame) (k : List Go.Item) (cs : List Frame), b.roundOf = r →
      ∃ e a' w', Q e a' w' ∧ ArrivesIn (Machine.fenced P (wideR r)) P (lone (b.atR a (.inRegion ops (l ++ l2) :: k)) cs w) b k cs e a' w' := by
  induction l with
  | nil => exact fun a w h _ b k cs hro => hY a w h b k cs hro
  | cons i rest0 ih =>
    intro a w h hcalm b k cs hro
    obtain ⟨rest, hrest⟩ : ∃ rest, rest0 ++ l2 = rest := ⟨_, rfl⟩
    rw [hrest] at ih
    rw [List.cons_append, hrest]
    simp only [wpOps] at h
    cases ho : ops[i]? with
    | none =>
      simp only [ho] at h
      obtain ⟨e, a', w', hq, harr⟩ := ih a w h hcalm b k cs hro
      have hs := stepR_op_skip (P := P) (b := b) (a := a) (k := k) (cs := cs) (w := w) (ops := ops) (i := i) (rest := rest) (by simp [ho])
      simp only [ho, Option.bind_none, Act.put] at hs
      exact ⟨e, a', w', hq, .of_steps (.one (fencedR _ _ _) hs) harr⟩
    | some o =>
      simp only [ho] at h
      have hsem : o.semAt b.roundOf a.eval = execOp a.eval o := by
        rw [hro]
        cases hr : r with
        | none => rfl
        | some l0 =>
          refine Oper.semAt_eq _ _ _ fun c hc => ?_
          have h1 := hcalm (by rw [hr]; rfl)
          rw [List.all_eq_true] at h1
          have h2 := h1 o (by
            have := Array.mem_of_getElem? ho
            simpa using this)
          unfold opCalm at h2
          rw [hc] at h2
          cases h2
      by_cases hw : Region.wanted o (yielded ops a.tmps) = true
      · simp only [hw, if_true] at h
        rcases h with h | ⟨hasks, a₀, w₀, hq⟩
        case inr =>
          by_cases hk : b.kind = .early
          · exact ⟨.outgrown, a₀, w₀, hne _ _ _ (by simp) hq, .inl hk⟩
          · exact ⟨.outgrown, a₀, w₀, hne _ _ _ (by simp) hq, .inr (asks_outgrownR ho hw hk hsem hasks)⟩
        simp only [Oper.wp, Oper.upon] at h
        have h0 : (lone (b.atR a (.inRegion ops (i :: rest) :: k)) cs w).fenced P (wideR r) := fencedR _ _ _
        have hg := stepGR_op (P := P) (b := b) (k := k) (cs := cs) (w := w) (rest := rest) ho hw
        rw [hsem] at hg
        have hfin : ∀ v, (b.atR a (.inRegion ops (i :: rest) :: k)).finish v = b.atR (a.put o.dst v) (.inRegion ops rest :: k) := by
          intro v; rw [Frame.finish_atR, ho]; rfl
        split at h
        · rename_i v w' hr'
          obtain ⟨e, a', w'', hq, harr⟩ := ih _ _ h hcalm b k cs hro
          refine ⟨e, a', w'', hq, .of_steps (.one h0 (step_lone_go ?_)) harr⟩
          rw [hg, ← hfin]; simp [stepG.apply, hr']
        · rename_i w' hr'
          obtain ⟨e, a', w'', hq, harr⟩ := ih _ _ h hcalm b k cs hro
          refine ⟨e, a', w'', hq, .of_steps (.one h0 (step_lone_go ?_)) harr⟩
          rw [hg, ← hfin]; simp [stepG.apply, hr']
        · rename_i d w' hr'
          obtain ⟨e, a', w'', hq, harr⟩ := ih _ _ h hcalm b k cs hro
          refine ⟨e, a', w'', hq, .of_steps (.one h0 (step_lone_go ?_)) harr⟩
          have : ({ b.atR a (.inRegion ops (i :: rest) :: k) with defers := d :: a.defers } : Frame).finish undef =
              b.atR ({ a with defers := d :: a.defers }.put o.dst undef) (.inRegion ops rest :: k) := by
            have := Frame.finish_atR b { a with defers := d :: a.defers } ops i rest k undef
            rw [ho] at this; exact this
          rw [hg]; simp only [stepG.apply, Sem.runT_eq, hr', GStep.bare_after]
          exact congrArg (fun fr => GStep.go { frame := fr, callers := cs, status := .running, dying := none } w') this
        · rename_i f args w' hr'
          obtain ⟨e, w'', fr, hR, hsteps, hfn, hleave⟩ := h (b.atR a (.inRegion ops (i :: rest) :: k) :: cs)
          have hsteps := comesIn_wide.2 hsteps
          have henter : step P (lone (b.atR a (.inRegion ops (i :: rest) :: k)) cs w) =
              .next (lone (Frame.enter P f args .normal) (b.atR a (.inRegion ops (i :: rest) :: k) :: cs) w') :=
            step_lone_go (by rw [hg]; simp [stepG.apply, hr', Frame.atR])
          cases e with
          | returned v =>
            obtain ⟨e, a', w₃, hq, harr⟩ := ih _ _ hR hcalm b k cs hro
            refine ⟨e, a', w₃, hq, .of_steps (.head h0 henter (StepsIn.trans hsteps (.one (fencedR _ _ _) ?_))) harr⟩
            rw [← hfin]; exact step_leave_returned hleave
          | panicked chain =>
            refine ⟨.panic chain, a, w'', hne _ _ _ (by simp) hR, .inRegion ops (i :: rest) :: k, .head h0 henter (StepsIn.trans hsteps (.one (fencedR _ _ _) ?_))⟩
            rw [← Frame.raise_atR]; exact step_leave_panicked hleave
          | outgrown =>
            obtain ⟨a₀, w₀, hq⟩ := hR
            exact ⟨.outgrown, a₀, w₀, hne _ _ _ (by simp) hq, .inr (Outgrown.of_steps (.one henter) hsteps)⟩
        · rename_i row args w' hr'
          obtain ⟨v, w'', hR, hsteps⟩ := h (b.atR a (.inRegion ops (i :: rest) :: k)) cs
          have hsteps := stepsIn_wide.2 hsteps
          have henter : step P (lone (b.atR a (.inRegion ops (i :: rest) :: k)) cs w) =
              .next (lone (Frame.ofRow P row args .normal) (b.atR a (.inRegion ops (i :: rest) :: k) :: cs) w') :=
            step_lone_go (by rw [hg]; simp [stepG.apply, hr', Frame.atR])
          obtain ⟨e, a', w₃, hq, harr⟩ := ih _ _ hR hcalm b k cs hro
          refine ⟨e, a', w₃, hq, .of_steps (.head h0 henter ?_) harr⟩
          rw [← hfin]; exact hsteps
        · rename_i v w' hr'
          refine ⟨_, a, w', hne _ _ _ (by simp) h, .inRegion ops (i :: rest) :: k, .one h0 (step_lone_go ?_)⟩
          rw [hg, ← Frame.raise_atR]; simp [stepG.apply, hr']
        · exact h.elim
      · simp only [hw, if_false, Bool.false_eq_true] at h
        obtain ⟨e, a', w', hq, harr⟩ := ih _ _ h hcalm b k cs hro
        have hs := stepR_op_skip (P := P) (b := b) (a := a) (k := k) (cs := cs) (w := w) (ops := ops) (i := i) (rest := rest)
          (by simp [ho]; simpa using hw)
        simp only [ho, Option.bind_some] at hs
        exact ⟨e, a', w', hq, .of_steps (.one (fencedR _ _ _) hs) harr⟩
theorem wpp_ops (l : List Nat) (a : Act) (w : World) (h : wpOps P ops Q l a w) (hcalm : r.isSome = true → ops.toList.all opCalm = true) (b : Frame) (k : List Go.Item) (cs : List Frame) (hro : b.roundOf = r) :
      ∃ e a' w', Q e a' w' ∧ ArrivesIn (Machine.fenced P (wideR r)) P (lone (b.atR a (.inRegion ops l :: k)) cs w) b k cs e a' w' := by
  have := wpp_ops2 (r := r) (Q := Q) [] (fun a w h b k cs _ => ⟨.normal, a, w, h, .one (fencedR _ _ _) stepR_region_end⟩) (fun e a w _ h => h) l a w h hcalm b k cs hro
  rwa [List.append_nil] at this
theorem wpOps_of_list (l : List Oper) : ∀ (k : Nat), (∀ j, j < l.length → l[j]? = ops[k + j]?) → ∀ a w, wpList P ops Q l a w → wpOps P ops Q (List.range' k l.length) a w := by
  induction l with
  | nil => intro k _ a w h; exact h
  | cons o l ih =>
    intro k h a w hw
    have h0 : ops[k]? = some o := by simpa using (h 0 (by simp)).symm
    have ih' := ih (k + 1) (fun j hj => by have := h (j + 1) (by simpa using hj); simpa [Nat.add_assoc, Nat.add_comm 1 j] using this)
    simp only [List.length_cons, List.range'_succ, wpOps, h0]
    unfold wpList at hw
    split at hw
    · rename_i hwt
      rw [if_pos hwt]
      exact hw.imp (Oper.wp_mono (fun a w h => ih' a w h)) id
    · rename_i hwt
      rw [if_neg hwt]
      exact ih' _ _ hw
theorem wpp_region {id : Nat} (h : wpOps P ops Q (List.range ops.size) a w) : wpp r P (.region id ops false) Q a w := fun hp b k cs hro _ _ =>
  let ⟨e, a', w', q, s⟩ := wpp_ops _ a w h hp b k cs hro; ⟨e, a', w', q, .of_steps (.one (fencedR _ _ _) stepR_region) s⟩
theorem wpp_region_draw {id : Nat} (h : ∀ t, wpOps P ops Q (Region.schedule (P.follows .mixedOrders) ops t) a { w with drawn := w.drawn + 1 }) : wpp r P (.region id ops true) Q a w := fun hp b k cs hro _ _ =>
  let ⟨e, a', w', q, s⟩ := wpp_ops _ a _ (h _) hp b k cs hro; ⟨e, a', w', q, .of_steps (.one (fencedR _ _ _) stepR_region_draw) s⟩
theorem wpp_region_any {id : Nat} (hm : P.follows .mixedOrders = true) (h : wpAny P .any ops Q ops.size (Array.replicate ops.size false) a { w with drawn := w.drawn + 1 }) : wpp r P (.region id ops true) Q a w :=
  wpp_region_draw fun t => by
    simp only [Region.schedule, hm, Bool.true_or, if_true]
    exact wpAny_sound ops.size t _ a _ h
theorem wpp_region_lit {id : Nat} {l : List Oper} (h : wpList P l.toArray Q l a w) : wpp r P (.region id l.toArray false) Q a w := by
  refine wpp_region ?_
  have := wpOps_eq_wpList (P := P) (ops := l.toArray) (Q := Q) l 0 (fun j => by simp)
  rw [List.range_eq_range']
  have hs : l.toArray.size = l.length := by simp
  rw [hs, this]
  exact h
theorem wpp_region_quiet {id : Nat} {C : World → Prop} (hm : P.follows .mixedOrders = true) (hB : Region.lexB .any ops = true) (hC : C { w with drawn := w.drawn + 1 })
    (h : wpQuiet P ops C (fun a' => ∀ w', C w' → Q .normal a' w') ops.toList a) : wpp r P (.region id ops true) Q a w := by
  simp only [Region.lexB, Bool.and_eq_true] at hB
  refine wpp_region_any hm (wpAny_of_quiet (Q := fun a' => ∀ w', C w' → Q .normal a' w') (fun _ w' hw' h => h w' hw') _ _ _ _ hC ?_)
  have := wpAnyQ_lex (C := C) (md := .any) hB.1 ops.toList 0 (Array.replicate ops.size false) a (by simp) (by simpa using hB.2) h
  simpa using this
theorem calls_of_wpp {f : FuncId} {fn : Func} {args : Array Value} {R : Ending → World → Prop} (hf : P.funcs[f]? = some fn) (hb : fn.body = some c)
    (h : wpp none P c (bodyPost P fn R) { tmps := args ++ Array.replicate (fn.ntmps - args.size) undef, defers := [] } w) : Calls P f args w R :=
  calls_of_wp hf hb (wpIn_wide.1 (h fun h => by cases h))
end
end Go.Eng

/- The rules of the calculus: control flow, pure operations, loads, calls, new blocks, stores. General: any program P. No condition. -/
namespace Go.Eng
open Go.RowKit
/-! ### Judgements -/
/-- where the operation is wanted it yields v and leaves the world in its class -/
structure Pev (P : Program) (n : Nm) (l : Env) (C : World → Prop) (o : Oper) (c : Bool) (v : Value) : Prop where
  run : c = true → ∀ a w, Sees n l a → C w → Oper.quietUpon P C w v ((execOp a.eval o).run P w)
structure QL (P : Program) (n : Nm) (ops : Array Oper) (C : World → Prop) (K : Act → Prop) (rest : List Oper) (l : Env) : Prop where
  run : ∀ a, Sees n l a → wpQuiet P ops C K rest a
structure OL (P : Program) (n : Nm) (ops : Array Oper) (Q : Exit → Act → World → Prop) (rest : List Oper) (l : Env) (C : World → Prop) : Prop where
  run : ∀ a w, Sees n l a → C w → wpList P ops Q rest a w
structure W (P : Program) (n : Nm) (c : Code) (Q : Exit → Act → World → Prop) (l : Env) (C : World → Prop) : Prop where
  run : ∀ a w, Sees n l a → C w → wpp n.r P c Q a w
structure At (n : Nm) (Q : Exit → Act → World → Prop) (e : Exit) (l : Env) (C : World → Prop) : Prop where
  run : ∀ a w, Sees n l a → C w → Q e a w
section
variable {P : Program} {n : Nm} {l l' : Env} {C : World → Prop} {ops : Array Oper} {Q : Exit → Act → World → Prop} {rest : List Oper} {o : Oper} {K : Act → Prop}
/-! ### Control flow -/
theorem W.seq {x y : Code} (h : W P n x (Exit.then (wpp n.r P y Q) Q) l C) : W P n (.seq x y) Q l C := ⟨fun a w hs hc => wpp_seq (h.run a w hs hc)⟩
theorem W.reg {id : Nat} {l0 : List Oper} (h : OL P n l0.toArray Q l0 l C) : W P n (.region id l0.toArray false) Q l C := ⟨fun a w hs hc => wpp_region_lit (h.run a w hs hc)⟩
theorem W.regd {id : Nat} {l0 : List Oper} (hm : P.follows .mixedOrders = true) (hB : Region.lexB .any l0.toArray = true) (hC : ∀ w, C w → C { w with drawn := w.drawn + 1 })
    (h : QL P n l0.toArray C (fun a' => ∀ w', C w' → Q .normal a' w') l0 l) : W P n (.region id l0.toArray true) Q l C :=
  ⟨fun a w hs hc => wpp_region_quiet (C := C) hm hB (hC w hc) (by simpa using h.run a hs)⟩
theorem W.cond {x : Operand} {y z : Code} {b : Bool} (hx : evl l x = some (true, .bool b)) (ht : b = true → W P n y Q l C) (hf : b = false → W P n z Q l C) : W P n (.cond x y z) Q l C :=
  ⟨fun a w hs hc => wpp_cond_split (hs.eval hx rfl) (fun h => (ht h).run a w hs hc) (fun h => (hf h).run a w hs hc)⟩
theorem W.block {id : Nat} {c : Code} (h : W P n c (Exit.inBlock id Q) l C) : W P n (.block id c) Q l C := ⟨fun a w hs hc => wpp_block (h.run a w hs hc)⟩
theorem W.skip (h : At n Q .normal l C) : W P n .skip Q l C := ⟨fun a w hs hc => wpp_skip (h.run a w hs hc)⟩
theorem W.exit {id : Nat} (h : At n Q (.exit id) l C) : W P n (.exit id) Q l C := ⟨fun a w hs hc => wpp_exit (h.run a w hs hc)⟩
theorem W.ret (h : At n Q .ret l C) : W P n .ret Q l C := ⟨fun a w hs hc => wpp_ret (h.run a w hs hc)⟩
theorem W.label {i : Nat} (h : At n Q .normal l C) : W P n (.label i) Q l C := ⟨fun a w hs hc => wpp_label (h.run a w hs hc)⟩
theorem W.sub {c : Code} {C' : World → Prop} (hs : Sub l l') (hc : ∀ w, C w → C' w) (h : W P n c Q l' C') : W P n c Q l C := ⟨fun a w s c => h.run a w (s.sub hs) (hc w c)⟩
theorem At.sub {e : Exit} {C' : World → Prop} (hs : Sub l l') (hc : ∀ w, C w → C' w) (h : At n Q e l' C') : At n Q e l C := ⟨fun a w s c => h.run a w (s.sub hs) (hc w c)⟩
theorem At.next {y : Code} (h : W P n y Q l C) : At n (Exit.then (wpp n.r P y Q) Q) .normal l C := ⟨h.run⟩
theorem At.then_ret {k : Act → World → Prop} (h : At n Q .ret l C) : At n (Exit.then k Q) .ret l C := ⟨h.run⟩
theorem At.then_exit {k : Act → World → Prop} {id : Nat} (h : At n Q (.exit id) l C) : At n (Exit.then k Q) (.exit id) l C := ⟨h.run⟩
theorem At.in_ret {id : Nat} (h : At n Q .ret l C) : At n (Exit.inBlock id Q) .ret l C := ⟨h.run⟩
theorem At.in_normal {id : Nat} (h : At n Q .normal l C) : At n (Exit.inBlock id Q) .normal l C := ⟨h.run⟩
theorem At.in_exit {id : Nat} (h : At n Q .normal l C) : At n (Exit.inBlock id Q) (.exit id) l C := ⟨fun a w hs hc => by
  show if id = id then Q .normal a w else Q (.exit id) a w
  rw [if_pos rfl]; exact h.run a w hs hc⟩
theorem At.in_other {id id' : Nat} (hne : Nat.beq id' id = false) (h : At n Q (.exit id') l C) : At n (Exit.inBlock id Q) (.exit id') l C := ⟨fun a w hs hc => by
  show if id' = id then Q .normal a w else Q (.exit id') a w
  rw [if_neg (fun e => by rw [e, Nat.beq_refl] at hne; cases hne)]; exact h.run a w hs hc⟩
/-- a loop: 'g' is what the round's head is told by; each round lowers the measure -/
def Again (n : Nm) {G : Type} (Φ : G → Prop) (μ : G → Nat) (lg : G → Env) (Cg : G → World → Prop) (g : G) (a : Act) (w : World) : Prop :=
  ∃ g', Φ g' ∧ μ g' < μ g ∧ Sees n (lg g') a ∧ Cg g' w
theorem W.loop {c : Code} {G : Type} (Φ : G → Prop) (μ : G → Nat) (lg : G → Env) (Cg : G → World → Prop) (g0 : G) (h0 : Φ g0) (hs0 : Sub l (lg g0)) (hc0 : ∀ w, C w → Cg g0 w)
    (body : ∀ g, Φ g → W P n c (Exit.then (Again n Φ μ lg Cg g) Q) (lg g) (Cg g)) : W P n (.loop c) Q l C := by
  have key : ∀ m g, μ g < m → Φ g → ∀ a w, Sees n (lg g) a → Cg g w → roundsP n.r P c Q m a w := by
    intro m
    induction m with
    | zero => intro g h; omega
    | succ m ih =>
      intro g hm hg a w hs hc
      show wpp n.r P c (Exit.then (roundsP n.r P c Q m) Q) a w
      refine wpp_mono ((body g hg).run a w hs hc) fun e a' w' hq => ?_
      cases e with
      | normal =>
        obtain ⟨g', hg', hlt, hs', hc'⟩ := hq
        exact ih g' (by omega) hg' a' w' hs' hc'
      | _ => exact hq
  exact ⟨fun a w hs hc => wpp_loop _ (key (μ g0 + 1) g0 (by omega) h0 a w (hs.sub hs0) (hc0 w hc))⟩
theorem At.again {G : Type} {Φ : G → Prop} {μ : G → Nat} {lg : G → Env} {Cg : G → World → Prop} {g : G} (g' : G) (hg : Φ g') (hm : μ g' < μ g) (hs : Sub l (lg g')) (hc : ∀ w, C w → Cg g' w) :
    At n (Exit.then (Again n Φ μ lg Cg g) Q) .normal l C := ⟨fun a w s c => ⟨g', hg, hm, s.sub hs, hc w c⟩⟩
/-! ### Entering and leaving a function -/
def argEnv : Nat → List Value → Env
  | _, [] => []
  | i, v :: r => (i, true, v) :: argEnv (i + 1) r
theorem look_argEnv : ∀ (vs : List Value) (i t : Nat) (c : Bool) (v : Value), look (argEnv i vs) t = some (c, v) → c = true ∧ i ≤ t ∧ vs[t - i]? = some v := by
  intro vs
  induction vs with
  | nil => intro i t c v h; cases h
  | cons u r ih =>
    intro i t c v h
    simp only [argEnv, look] at h
    by_cases e : i = t
    · subst e
      rw [Nat.beq_refl, cond_true] at h
      simp only [Option.some.injEq, Prod.mk.injEq] at h
      exact ⟨h.1.symm, Nat.le_refl _, by simp [h.2]⟩
    · rw [show Nat.beq i t = false from by rw [Bool.eq_false_iff]; intro hb; exact e (Nat.eq_of_beq_eq_true hb), cond_false] at h
      obtain ⟨h1, h2, h3⟩ := ih (i + 1) t c v h
      refine ⟨h1, by omega, ?_⟩
      rw [show t - i = (t - (i + 1)) + 1 from by omega, List.getElem?_cons_succ]; exact h3
theorem sees_args {n : Nat} {args : Array Value} (h : args.size ≤ n) : Sees ⟨n, [], none⟩ (argEnv 0 args.toList) { tmps := args ++ Array.replicate (n - args.size) undef, defers := [] } := by
  refine ⟨rfl, by simp; omega, fun t c v ht => ?_⟩
  obtain ⟨rfl, _, h3⟩ := look_argEnv _ 0 t c v ht
  have h4 : args[t]? = some v := by simpa using h3
  have h5 : t < args.size := by
    rcases Nat.lt_or_ge t args.size with hl | hl
    · exact hl
    · rw [Array.getElem?_eq_none hl] at h4; cases h4
  show (args ++ _)[t]? = some v
  rw [Array.getElem?_append_left h5]; exact h4
theorem enter {f : FuncId} {fn : Func} {c : Code} {args : List Value} {R : Ending → World → Prop} {w : World} {m : Nat} (hf : P.funcs[f]? = some fn) (hb : fn.body = some c) (hn : fn.ntmps = m) (ha : Nat.ble args.length m = true)
    (hC : C w) (h : W P ⟨m, [], none⟩ c (bodyPost P fn R) (argEnv 0 args) C) : Calls P f args.toArray w R := by
  subst hn
  exact calls_of_wpp hf hb (h.run _ w (by have := sees_args (args := args.toArray) (n := fn.ntmps) (by simpa using Nat.le_of_ble_eq_true ha); simpa using this) hC)
theorem At.fin0 {m : Nat} {r : Option Nat} {fn : Func} {R : Ending → World → Prop} (hr : fn.results = #[]) (h : ∀ w, C w → R (.returned (.tuple #[])) w) : At ⟨m, [], r⟩ (bodyPost P fn R) .ret l C :=
  ⟨fun a w hs hc => ⟨hs.df, .tuple #[], by simp [results, hr], h w hc⟩⟩
theorem At.fin1 {m : Nat} {r : Option Nat} {fn : Func} {R : Ending → World → Prop} {t : Nat} {v : Value} (hr : fn.results = #[.tmp t]) (ht : look l t = some (true, v)) (h : ∀ w, C w → R (.returned v) w) : At ⟨m, [], r⟩ (bodyPost P fn R) .ret l C :=
  ⟨fun a w hs hc => ⟨hs.df, v, by have := hs.at_ t true v ht; simp [results, hr, Array.getD_eq_getD_getElem?, this], h w hc⟩⟩
theorem At.fin2 {m : Nat} {r : Option Nat} {fn : Func} {R : Ending → World → Prop} {t u : Nat} {v v' : Value} (hr : fn.results = #[.tmp t, .tmp u]) (ht : look l t = some (true, v)) (hu : look l u = some (true, v'))
    (h : ∀ w, C w → R (.returned (.tuple #[v, v'])) w) : At ⟨m, [], r⟩ (bodyPost P fn R) .ret l C :=
  ⟨fun a w hs hc => ⟨hs.df, .tuple #[v, v'], by have h1 := hs.at_ t true v ht; have h2 := hs.at_ u true v' hu; simp [results, hr, Array.getD_eq_getD_getElem?, h1, h2], h w hc⟩⟩
theorem At.fin3 {m : Nat} {r : Option Nat} {fn : Func} {R : Ending → World → Prop} {t u x : Nat} {v v' v'' : Value} (hr : fn.results = #[.tmp t, .tmp u, .tmp x]) (ht : look l t = some (true, v)) (hu : look l u = some (true, v'))
    (hx : look l x = some (true, v'')) (h : ∀ w, C w → R (.returned (.tuple #[v, v', v''])) w) : At ⟨m, [], r⟩ (bodyPost P fn R) .ret l C :=
  ⟨fun a w hs hc => ⟨hs.df, .tuple #[v, v', v''], by have h1 := hs.at_ t true v ht; have h2 := hs.at_ u true v' hu; have h3 := hs.at_ x true v'' hx; simp [results, hr, Array.getD_eq_getD_getElem?, h1, h2, h3], h w hc⟩⟩
theorem At.end_ {fn : Func} {R : Ending → World → Prop} (h : At n (bodyPost P fn R) .ret l C) : At n (bodyPost P fn R) .normal l C := ⟨h.run⟩
/-! ### Lists of operations -/
theorem QL.nil (h : At n Q .normal l C) : QL P n ops C (fun a' => ∀ w', C w' → Q .normal a' w') [] l := ⟨fun a hs w hc => h.run a w hs hc⟩
theorem OL.nil (h : At n Q .normal l C) : OL P n ops Q [] l C := ⟨fun a w hs hc => h.run a w hs hc⟩
theorem QL.op {d : Nat} {c : Bool} {v : Value} (hg : Guard l ops o.guard c) (hd : o.dst = some d) (hn : Nat.ble (d + 1) n.n = true) (hv : Pev P n l C o c v)
    (k : QL P n ops C K rest ((d, c, v) :: l)) : QL P n ops C K (o :: rest) l := by
  have hn' := Nat.le_of_ble_eq_true hn
  refine ⟨fun a hs => ?_⟩
  unfold wpQuiet
  rw [hg.wanted hs]
  cases c with
  | true => exact ⟨v, fun w hw => hv.run rfl a w hs hw, by rw [hd]; exact k.run _ (hs.put hn' true v)⟩
  | false => rw [hd]; exact k.run _ (hs.put hn' false v)
theorem OL.op {d : Nat} {c : Bool} {v : Value} (hg : Guard l ops o.guard c) (hd : o.dst = some d) (hn : Nat.ble (d + 1) n.n = true) (hv : Pev P n l C o c v)
    (k : OL P n ops Q rest ((d, c, v) :: l) C) : OL P n ops Q (o :: rest) l C := by
  have hn' := Nat.le_of_ble_eq_true hn
  refine ⟨fun a w hs hc => ?_⟩
  unfold wpList
  rw [hg.wanted hs]
  cases c with
  | true =>
    refine .inl (Oper.wp_of_quiet (C := C) (K := fun a' => ∀ w', C w' → wpList P ops Q rest a' w') hc (fun a' w' hw' h => h w' hw') ⟨v, fun w hw => hv.run rfl a w hs hw, fun w' hw' => ?_⟩)
    rw [hd]; exact k.run _ w' (hs.put hn' true v) hw'
  | false => rw [hd]; exact k.run _ w (hs.put hn' false v) hc
/-- a store: no value -/
theorem OL.store_ {C' : World → Prop} (hg : o.guard = none) (hd : o.dst = none) (hv : ∀ a w, Sees n l a → C w → ∃ w', (execOp a.eval o).run P w = .ok .skip w' ∧ C' w')
    (k : OL P n ops Q rest l C') : OL P n ops Q (o :: rest) l C := by
  refine ⟨fun a w hs hc => ?_⟩
  refine wpList_plain hg fun K hK => ?_
  obtain ⟨w', hr, hc'⟩ := hv a w hs hc
  show Oper.upon P o a K Q ((execOp a.eval o).run P w)
  rw [hr]
  show K (a.put o.dst undef) w'
  rw [hd]
  exact hK _ _ (k.run a w' hs hc')
/-! ### Several steps at once -/
theorem OL.nx {y : Code} (h : W P n y Q l C) : OL P n ops (Exit.then (wpp n.r P y Q) Q) [] l C := OL.nil (At.next h)
theorem W.sr {id : Nat} {l0 : List Oper} {y : Code} (h : OL P n l0.toArray (Exit.then (wpp n.r P y Q) Q) l0 l C) : W P n (.seq (.region id l0.toArray false) y) Q l C := W.seq (W.reg h)
theorem OL.nsr {id : Nat} {l0 : List Oper} {y : Code} (h : OL P n l0.toArray (Exit.then (wpp n.r P y Q) Q) l0 l C) : OL P n ops (Exit.then (wpp n.r P (Code.seq (.region id l0.toArray false) y) Q) Q) [] l C := OL.nx (W.sr h)
theorem W.sk {y : Code} (h : W P n y Q l C) : W P n .skip (Exit.then (wpp n.r P y Q) Q) l C := W.skip (At.next h)
theorem W.sb {id : Nat} {c y : Code} (h : W P n c (Exit.inBlock id (Exit.then (wpp n.r P y Q) Q)) l C) : W P n (.seq (.block id c) y) Q l C := W.seq (W.block h)
inductive Rch : (Exit → Act → World → Prop) → (Exit → Act → World → Prop) → Prop where
  | nil {Q : Exit → Act → World → Prop} : Rch Q Q
  | th {k : Act → World → Prop} {Q Q' : Exit → Act → World → Prop} (h : Rch Q Q') : Rch (Exit.then k Q) Q'
  | bl {id : Nat} {Q Q' : Exit → Act → World → Prop} (h : Rch Q Q') : Rch (Exit.inBlock id Q) Q'
theorem Rch.ret {Q' : Exit → Act → World → Prop} (h : Rch Q Q') (k : At n Q' .ret l C) : At n Q .ret l C := by
  induction h with
  | nil => exact k
  | th _ ih => exact At.then_ret (ih k)
  | bl _ ih => exact At.in_ret (ih k)
theorem W.rt {Q' : Exit → Act → World → Prop} (h : At n Q' .ret l C) (hr : Rch Q Q' := by (repeat (first | with_reducible apply Rch.th | with_reducible apply Rch.bl | exact Rch.nil)); first | done | fail) : W P n .ret Q l C := W.ret (hr.ret h)
inductive Ech (id : Nat) : (Exit → Act → World → Prop) → (Exit → Act → World → Prop) → Prop where
  | hit {Q : Exit → Act → World → Prop} : Ech id (Exit.inBlock id Q) Q
  | th {k : Act → World → Prop} {Q Q' : Exit → Act → World → Prop} (h : Ech id Q Q') : Ech id (Exit.then k Q) Q'
  | bl {id' : Nat} {Q Q' : Exit → Act → World → Prop} (hne : Nat.beq id id' = false) (h : Ech id Q Q') : Ech id (Exit.inBlock id' Q) Q'
theorem Ech.exit {id : Nat} {Q' : Exit → Act → World → Prop} (h : Ech id Q Q') (k : At n Q' .normal l C) : At n Q (.exit id) l C := by
  induction h with
  | hit => exact At.in_exit k
  | th _ ih => exact At.then_exit (ih k)
  | bl hne _ ih => exact At.in_other hne (ih k)
theorem W.xt {id : Nat} {Q' : Exit → Act → World → Prop} (h : At n Q' .normal l C) (he : Ech id Q Q' := by (repeat (first | with_reducible exact Ech.hit | with_reducible apply Ech.th | (with_reducible apply Ech.bl; rfl))); first | done | fail) : W P n (.exit id) Q l C := W.exit (he.exit h)
/-- a condition, told as a proposition -/
theorem W.cnd {x : Operand} {y z : Code} {b : Bool} {p q : Prop} (ht : p → W P n y Q l C) (hf : q → W P n z Q l C) (hx : evl l x = some (true, .bool b) := by rfl)
    (hp : (b = true) = p := by ((try simp only [Bool.and_eq_true, Bool.or_eq_true, Bool.not_eq_true', Bool.and_eq_false_iff, Bool.or_eq_false_iff, Bool.not_eq_false', decide_eq_true_eq, decide_eq_false_iff_not, Int.not_lt, Int.not_le]); rfl))
    (hq : (b = false) = q := by ((try simp only [Bool.and_eq_true, Bool.or_eq_true, Bool.not_eq_true', Bool.and_eq_false_iff, Bool.or_eq_false_iff, Bool.not_eq_false', decide_eq_true_eq, decide_eq_false_iff_not, Int.not_lt, Int.not_le]); rfl)) : W P n (.cond x y z) Q l C :=
  W.cond hx (fun h => ht (hp ▸ h)) (fun h => hf (hq ▸ h))
section
variable {dd : Nat} {v : Value} {b : Bool} {op : Op} {ty : TypeId} {pos : String} {af : Array Edge} {j d : Nat}
theorem oop (hn : Nat.ble (dd + 1) n.n = true) (hv : Pev P n l C ⟨some dd, op, ty, pos, af, none⟩ true v) (k : OL P n ops Q rest ((dd, true, v) :: l) C) : OL P n ops Q (⟨some dd, op, ty, pos, af, none⟩ :: rest) l C := OL.op Guard.none rfl hn hv k
theorem oy (hd : (ops[j]?).bind (·.dst) = some d) (h : look l d = some (true, .bool b)) (hn : Nat.ble (dd + 1) n.n = true) (hv : Pev P n l C ⟨some dd, op, ty, pos, af, some (j, true)⟩ b v) (k : OL P n ops Q rest ((dd, b, v) :: l) C) : OL P n ops Q (⟨some dd, op, ty, pos, af, some (j, true)⟩ :: rest) l C := OL.op (Guard.yes hd h) rfl hn hv k
theorem ono (hd : (ops[j]?).bind (·.dst) = some d) (h : look l d = some (true, .bool b)) (hn : Nat.ble (dd + 1) n.n = true) (hv : Pev P n l C ⟨some dd, op, ty, pos, af, some (j, false)⟩ (!b) v) (k : OL P n ops Q rest ((dd, !b, v) :: l) C) : OL P n ops Q (⟨some dd, op, ty, pos, af, some (j, false)⟩ :: rest) l C := OL.op (Guard.no hd h) rfl hn hv k
theorem qop (hn : Nat.ble (dd + 1) n.n = true) (hv : Pev P n l C ⟨some dd, op, ty, pos, af, none⟩ true v) (k : QL P n ops C K rest ((dd, true, v) :: l)) : QL P n ops C K (⟨some dd, op, ty, pos, af, none⟩ :: rest) l := QL.op Guard.none rfl hn hv k
theorem qy (hd : (ops[j]?).bind (·.dst) = some d) (h : look l d = some (true, .bool b)) (hn : Nat.ble (dd + 1) n.n = true) (hv : Pev P n l C ⟨some dd, op, ty, pos, af, some (j, true)⟩ b v) (k : QL P n ops C K rest ((dd, b, v) :: l)) : QL P n ops C K (⟨some dd, op, ty, pos, af, some (j, true)⟩ :: rest) l := QL.op (Guard.yes hd h) rfl hn hv k
theorem qno (hd : (ops[j]?).bind (·.dst) = some d) (h : look l d = some (true, .bool b)) (hn : Nat.ble (dd + 1) n.n = true) (hv : Pev P n l C ⟨some dd, op, ty, pos, af, some (j, false)⟩ (!b) v) (k : QL P n ops C K rest ((dd, !b, v) :: l)) : QL P n ops C K (⟨some dd, op, ty, pos, af, some (j, false)⟩ :: rest) l := QL.op (Guard.no hd h) rfl hn hv k
end
/-- an operation of any guard -/
theorem OL.opA {d : Nat} {c : Bool} {v : Value} (hv : Pev P n l C o c v) (k : OL P n ops Q rest ((d, c, v) :: l) C) (hg : Guard l ops o.guard c := by exact Guard.au) (hd : o.dst = some d := by rfl) (hn : Nat.ble (d + 1) n.n = true := by rfl) : OL P n ops Q (o :: rest) l C := OL.op hg hd hn hv k
theorem QL.opA {d : Nat} {c : Bool} {v : Value} (hv : Pev P n l C o c v) (k : QL P n ops C K rest ((d, c, v) :: l)) (hg : Guard l ops o.guard c := by exact Guard.au) (hd : o.dst = some d := by rfl) (hn : Nat.ble (d + 1) n.n = true := by rfl) : QL P n ops C K (o :: rest) l := QL.op hg hd hn hv k
end
end Go.Eng

/- The rules for operations: moves, arithmetic, comparisons, addresses, loads, calls, new blocks, stores. General: any program P. No condition. -/
namespace Go.Eng
open Go.RowKit
/-! ### What is read off the program's types -/
def lit : Nat → Option Nat
  | 0 => some 0 | 1 => some 1 | 2 => some 2 | 3 => some 3 | 4 => some 4 | 5 => some 5 | 6 => some 6 | 7 => some 7 | 8 => some 8 | 9 => some 9 | 10 => some 10 | 11 => some 11 | 12 => some 12 | 13 => some 13 | 14 => some 14 | 15 => some 15 | 16 => some 16 | 17 => some 17 | 18 => some 18 | 19 => some 19 | 20 => some 20 | 21 => some 21 | 22 => some 22 | 23 => some 23 | 24 => some 24 | 25 => some 25 | 26 => some 26 | 27 => some 27 | 28 => some 28 | 29 => some 29 | 30 => some 30 | 31 => some 31 | 32 => some 32 | 33 => some 33 | 34 => some 34 | 35 => some 35 | 36 => some 36 | 37 => some 37 | 38 => some 38 | 39 => some 39 | 40 => some 40 | 41 => some 41 | 42 => some 42 | 43 => some 43 | 44 => some 44 | 45 => some 45 | 46 => some 46 | 47 => some 47 | 48 => some 48 | 49 => some 49 | 50 => some 50 | 51 => some 51 | 52 => some 52 | 53 => some 53 | 54 => some 54 | 55 => some 55 | 56 => some 56 | 57 => some 57 | 58 => some 58 | 59 => some 59 | 60 => some 60 | 61 => some 61 | 62 => some 62 | 63 => some 63 | 64 => some 64 | 65 => some 65 | 66 => some 66 | 67 => some 67 | 68 => some 68 | 69 => some 69 | 70 => some 70 | 71 => some 71 | 72 => some 72 | 73 => some 73 | 74 => some 74 | 75 => some 75 | 76 => some 76 | 77 => some 77 | 78 => some 78 | 79 => some 79 | 80 => some 80 | 81 => some 81 | 82 => some 82 | 83 => some 83 | 84 => some 84 | 85 => some 85 | 86 => some 86 | 87 => some 87 | 88 => some 88 | 89 => some 89 | 90 => some 90 | 91 => some 91 | 92 => some 92 | 93 => some 93 | 94 => some 94 | 95 => some 95 | 96 => some 96 | 97 => some 97 | 98 => some 98 | 99 => some 99 | 100 => some 100 | 101 => some 101 | 102 => some 102 | 103 => some 103 | 104 => some 104 | 105 => some 105 | 106 => some 106 | 107 => some 107 | 108 => some 108 | 109 => some 109 | 110 => some 110 | 111 => some 111 | 112 => some 112 | 113 => some 113 | 114 => some 114 | 115 => some 115 | 116 => some 116 | 117 => some 117 | 118 => some 118 | 119 => some 119 | 120 => some 120 | 121 => some 121 | 122 => some 122 | 123 => some 123 | 124 => some 124 | 125 => some 125 | 126 => some 126 | 127 => some 127 | 128 => some 128
  | _ => none
theorem lit_eq {a b : Nat} (h : lit a = some b) : a = b := by
  unfold lit at h
  split at h <;> simp_all
def scalB (P : Program) (t : TypeId) : Bool := match P.underlying t with | some (.struct _) => false | some (.array ..) => false | some _ => true | none => false
def sizeN (P : Program) (t : TypeId) : Option Nat := match P.info? t with | some i => lit i.size | none => none
def aggN (P : Program) (t : TypeId) : Option Nat := match P.underlying t with
  | some (.struct _) => sizeN P t
  | some (.array ..) => sizeN P t
  | _ => none
def fldAt (P : Program) (t : TypeId) (i : Nat) : Option Nat := match P.underlying t with
  | some (.struct fs) => match fs[i]? with
    | some f => match sizeN P f.type with
      | some 0 => none
      | some (_ + 1) => lit f.offset
      | none => none
    | none => none
  | _ => none
def slElem (P : Program) (t : TypeId) : Option (TypeId × Nat) := match P.underlying t with
  | some (.slice e) => match sizeN P e with
    | some k => some (e, k)
    | none => none
  | _ => none
def arrElem (P : Program) (t : TypeId) : Option (Nat × Nat) := match P.underlying t with
  | some (.array n e) => match sizeN P e with
    | some k => some (n, k)
    | none => none
  | _ => none
def intK (P : Program) (t : TypeId) : Option IntKind := match P.underlying t with | some (.int k) => some k | _ => none
def boolB (P : Program) (t : TypeId) : Bool := match P.underlying t with | some .bool => true | _ => false
def strB (P : Program) (t : TypeId) : Bool := match P.underlying t with | some .string => true | _ => false
def callable (P : Program) (f : FuncId) : Bool := match P.funcs[f]? with | some fn => !(fn.name == "runtime.NumGoroutine") && fn.body.isSome | none => false
section types
variable {P : Program} {t : TypeId}
theorem run_isAgg_scal (h : scalB P t = true) (w : World) : (isAgg t).run P w = .ok false w := by
  unfold scalB at h
  cases hu : P.underlying t with
  | none => simp [hu] at h
  | some d =>
    unfold isAgg
    rw [Sem.run_bind, run_underlying hu w]
    rw [hu] at h
    cases d <;> simp_all
theorem sizeN_info {k : Nat} (h : sizeN P t = some k) : ∃ i, P.info? t = some i ∧ i.size = k := by
  unfold sizeN at h
  cases hq : P.info? t with
  | none => simp [hq] at h
  | some i => rw [hq] at h; exact ⟨i, rfl, lit_eq h⟩
theorem aggN_info {k : Nat} (h : aggN P t = some k) : ∃ d, P.underlying t = some d ∧ (match d with | .struct _ | .array _ _ => true | _ => false) = true ∧ sizeN P t = some k := by
  unfold aggN at h
  cases hu : P.underlying t with
  | none => simp [hu] at h
  | some d =>
    refine ⟨d, rfl, ?_⟩
    rw [hu] at h
    cases d <;> simp_all
theorem run_isAgg_agg {k : Nat} (h : aggN P t = some k) (w : World) : (isAgg t).run P w = .ok true w := by
  obtain ⟨d, hu, hd, _⟩ := aggN_info h
  unfold isAgg
  rw [Sem.run_bind, run_underlying hu w]
  cases d <;> simp_all
theorem run_sizeN {k : Nat} (h : sizeN P t = some k) (w : World) : (sizeOf t).run P w = .ok k w := by
  obtain ⟨i, hq, hs⟩ := sizeN_info h
  simp [sizeOf, typeInfo, hq, hs]
theorem aggN_size {k : Nat} (h : aggN P t = some k) : sizeN P t = some k := (aggN_info h).choose_spec.2.2
theorem run_loadVar_scal (h : scalB P t = true) {w : World} {a : Addr} {v : Value} (hc : w.cell? a = some v) : (loadVar t a).run P w = .ok v w := by
  simp [loadVar, Sem.run_bind, run_isAgg_scal h, hc]
/-- the cells from an address on -/
def CellsAt (w : World) (a : Addr) (vs : List Value) : Prop := ∀ j v, vs[j]? = some v → w.cell? (a.add j) = some v
theorem run_loadVar_agg {vs : List Value} (h : aggN P t = some vs.length) {w : World} {a : Addr} (hc : CellsAt w a vs) : (loadVar t a).run P w = .ok (.agg vs.toArray) w := by
  have hl := run_loadCells_list (P := P) w a vs hc
  simp [loadVar, Sem.run_bind, run_isAgg_agg h, run_sizeN (aggN_size h), hl]
end types
theorem add_zero_ (a : Addr) : a.add 0 = a := rfl
theorem add_mid {b o : Nat} (n : Nat) : (⟨b, o, none⟩ : Addr).add n = ⟨b, o + n, none⟩ := by
  unfold Addr.add; split
  · subst_vars; rfl
  · rfl
theorem add_block (a : Addr) (n : Nat) : (a.add n).block = a.block := by unfold Addr.add; split <;> rfl
theorem add_add (a : Addr) (i j : Nat) : (a.add i).add j = a.add (i + j) := by
  unfold Addr.add
  by_cases hi : i = 0 <;> by_cases hj : j = 0 <;> simp [hi, hj, Nat.add_assoc]
/-! ### Values without a look at memory -/
section
variable {P : Program} {n : Nm} {l : Env} {C : World → Prop} {c : Bool} {d : Option Nat} {ty : TypeId} {pos : String} {af : Array Edge} {g : Option (Nat × Bool)}
theorem Pev.of_run {o : Oper} {v : Value} (h : c = true → ∀ a w, Sees n l a → C w → (execOp a.eval o).run P w = .ok (.value v) w) : Pev P n l C o c v :=
  ⟨fun hc a w hs hw => by rw [h hc a w hs hw]; exact ⟨rfl, rfl⟩⟩
theorem Pev.no {o : Oper} : Pev P n l C o false (.bool false) := ⟨fun h => by cases h⟩
theorem Pev.move {x : Operand} {cx : Bool} {v : Value} (hx : evl l x = some (cx, v)) (hc : c = true → cx = true) : Pev P n l C ⟨d, .move x, ty, pos, af, g⟩ c v :=
  .of_run fun h a w hs hw => by show Result.ok (Next.value (a.eval x)) w = _; rw [hs.eval hx (hc h)]
theorem Pev.assign {x : Operand} {cx : Bool} {v : Value} (hx : evl l x = some (cx, v)) (hc : c = true → cx = true) : Pev P n l C ⟨d, .assign x, ty, pos, af, g⟩ c v :=
  .of_run fun h a w hs hw => by show Result.ok (Next.value (a.eval x)) w = _; rw [hs.eval hx (hc h)]
theorem run_pick {a : Act} {w : World} {x y z : Operand} {b : Bool} (hx : a.eval x = .bool b) : (execOp a.eval ⟨d, .pick x y z, ty, pos, af, g⟩).run P w = .ok (.value (bif b then a.eval y else a.eval z)) w := by
  simp only [execOp, hx, asBool]
  cases b <;> rfl
theorem Pev.pick_and {x y : Operand} {cx cy b p : Bool} (hx : evl l x = some (cx, .bool b)) (hc : c = true → cx = true) (hy : evl l y = some (cy, .bool p)) (hcy : (c && b) = true → cy = true) :
    Pev P n l C ⟨d, .pick x y (.const (.bool false)), ty, pos, af, g⟩ c (.bool (b && p)) :=
  .of_run fun h a w hs hw => by
    rw [run_pick (hs.eval hx (hc h))]
    cases b with
    | false => rfl
    | true => rw [cond_true, hs.eval hy (hcy (by simp [h]))]; rfl
theorem Pev.pick_or {x y : Operand} {cx cy b p : Bool} (hx : evl l x = some (cx, .bool b)) (hc : c = true → cx = true) (hy : evl l y = some (cy, .bool p)) (hcy : (c && !b) = true → cy = true) :
    Pev P n l C ⟨d, .pick x (.const (.bool true)) y, ty, pos, af, g⟩ c (.bool (b || p)) :=
  .of_run fun h a w hs hw => by
    rw [run_pick (hs.eval hx (hc h))]
    cases b with
    | true => rfl
    | false => rw [cond_false, hs.eval hy (hcy (by simp [h]))]; rfl
theorem Pev.nil_ptr {x : Operand} {cx : Bool} {q : Addr} (hx : evl l x = some (cx, .pointer (some q))) (hc : c = true → cx = true) : Pev P n l C ⟨d, .nilCheck x, ty, pos, af, g⟩ c (.pointer (some q)) :=
  .of_run fun h a w hs hw => by simp only [execOp, hs.eval hx (hc h)]; rfl
/-! binary operations -/
structure Bin (P : Program) (op : BinOp) (t : TypeId) (u v r : Value) : Prop where
  run : ∀ (x y : Operand) (w : World), (do eqGuard op t x y u v; binOp op t u v : Sem Value).run P w = .ok r w
theorem Pev.bin {op : BinOp} {t yt : TypeId} {x y : Operand} {cx cy : Bool} {u v r : Value} (hx : evl l x = some (cx, u)) (hcx : c = true → cx = true) (hy : evl l y = some (cy, v)) (hcy : c = true → cy = true)
    (hb : c = true → Bin P op t u v r) : Pev P n l C ⟨d, .binOp op t x y yt, ty, pos, af, g⟩ c r :=
  .of_run fun h a w hs hw => by
    have := (hb h).run x y w
    simp only [execOp, hs.eval hx (hcx h), hs.eval hy (hcy h), Sem.run_bind, this, Result.andThen_ok]
    rfl
theorem guard_int {op : BinOp} {t : TypeId} {x y : Operand} {k k' : IntKind} {a b : Int} {w : World} : (eqGuard op t x y (.int k a) (.int k' b)).run P w = .ok () w := by cases op <;> rfl
theorem guard_str {op : BinOp} {t : TypeId} {x y : Operand} {a b : ByteArray} {w : World} : (eqGuard op t x y (.string a) (.string b)).run P w = .ok () w := by cases op <;> rfl
theorem guard_bool {op : BinOp} {t : TypeId} {x y : Operand} {a b : Bool} {w : World} : (eqGuard op t x y (.bool a) (.bool b)).run P w = .ok () w := by cases op <;> rfl
variable {t : TypeId} {k : IntKind} {a b : Int}
theorem int_beq (a b : Int) : (a == b) = decide (a = b) := by by_cases h : a = b <;> simp [h]
theorem bin_int {op : BinOp} {r : Value} (h : (binOp op t (.int k a) (.int k b) : Sem Value) = pure r) : Bin P op t (.int k a) (.int k b) r := ⟨fun x y w => by
  rw [Sem.run_bind, guard_int, Result.andThen_ok, h]; rfl⟩
theorem Bin.lss : Bin P .lss t (.int k a) (.int k b) (.bool (decide (a < b))) := bin_int (by simp [binOp, Op.intCmp])
def NotLt (a b : Int) : Prop := ¬ a < b
theorem Bin.lss_nof (h : NotLt a b) : Bin P .lss t (.int k a) (.int k b) (.bool false) := bin_int (by simp only [NotLt] at h; simp [binOp, Op.intCmp, h])
theorem Bin.leq : Bin P .leq t (.int k a) (.int k b) (.bool (decide (a ≤ b))) := bin_int (by simp [binOp, Op.intCmp])
theorem Bin.gtr : Bin P .gtr t (.int k a) (.int k b) (.bool (decide (b < a))) := bin_int (by simp [binOp, Op.intCmp])
theorem Bin.geq : Bin P .geq t (.int k a) (.int k b) (.bool (decide (b ≤ a))) := bin_int (by simp [binOp, Op.intCmp])
theorem Bin.eql : Bin P .eql t (.int k a) (.int k b) (.bool (decide (a = b))) := bin_int (by simp only [binOp, Op.intCmp, ne_eq, not_true, if_false, int_beq])
theorem Bin.neq : Bin P .neq t (.int k a) (.int k b) (.bool (!decide (a = b))) := bin_int (by simp only [binOp, Op.intCmp, ne_eq, not_true, if_false, bne, int_beq])
theorem Bin.add : Bin P .add t (.int k a) (.int k b) (.int k (k.wrap (a + b))) := bin_int (by simp [binOp, Op.intArith])
theorem Bin.sub : Bin P .sub t (.int k a) (.int k b) (.int k (k.wrap (a - b))) := bin_int (by simp [binOp, Op.intArith])
theorem Bin.mul : Bin P .mul t (.int k a) (.int k b) (.int k (k.wrap (a * b))) := bin_int (by simp [binOp, Op.intArith])
theorem Bin.add_in (h : -9223372036854775808 ≤ a + b ∧ a + b ≤ 9223372036854775807) : Bin P .add t (.int .i64 a) (.int .i64 b) (.int .i64 (a + b)) := bin_int (by simp [binOp, Op.intArith, IntWalk.i64_in _ h])
theorem Bin.sub_in (h : -9223372036854775808 ≤ a - b ∧ a - b ≤ 9223372036854775807) : Bin P .sub t (.int .i64 a) (.int .i64 b) (.int .i64 (a - b)) := bin_int (by simp [binOp, Op.intArith, IntWalk.i64_in _ h])
theorem Bin.mul_in (h : -9223372036854775808 ≤ a * b ∧ a * b ≤ 9223372036854775807) : Bin P .mul t (.int .i64 a) (.int .i64 b) (.int .i64 (a * b)) := bin_int (by simp [binOp, Op.intArith, IntWalk.i64_in _ h])
theorem Bin.quo (h : b ≠ 0) : Bin P .quo t (.int k a) (.int k b) (.int k (k.wrap (a.tdiv b))) := bin_int (by simp [binOp, Op.intDiv, h])
theorem Bin.rem (h : b ≠ 0) : Bin P .rem t (.int k a) (.int k b) (.int k (a.tmod b)) := bin_int (by simp [binOp, Op.intDiv, h])
theorem Bin.quo_in (h : 0 ≤ a ∧ a ≤ 9223372036854775807 ∧ 1 ≤ b) : Bin P .quo t (.int .i64 a) (.int .i64 b) (.int .i64 (a / b)) := bin_int (by simp [binOp, Op.intDiv, IntWalk.i64_quo _ _ h]; omega)
theorem Bin.rem_in (h : 0 ≤ a ∧ 1 ≤ b) : Bin P .rem t (.int k a) (.int k b) (.int k (a % b)) := bin_int (by simp [binOp, Op.intDiv, Int.tmod_eq_emod_of_nonneg h.1]; omega)
theorem Bin.and : Bin P .and t (.int k a) (.int k b) (.int k (bits .and k a b)) := bin_int (by simp only [binOp, ne_eq, not_true, if_false]; exact intBits_and k a b)
theorem Bin.or : Bin P .or t (.int k a) (.int k b) (.int k (bits .or k a b)) := bin_int (by simp only [binOp, ne_eq, not_true, if_false]; exact intBits_or k a b)
theorem Bin.xor : Bin P .xor t (.int k a) (.int k b) (.int k (bits .xor k a b)) := bin_int (by simp only [binOp, ne_eq, not_true, if_false]; exact intBits_xor k a b)
theorem Bin.andNot : Bin P .andNot t (.int k a) (.int k b) (.int k (bits .andNot k a b)) := bin_int (by simp only [binOp, ne_eq, not_true, if_false]; exact intBits_andNot k a b)
theorem bin_shift {op : BinOp} {yk : IntKind} {r : Value} (h : (binOp op t (.int k a) (.int yk b) : Sem Value) = pure r) : Bin P op t (.int k a) (.int yk b) r := ⟨fun x y w => by
  rw [Sem.run_bind, guard_int, Result.andThen_ok, h]; rfl⟩
theorem Bin.shl {yk : IntKind} (h : 0 ≤ b ∧ b ≤ k.bits) : Bin P .shl t (.int k a) (.int yk b) (.int k (k.wrap (a * 2 ^ b.toNat))) := bin_shift (by simp only [binOp]; exact shift_shl k yk a b h.1 h.2)
theorem Bin.shr {yk : IntKind} (h : 0 ≤ b ∧ b ≤ k.bits) : Bin P .shr t (.int k a) (.int yk b) (.int k (a / 2 ^ b.toNat)) := bin_shift (by simp only [binOp]; exact shift_shr k yk a b h.1 h.2)
theorem bytes_beq (s u : ByteArray) : (s.toList == u.toList) = decide (s = u) := by
  rw [ByteArray.toList_eq, ByteArray.toList_eq]
  by_cases h : s = u
  · subst h; simp
  · have h2 : ¬ s.data.toList = u.data.toList := fun e => h (by cases s; cases u; simp_all)
    rw [decide_eq_false h]; exact beq_eq_false_iff_ne.2 h2
theorem bin_str {op : BinOp} {s u : ByteArray} {r : Value} (h : (binOp op t (.string s) (.string u) : Sem Value) = pure r) : Bin P op t (.string s) (.string u) r := ⟨fun x y w => by
  rw [Sem.run_bind, guard_str, Result.andThen_ok, h]; rfl⟩
theorem Bin.str_eql {s u : ByteArray} : Bin P .eql t (.string s) (.string u) (.bool (decide (s = u))) := bin_str (by simp only [binOp, Op.stringOp, bytes_beq])
theorem Bin.str_neq {s u : ByteArray} : Bin P .neq t (.string s) (.string u) (.bool (!decide (s = u))) := bin_str (by simp only [binOp, Op.stringOp, bytes_beq])
theorem Bin.str_add {s u : ByteArray} (h : s.size + u.size ≤ 9223372036854775807) : Bin P .add t (.string s) (.string u) (.string (s ++ u)) := bin_str (by
  simp only [binOp, Op.stringOp]
  rw [if_neg (by simp [IntKind.max, IntKind.signed, IntKind.bits]; omega)])
theorem Bin.str_lss {s u : ByteArray} : Bin P .lss t (.string s) (.string u) (.bool (Op.bytesLess s.toList u.toList)) := bin_str (by simp only [binOp, Op.stringOp])
theorem run_equalIn_bool {w : World} {p q : Bool} (dd : Nat) (hu : boolB P t = true) : (Op.equalIn (dd + 1) t (.bool p) (.bool q)).run P w = .ok (p == q) w := by
  unfold boolB at hu
  cases h : P.underlying t with
  | none => simp [h] at hu
  | some dd =>
    rw [h] at hu
    cases dd <;> simp at hu
    simp only [Op.equalIn, Sem.run_bind, run_underlying h, Result.andThen_ok]; rfl
theorem run_equal_bool {w : World} {p q : Bool} (hu : boolB P t = true) : (Op.equal t (.bool p) (.bool q)).run P w = .ok (p == q) w := run_equalIn_bool 9999 hu
theorem Bin.bool_eql {p q : Bool} (hu : boolB P t = true) : Bin P .eql t (.bool p) (.bool q) (.bool (p == q)) := ⟨fun x y w => by
  rw [Sem.run_bind, guard_bool, Result.andThen_ok]
  simp only [binOp, Sem.run_bind, run_equal_bool hu, Result.andThen_ok]; rfl⟩
theorem Bin.bool_neq {p q : Bool} (hu : boolB P t = true) : Bin P .neq t (.bool p) (.bool q) (.bool (p != q)) := ⟨fun x y w => by
  rw [Sem.run_bind, guard_bool, Result.andThen_ok]
  simp only [binOp, Sem.run_bind, run_equal_bool hu, Result.andThen_ok]; rfl⟩
theorem Pev.not {t : TypeId} {x : Operand} {cx p : Bool} (hx : evl l x = some (cx, .bool p)) (hc : c = true → cx = true) : Pev P n l C ⟨d, .unOp .not t x, ty, pos, af, g⟩ c (.bool (!p)) :=
  .of_run fun h a w hs hw => by simp only [execOp, hs.eval hx (hc h), Op.unary, Sem.run_bind]; rfl
theorem Pev.neg {t : TypeId} {x : Operand} {cx : Bool} {m : Int} (hx : evl l x = some (cx, .int k m)) (hc : c = true → cx = true) : Pev P n l C ⟨d, .unOp .neg t x, ty, pos, af, g⟩ c (.int k (k.wrap (0 - m))) :=
  .of_run fun h a w hs hw => by simp only [execOp, hs.eval hx (hc h), Op.unary, Op.intArith, Sem.run_bind]; rfl
theorem Pev.neg_in {t : TypeId} {x : Operand} {cx : Bool} {m : Int} (hx : evl l x = some (cx, .int .i64 m)) (hc : c = true → cx = true) (hm : -9223372036854775807 ≤ m ∧ m ≤ 9223372036854775807) :
    Pev P n l C ⟨d, .unOp .neg t x, ty, pos, af, g⟩ c (.int .i64 (-m)) := by
  have := Pev.neg (P := P) (n := n) (C := C) (d := d) (ty := ty) (pos := pos) (af := af) (g := g) (t := t) hx hc
  rwa [IntWalk.i64_in _ (by omega), Int.zero_sub] at this
theorem Pev.extract {x : Operand} {cx : Bool} {vs : List Value} {i : Nat} {v : Value} (hx : evl l x = some (cx, .tuple vs.toArray)) (hc : c = true → cx = true) (hv : vs[i]? = some v) : Pev P n l C ⟨d, .extract x i, ty, pos, af, g⟩ c v :=
  .of_run fun h a w hs hw => by
    have hv' : vs.toArray[i]? = some v := by simpa using hv
    simp only [execOp, hs.eval hx (hc h), Instr.extract, hv', Sem.run_bind]; rfl
theorem run_conv_int {src dst : TypeId} {kd : IntKind} {m : Int} {w : World} (hs : (P.underlying src).isSome = true) (hk : intK P dst = some kd) : (convert src dst (.int k m)).run P w = .ok (.int kd (kd.wrap m)) w := by
  cases h1 : P.underlying src with
  | none => simp [h1] at hs
  | some ds =>
    unfold intK at hk
    cases h2 : P.underlying dst with
    | none => simp [h2] at hk
    | some dd =>
      rw [h2] at hk
      cases dd <;> simp at hk
      subst hk
      simp only [convert, Sem.run_bind, run_underlying h1, run_underlying h2, Result.andThen_ok]
      cases ds <;> rfl
theorem Pev.conv_int {src dst : TypeId} {x : Operand} {cx : Bool} {kd : IntKind} {m : Int} (hx : evl l x = some (cx, .int k m)) (hc : c = true → cx = true) (hs : (P.underlying src).isSome = true) (hk : intK P dst = some kd) :
    Pev P n l C ⟨d, .convert src dst x, ty, pos, af, g⟩ c (.int kd (kd.wrap m)) :=
  .of_run fun h a w hs' hw => by
    simp only [execOp, hs'.eval hx (hc h), Sem.run_bind, run_conv_int hs hk, Result.andThen_ok]; rfl
theorem run_len_str {w : World} {t ty : TypeId} {s : ByteArray} (hu : strB P t = true) : (Builtin.len_ #[t] ty #[.string s]).run P w = .ok (.int .i64 s.size) w := by
  unfold strB at hu
  cases h : P.underlying t with
  | none => simp [h] at hu
  | some dd =>
    rw [h] at hu
    cases dd <;> simp at hu
    simp [Builtin.len_, run_underlying h, goInt]
theorem run_len_slice {w : World} {t ty : TypeId} {q : Option Addr} {m cp : Nat} {e : TypeId × Nat} (hu : slElem P t = some e) : (Builtin.len_ #[t] ty #[.slice q m cp]).run P w = .ok (.int .i64 m) w := by
  unfold slElem at hu
  cases h : P.underlying t with
  | none => simp [h] at hu
  | some dd =>
    rw [h] at hu
    cases dd <;> simp at hu
    simp [Builtin.len_, run_underlying h, goInt]
theorem run_builtin_len {w : World} {a : Act} {x : Operand} {t : TypeId} {v : Value} (h : (Builtin.len_ #[t] ty #[a.eval x]).run P w = .ok v w) :
    (execOp a.eval ⟨d, .call { callee := .builtin .len, args := #[x], argTypes := #[t] }, ty, pos, af, g⟩).run P w = .ok (.value v) w := by
  simp [execOp, resolve, invoke, builtin, h]
theorem Pev.len_str {t : TypeId} {x : Operand} {cx : Bool} {s : ByteArray} (hx : evl l x = some (cx, .string s)) (hc : c = true → cx = true) (hu : strB P t = true) :
    Pev P n l C ⟨d, .call { callee := .builtin .len, args := #[x], argTypes := #[t] }, ty, pos, af, g⟩ c (.int .i64 s.size) :=
  .of_run fun h a w hs hw => run_builtin_len (by rw [hs.eval hx (hc h)]; exact run_len_str hu)
theorem Pev.len_slice {t : TypeId} {x : Operand} {cx : Bool} {q : Option Addr} {m cp : Nat} {e : TypeId × Nat} (hx : evl l x = some (cx, .slice q m cp)) (hc : c = true → cx = true) (hu : slElem P t = some e) :
    Pev P n l C ⟨d, .call { callee := .builtin .len, args := #[x], argTypes := #[t] }, ty, pos, af, g⟩ c (.int .i64 m) :=
  .of_run fun h a w hs hw => run_builtin_len (by rw [hs.eval hx (hc h)]; exact run_len_slice hu)
/-- the byte at a place, as a number -/
def bt (s : ByteArray) (m : Nat) : Int := ((s.data.toList.getD m 0).toNat : Int)
theorem bt_lo (s : ByteArray) (m : Nat) : 0 ≤ bt s m := by unfold bt; omega
theorem bt_hi (s : ByteArray) (m : Nat) : bt s m ≤ 255 := by unfold bt; have := (s.data.toList.getD m 0).toNat_lt; omega
theorem Pev.index_str {t : TypeId} {x y : Operand} {cx cy : Bool} {s : ByteArray} {ki : IntKind} {i : Int} {m : Nat} (hx : evl l x = some (cx, .string s)) (hcx : c = true → cx = true) (hy : evl l y = some (cy, .int ki i)) (hcy : c = true → cy = true)
    (hu : strB P t = true) (hm : c = true → i = (m : Int) ∧ m < s.size) : Pev P n l C ⟨d, .index t x y, ty, pos, af, g⟩ c (.int .u8 (bt s m)) :=
  .of_run fun h a w hs hw => by
    obtain ⟨rfl, hlt⟩ := hm h
    unfold strB at hu
    cases h1 : P.underlying t with
    | none => simp [h1] at hu
    | some dd =>
      rw [h1] at hu
      cases dd <;> simp at hu
      have hb : bt s m = (s[m].toNat : Int) := by
        unfold bt
        have : m < s.data.toList.length := by simpa using hlt
        rw [List.getD_eq_getElem?_getD, List.getElem?_eq_getElem this]
        rfl
      simp [execOp, hs.eval hx (hcx h), hs.eval hy (hcy h), Instr.index, asIntOf, run_underlying h1, hlt, hb]
end
end Go.Eng

/- The rules for memory: addresses, loads, calls, new blocks, stores. General: any program P. No condition. -/
namespace Go.Eng
open Go.RowKit
/-- of the items none owns block k -/
inductive NotOwned : List Item → Nat → Prop where
  | nil {k : Nat} : NotOwned [] k
  | blk {b : Nat} {t : TypeId} {c : List Value} {H : List Item} {k : Nat} (h : k ≠ b) (r : NotOwned H k) : NotOwned (blk b t c :: H) k
  | any {i : Item} {H : List Item} {k : Nat} (h : ¬ i.own k) (r : NotOwned H k) : NotOwned (i :: H) k
theorem NotOwned.not {H : List Item} {k : Nat} (h : NotOwned H k) : ¬ owned H k := by
  induction h with
  | nil => rintro ⟨i, hi, _⟩; cases hi
  | @blk b t c H k h r ih =>
    rintro ⟨i, hi, hk⟩
    cases hi with
    | head => exact h hk
    | tail _ hi => exact ih ⟨i, hi, hk⟩
  | @any i H k h r ih =>
    rintro ⟨j, hj, hk⟩
    cases hj with
    | head => exact h hk
    | tail _ hj => exact ih ⟨j, hj, hk⟩
/-- a list taken to pieces: what the first k are -/
inductive Take : Nat → List Value → List Value → Prop where
  | zero {l : List Value} : Take 0 l []
  | succ {k : Nat} {v : Value} {l r : List Value} (h : Take k l r) : Take (k + 1) (v :: l) (v :: r)
theorem Take.get {k : Nat} {l r : List Value} (h : Take k l r) : r.length = k ∧ ∀ (j : Nat) (v : Value), r[j]? = some v → l[j]? = some v := by
  induction h with
  | zero => exact ⟨rfl, fun j v hv => by simp at hv⟩
  | @succ k v l r _ ih =>
    refine ⟨by simp [ih.1], fun j u hu => ?_⟩
    cases j with
    | zero => simpa using hu
    | succ j => exact ih.2 j u (by simpa using hu)
/-- the cells that a value takes -/
inductive CellsL : Value → List Value → Prop where
  | one {v : Value} (h : v.cells = #[v]) : CellsL v [v]
  | agg {c : List Value} : CellsL (.agg c.toArray) c
theorem CellsL.eq {v : Value} {cs : List Value} (h : CellsL v cs) : v.cells = cs.toArray := by
  cases h with
  | one h => exact h
  | agg => rfl
/-- vs laid over the head of l -/
inductive Over : List Value → List Value → List Value → Prop where
  | nil {l : List Value} : Over l [] l
  | cons {x v : Value} {l vs r : List Value} (h : Over l vs r) : Over (x :: l) (v :: vs) (v :: r)
/-- vs laid over l from place o on -/
inductive Put : List Value → Nat → List Value → List Value → Prop where
  | here {l vs r : List Value} (h : Over l vs r) : Put l 0 vs r
  | skip {x : Value} {l vs r : List Value} {o : Nat} (h : Put l o vs r) : Put (x :: l) (o + 1) vs (x :: r)
def putL : List Value → Nat → List Value → List Value
  | l, _, [] => l
  | l, o, v :: r => putL (l.set o v) (o + 1) r
theorem putL_cons : ∀ (vs : List Value) (x : Value) (l : List Value) (o : Nat), putL (x :: l) (o + 1) vs = x :: putL l o vs
  | [], _, _, _ => rfl
  | v :: vs, x, l, o => by rw [putL, List.set_cons_succ, putL_cons, putL]
theorem Over.eq {l vs r : List Value} (h : Over l vs r) : vs.length ≤ l.length ∧ putL l 0 vs = r := by
  induction h with
  | nil => exact ⟨by simp, rfl⟩
  | @cons x v l vs r h ih => exact ⟨by simp [ih.1], by rw [putL, List.set_cons_zero, putL_cons, ih.2]⟩
theorem Put.eq {l vs r : List Value} {o : Nat} (h : Put l o vs r) : o + vs.length ≤ l.length ∧ putL l o vs = r := by
  induction h with
  | here h => exact ⟨by have := h.eq.1; omega, h.eq.2⟩
  | @skip x l vs r o h ih => exact ⟨by have := ih.1; simp; omega, by rw [putL_cons, ih.2]⟩
/-- item i at its place is j now -/
inductive Swap : Nat → List Item → Item → Item → List Item → Prop where
  | z {i j : Item} {H : List Item} : Swap 0 (i :: H) i j (j :: H)
  | s {p : Nat} {k i j : Item} {H H' : List Item} (h : Swap p H i j H') : Swap (p + 1) (k :: H) i j (k :: H')
theorem Swap.eq {p : Nat} {H H' : List Item} {i j : Item} (h : Swap p H i j H') : H[p]? = some i ∧ H' = H.set p j := by
  induction h with
  | z => exact ⟨rfl, rfl⟩
  | @s p k i j H H' h ih => exact ⟨by simpa using ih.1, by rw [List.set_cons_succ, ← ih.2]⟩
def AllLe : List World → Nat → Prop
  | [], _ => True
  | s :: r, b => s.heap.size ≤ b ∧ AllLe r b
theorem AllLe.mk {H : List Item} {S : List World} {w : World} (h : Cls H S w) : AllLe S w.heap.size := by
  have := h.kp
  clear h
  induction S with
  | nil => trivial
  | cons s S ih => exact ⟨(this s (.head _)).size, ih fun x hx => this x (.tail _ hx)⟩
/-! what a tactic finds by itself, as an argument that is filled in -/
theorem NotOwned.au {H : List Item} {k : Nat} (h : NotOwned H k := by (focus ((try simp only [add_block]); (repeat (first | exact NotOwned.nil | exact hno _ (by omega) | refine NotOwned.nothing ?_ | refine NotOwned.nds (hlow _ (by omega)) ?_ | refine NotOwned.mapS (by omega) ?_ | apply NotOwned.bif | refine NotOwned.blk (by omega) ?_ | refine NotOwned.row (by omega) ?_ | refine NotOwned.grid (by assumption) (by omega) ?_ | refine NotOwned.pile (by omega) ?_ | refine NotOwned.pool (by omega) ?_ | refine NotOwned.mapI (by omega) ?_ | refine NotOwned.mapX (by omega) ?_ | refine NotOwned.itI (by omega) ?_)); first | done | fail))) : NotOwned H k := h
theorem mau {α : Type} {x : α} {l : List α} (h : x ∈ l := by (repeat (first | exact List.Mem.head _ | apply List.Mem.tail)); first | done | fail) : x ∈ l := h
theorem Take.au {k : Nat} {l r : List Value} (h : Take k l r := by (repeat (first | apply Take.zero | apply Take.succ)); first | done | fail) : Take k l r := h
theorem Put.au {l vs r : List Value} {o : Nat} (h : Put l o vs r := by (repeat (first | apply Over.nil | apply Over.cons | apply Put.here | apply Put.skip)); first | done | fail) : Put l o vs r := h
theorem Swap.au {p : Nat} {H H' : List Item} {i j : Item} (h : Swap p H i j H' := by (repeat (first | apply Swap.z | apply Swap.s)); first | done | fail) : Swap p H i j H' := h
section
variable {P : Program} {n : Nm} {l : Env} {H : List Item} {S : List World} {C : World → Prop} {c : Bool} {d : Option Nat} {ty : TypeId} {pos : String} {af : Array Edge} {g : Option (Nat × Bool)}
variable {t : TypeId} {x y : Operand} {cx cy : Bool}
/-! addresses -/
theorem run_fieldAt {i off : Nat} {a : Addr} {w : World} (hf : fldAt P t i = some off) : (Instr.fieldAt t (.pointer (some a)) i).run P w = .ok (.pointer (some (a.add off))) w := by
  unfold fldAt at hf
  cases hu : P.underlying t with
  | none => simp [hu] at hf
  | some dd =>
    rw [hu] at hf
    cases dd <;> simp only [reduceCtorEq] at hf
    rename_i fs
    cases hq : fs[i]? with
    | none => simp [hq] at hf
    | some f =>
      rw [hq] at hf
      simp only at hf
      cases hz : sizeN P f.type with
      | none => simp [hz] at hf
      | some k =>
        rw [hz] at hf
        cases k with
        | zero => simp at hf
        | succ k =>
          have hf := lit_eq hf
          subst hf
          simp [Instr.fieldAt, run_underlying hu, hq, Instr.sureAddr, fieldPlace, run_sizeN hz]
theorem Pev.fld {i off b o : Nat} (hx : evl l x = some (cx, .pointer (some ⟨b, o, none⟩))) (hc : c = true → cx = true) (hf : fldAt P t i = some off) : Pev P n l C ⟨d, .fieldAddr t x i, ty, pos, af, g⟩ c (.pointer (some ⟨b, o + off, none⟩)) :=
  .of_run fun h a w hs hw => by simp only [execOp, hs.eval hx (hc h), Sem.run_bind, run_fieldAt hf, Result.andThen_ok, add_mid]; rfl
theorem Pev.fldA {i off : Nat} {q : Addr} (hx : evl l x = some (cx, .pointer (some q))) (hc : c = true → cx = true) (hf : fldAt P t i = some off) : Pev P n l C ⟨d, .fieldAddr t x i, ty, pos, af, g⟩ c (.pointer (some (q.add off))) :=
  .of_run fun h a w hs hw => by simp only [execOp, hs.eval hx (hc h), Sem.run_bind, run_fieldAt hf, Result.andThen_ok]; rfl
theorem run_indexAt_slice {e : TypeId} {sz m len cp : Nat} {ki : IntKind} {a : Addr} {w : World} (hu : slElem P t = some (e, sz)) (hm : m < len) : (Instr.indexAt t (.slice (some a) len cp) (.int ki (m : Int))).run P w = .ok (.pointer (some (a.add (m * sz)))) w := by
  unfold slElem at hu
  cases h1 : P.underlying t with
  | none => simp [h1] at hu
  | some dd =>
    rw [h1] at hu
    cases dd <;> simp only [reduceCtorEq] at hu
    rename_i e'
    cases h2 : sizeN P e' with
    | none => simp [h2] at hu
    | some k =>
      rw [h2] at hu
      simp only [Option.some.injEq, Prod.mk.injEq] at hu
      obtain ⟨rfl, rfl⟩ := hu
      simp [Instr.indexAt, asIntOf, run_underlying h1, run_sizeN h2, hm]
theorem Pev.idx {e : TypeId} {sz m len cp : Nat} {ki : IntKind} {i : Int} {q : Addr} (hx : evl l x = some (cx, .slice (some q) len cp)) (hcx : c = true → cx = true) (hy : evl l y = some (cy, .int ki i)) (hcy : c = true → cy = true)
    (hu : slElem P t = some (e, sz)) (hi : i = (m : Int)) (hm : c = true → m < len) : Pev P n l C ⟨d, .indexAddr t x y, ty, pos, af, g⟩ c (.pointer (some (q.add (m * sz)))) :=
  .of_run fun h a w hs hw => by
    subst hi
    simp only [execOp, hs.eval hx (hcx h), hs.eval hy (hcy h), Sem.run_bind, run_indexAt_slice hu (hm h), Result.andThen_ok]; rfl
/-- at a row of the call's own: the place is told by numbers -/
theorem Pev.idxB {e : TypeId} {sz m len cp b o : Nat} {ki : IntKind} {i : Int} (hx : evl l x = some (cx, .slice (some ⟨b, o, none⟩) len cp)) (hcx : c = true → cx = true) (hy : evl l y = some (cy, .int ki i)) (hcy : c = true → cy = true)
    (hu : slElem P t = some (e, sz)) (hi : c = true → 0 ≤ i ∧ i < len) (hm : i.toNat = m) : Pev P n l C ⟨d, .indexAddr t x y, ty, pos, af, g⟩ c (.pointer (some ⟨b, o + m * sz, none⟩)) :=
  .of_run fun h a w hs hw => by
    obtain ⟨h1, h2⟩ := hi h
    have e : i = (m : Int) := by omega
    subst e
    simp only [execOp, hs.eval hx (hcx h), hs.eval hy (hcy h), Sem.run_bind, run_indexAt_slice hu (show m < len by omega), Result.andThen_ok, add_mid]; rfl
/-! loads -/
theorem run_loadAt {w : World} {a : Addr} {v : Value} (h : (loadVar t a).run P w = .ok v w) : (Instr.loadAt t (.pointer (some a))).run P w = .ok v w := by simp [Instr.loadAt, Instr.sureAddr, h]
theorem Pev.load_of {q : Addr} {v : Value} (hx : evl l x = some (cx, .pointer (some q))) (hcx : c = true → cx = true) (h : c = true → ∀ w, C w → (loadVar t q).run P w = .ok v w) : Pev P n l C ⟨d, .load t x, ty, pos, af, g⟩ c v :=
  .of_run fun hc a w hs hw => by simp only [execOp, hs.eval hx (hcx hc), Sem.run_bind, run_loadAt (h hc w hw), Result.andThen_ok]; rfl
theorem Cls.item {w : World} (h : Cls H S w) {i : Item} (hp : i ∈ H) : i.holds w := h.holds i hp
/-- one cell of a block that is known whole -/
theorem Pev.load_blk {b o : Nat} {t' : TypeId} {cs : List Value} {v : Value} (hx : evl l x = some (cx, .pointer (some ⟨b, o, none⟩))) (hcx : c = true → cx = true)
    (hp : blk b t' cs ∈ H) (hs : scalB P t = true) (hv : cs[o]? = some v) : Pev P n l (Cls H S) ⟨d, .load t x, ty, pos, af, g⟩ c v :=
  .load_of hx hcx fun _ w hw => run_loadVar_scal hs (by rw [blk_cell (hw.item hp)]; exact hv)
/-- several cells of a block that is known whole -/
theorem Pev.load_blkA {b o k : Nat} {t' : TypeId} {cs vs : List Value} (hx : evl l x = some (cx, .pointer (some ⟨b, o, none⟩))) (hcx : c = true → cx = true)
    (hp : blk b t' cs ∈ H) (hs : aggN P t = some k) (hv : Take k (cs.drop o) vs) : Pev P n l (Cls H S) ⟨d, .load t x, ty, pos, af, g⟩ c (.agg vs.toArray) :=
  .load_of hx hcx fun _ w hw => run_loadVar_agg (by rw [hv.get.1]; exact hs) fun j v hj => by
    rw [add_mid, blk_cell (hw.item hp)]
    have := hv.get.2 j v hj
    rwa [List.getElem?_drop] at this
theorem Cls.cell {w s : World} (h : Cls H S w) (hq : s ∈ S) {a : Addr} (hlt : a.block < s.heap.size) (hno : NotOwned H a.block) : w.cell? a = s.cell? a :=
  World.cell?_of_block ((h.kp s hq).block a.block hlt hno.not)
/-- one cell of a kept world -/
theorem Pev.load_kept {s : World} {a : Addr} {v : Value} (hx : evl l x = some (cx, .pointer (some a))) (hcx : c = true → cx = true) (hq : s ∈ S) (hs : scalB P t = true)
    (hv : c = true → s.cell? a = some v) (hlt : c = true → a.block < s.heap.size) (hno : c = true → NotOwned H a.block) : Pev P n l (Cls H S) ⟨d, .load t x, ty, pos, af, g⟩ c v :=
  .load_of hx hcx fun h w hw => run_loadVar_scal hs (by rw [hw.cell hq (hlt h) (hno h)]; exact hv h)
theorem Pev.load_keptA {s : World} {a : Addr} {vs : List Value} {k : Nat} (hx : evl l x = some (cx, .pointer (some a))) (hcx : c = true → cx = true) (hq : s ∈ S) (hs : aggN P t = some k)
    (hv : c = true → CellsAt s a vs) (hk : vs.length = k) (hlt : c = true → a.block < s.heap.size) (hno : c = true → NotOwned H a.block) : Pev P n l (Cls H S) ⟨d, .load t x, ty, pos, af, g⟩ c (.agg vs.toArray) :=
  .load_of hx hcx fun h w hw => run_loadVar_agg (by rw [hk]; exact hs) fun j v hj => by
    rw [hw.cell hq (by rw [add_block]; exact hlt h) (by rw [add_block]; exact hno h)]; exact hv h j v hj
/-- one cell out of a run of cells of a kept world -/
theorem CellsAt.at_ {s : World} {a : Addr} {vs : List Value} (h : CellsAt s a vs) {j : Nat} {v : Value} (hj : vs[j]? = some v) : s.cell? (a.add j) = some v := h j v hj
/-! calls -/
inductive Args (l : Env) (c : Bool) : List Operand → List Value → Prop where
  | nil : Args l c [] []
  | cons {x : Operand} {cx : Bool} {v : Value} {xs : List Operand} {vs : List Value} (hx : evl l x = some (cx, v)) (hc : c = true → cx = true) (r : Args l c xs vs) : Args l c (x :: xs) (v :: vs)
theorem Args.au {l : Env} {c : Bool} {xs : List Operand} {vs : List Value} (h : Args l c xs vs := by (repeat (first | exact Args.nil | (apply Args.cons rfl; (first | exact fun _ => rfl | exact fun h => h | (intro h; simp_all; done))))); first | done | fail) : Args l c xs vs := h
theorem Args.map {a : Act} (hs : Sees n l a) (hc : c = true) {xs : List Operand} {vs : List Value} (h : Args l c xs vs) : xs.map a.eval = vs := by
  induction h with
  | nil => rfl
  | cons hx hcx r ih => rw [List.map_cons, hs.eval hx (hcx hc), ih]
theorem run_callFunc_body {f : FuncId} (h : callable P f = true) (args : Array Value) (w : World) : (callFunc f args).run P w = .ok (.enter f args) w := by
  unfold callable at h
  cases hf : P.funcs[f]? with
  | none => simp [hf] at h
  | some fn =>
    rw [hf] at h
    simp only [Bool.and_eq_true, Bool.not_eq_true', Option.isSome_iff_ne_none] at h
    have hb : fn.body ≠ none := h.2
    have hnm : ¬ fn.name = "runtime.NumGoroutine" := by simpa using h.1
    simp [callFunc, hf, hnm, hb]
theorem run_call {f : FuncId} {args : Array Operand} {ats : Array TypeId} {a : Act} {w : World} (h : callable P f = true) :
    (execOp a.eval ⟨d, .call { callee := .value (.func f), args := args, argTypes := ats }, ty, pos, af, g⟩).run P w = .ok (.enter f (args.map a.eval)) w := by
  simp only [execOp, resolve, Act.eval, Deferred.ofValue, invoke, Sem.run_bind, Sem.run_pure, Result.andThen_ok]
  simpa using run_callFunc_body h (args.map a.eval) w
theorem run_callv {f : FuncId} {first cap : Array Value} {args : Array Operand} {ats : Array TypeId} {a : Act} {w : World} (h : callable P f = true) (hx : a.eval x = .func (.func f) first cap) :
    (execOp a.eval ⟨d, .call { callee := .value x, args := args, argTypes := ats }, ty, pos, af, g⟩).run P w = .ok (.enter f (first ++ args.map a.eval ++ cap)) w := by
  simp only [execOp, resolve, hx, Deferred.ofValue, invoke, Sem.run_bind, Sem.run_pure, Result.andThen_ok]
  exact run_callFunc_body h _ w
/-- a call whose result does not hang on the world, and that leaves the world in its class -/
theorem Pev.call {f : FuncId} {args : List Operand} {vs : List Value} {ats : Array TypeId} {v : Value} (hf : callable P f = true) (ha : Args l c args vs)
    (h : c = true → ∀ w, C w → Calls P f vs.toArray w fun e w' => e = .returned v ∧ C w') :
    Pev P n l C ⟨d, .call { callee := .value (.func f), args := args.toArray, argTypes := ats }, ty, pos, af, g⟩ c v :=
  ⟨fun hc a w hs hw => by
    rw [run_call hf]
    refine ⟨rfl, ?_⟩
    rw [List.map_toArray, ha.map hs hc]
    exact h hc w hw⟩
theorem Pev.callv {f : FuncId} {first cap : List Value} {args : List Operand} {vs : List Value} {ats : Array TypeId} {v : Value} (hx : evl l x = some (cx, .func (.func f) first.toArray cap.toArray)) (hcx : c = true → cx = true)
    (hf : callable P f = true) (ha : Args l c args vs)
    (h : c = true → ∀ w, C w → Calls P f (first ++ vs ++ cap).toArray w fun e w' => e = .returned v ∧ C w') :
    Pev P n l C ⟨d, .call { callee := .value x, args := args.toArray, argTypes := ats }, ty, pos, af, g⟩ c v :=
  ⟨fun hc a w hs hw => by
    rw [run_callv hf (hs.eval hx (hcx hc))]
    refine ⟨rfl, ?_⟩
    rw [List.map_toArray, ha.map hs hc]
    simpa using h hc w hw⟩
variable {ops : Array Oper} {rest : List Oper} {Q : Exit → Act → World → Prop}
/-- a call in general: of what it leaves behind, 'k' is asked for every result -/
theorem OL.call {f : FuncId} {args : List Operand} {vs : List Value} {ats : Array TypeId} {dd : Nat} (hn : Nat.ble (dd + 1) n.n = true) (hf : callable P f = true) (ha : Args l true args vs)
    (R : Value → World → Prop) (h : ∀ w, C w → Calls P f vs.toArray w fun e w' => ∃ v, e = .returned v ∧ R v w')
    (k : ∀ v, OL P n ops Q rest ((dd, true, v) :: l) (R v)) : OL P n ops Q (⟨some dd, .call { callee := .value (.func f), args := args.toArray, argTypes := ats }, ty, pos, af, none⟩ :: rest) l C := by
  have hn' := Nat.le_of_ble_eq_true hn
  refine ⟨fun a w hs hc => ?_⟩
  refine wpList_plain rfl fun K hK => ?_
  show Oper.upon P _ a K Q ((execOp a.eval _).run P w)
  rw [run_call hf]
  show Calls P f _ w _
  rw [List.map_toArray, ha.map hs rfl]
  refine (h w hc).mono fun e w' ⟨v, he, hr⟩ => ?_
  subst he
  exact hK _ _ ((k v).run _ w' (hs.put hn' true v) hr)
theorem OL.call0 {f : FuncId} {args : List Operand} {vs : List Value} {ats : Array TypeId} (hf : callable P f = true) (ha : Args l true args vs)
    (R : World → Prop) (h : ∀ w, C w → Calls P f vs.toArray w fun e w' => (∃ v, e = .returned v) ∧ R w')
    (k : OL P n ops Q rest l R) : OL P n ops Q (⟨none, .call { callee := .value (.func f), args := args.toArray, argTypes := ats }, ty, pos, af, none⟩ :: rest) l C := by
  refine ⟨fun a w hs hc => ?_⟩
  refine wpList_plain rfl fun K hK => ?_
  show Oper.upon P _ a K Q ((execOp a.eval _).run P w)
  rw [run_call hf]
  show Calls P f _ w _
  rw [List.map_toArray, ha.map hs rfl]
  refine (h w hc).mono fun e w' ⟨⟨v, he⟩, hr⟩ => ?_
  subst he
  exact hK _ _ (k.run _ w' hs hr)
/-- a call whose result is known, and that turns the class -/
theorem OL.callF {C' : World → Prop} {f : FuncId} {args : List Operand} {vs : List Value} {ats : Array TypeId} {dd : Nat} {v : Value} (hn : Nat.ble (dd + 1) n.n = true) (hf : callable P f = true) (ha : Args l true args vs)
    (h : ∀ w, C w → Calls P f vs.toArray w fun e w' => e = .returned v ∧ C' w')
    (k : OL P n ops Q rest ((dd, true, v) :: l) C') : OL P n ops Q (⟨some dd, .call { callee := .value (.func f), args := args.toArray, argTypes := ats }, ty, pos, af, none⟩ :: rest) l C :=
  OL.call hn hf ha (fun u w => u = v ∧ C' w) (fun w hw => (h w hw).mono fun e w' he => ⟨v, he.1, rfl, he.2⟩) (fun u => ⟨fun a w hs hc => by obtain ⟨rfl, hc⟩ := hc; exact k.run a w hs hc⟩)
/-- a call whose result is one of several: told by x -/
theorem OL.callE {α : Type} (V : α → Value) (Φ : α → Prop) (C' : α → World → Prop) {f : FuncId} {args : List Operand} {vs : List Value} {ats : Array TypeId} {dd : Nat} (hn : Nat.ble (dd + 1) n.n = true) (hf : callable P f = true) (ha : Args l true args vs)
    (h : ∀ w, C w → Calls P f vs.toArray w fun e w' => ∃ x, e = .returned (V x) ∧ Φ x ∧ C' x w')
    (k : ∀ x, Φ x → OL P n ops Q rest ((dd, true, V x) :: l) (C' x)) : OL P n ops Q (⟨some dd, .call { callee := .value (.func f), args := args.toArray, argTypes := ats }, ty, pos, af, none⟩ :: rest) l C :=
  OL.call hn hf ha (fun u w => ∃ x, u = V x ∧ Φ x ∧ C' x w) (fun w hw => (h w hw).mono fun e w' ⟨x, he, hx, hc⟩ => ⟨V x, he, x, rfl, hx, hc⟩)
    (fun u => ⟨fun a w hs hc => by obtain ⟨x, rfl, hx, hc⟩ := hc; exact (k x hx).run a w hs hc⟩)
/-! new blocks -/
theorem OL.new {o : Oper} {dd : Nat} {C' : Nat → World → Prop} (hg : o.guard = none) (hd : o.dst = some dd) (hn : Nat.ble (dd + 1) n.n = true) (V : Nat → Value)
    (hv : ∀ a w, Sees n l a → C w → ∃ b w', (execOp a.eval o).run P w = .ok (.value (V b)) w' ∧ C' b w')
    (k : ∀ b, OL P n ops Q rest ((dd, true, V b) :: l) (C' b)) : OL P n ops Q (o :: rest) l C := by
  have hn' := Nat.le_of_ble_eq_true hn
  refine ⟨fun a w hs hc => ?_⟩
  refine wpList_plain hg fun K hK => ?_
  obtain ⟨b, w', hr, hc'⟩ := hv a w hs hc
  show Oper.upon P o a K Q ((execOp a.eval o).run P w)
  rw [hr]
  show K (a.put o.dst (V b)) w'
  rw [hd]
  exact hK _ _ ((k b).run _ w' (hs.put hn' true _) hc')
/-- a variable that begins with a value -/
theorem OL.box {e : TypeId} {dd : Nat} {v : Value} {cs : List Value} (hn : Nat.ble (dd + 1) n.n = true) (hx : evl l x = some (true, v)) (hv : CellsL v cs)
    (k : ∀ b, AllLe S b → OL P n ops Q rest ((dd, true, .pointer (some ⟨b, 0, none⟩)) :: l) (Cls (blk b e cs :: H) S)) :
    OL P n ops Q (⟨some dd, .box e x, ty, pos, af, none⟩ :: rest) l (Cls H S) :=
  OL.new (C' := fun b w => AllLe S b ∧ Cls (blk b e cs :: H) S w) rfl rfl hn (fun b => .pointer (some ⟨b, 0, none⟩))
    (fun a w hs hc => ⟨w.heap.size, w.alloc (.cells v.cells e), by simp only [execOp, hs.eval hx rfl]; rfl, AllLe.mk hc, by rw [hv.eq]; exact hc.alloc e cs⟩)
    (fun b => ⟨fun a w hs hc => (k b hc.1).run a w hs hc.2⟩)
def zeroV (P : Program) (t : TypeId) : Option Value := match P.info? t with | some i => i.zero | none => none
theorem run_zeroV {v : Value} {w : World} (h : zeroV P t = some v) : (zeroValue t).run P w = .ok v w := by
  unfold zeroV at h
  cases hi : P.info? t with
  | none => simp [hi] at h
  | some i =>
    rw [hi] at h
    simp only at h
    simp [zeroValue, typeInfo, hi, h]
theorem OL.alloc {e : TypeId} {dd : Nat} {v : Value} {cs : List Value} (hn : Nat.ble (dd + 1) n.n = true) (hz : zeroV P e = some v) (hv : CellsL v cs)
    (k : ∀ b, AllLe S b → OL P n ops Q rest ((dd, true, .pointer (some ⟨b, 0, none⟩)) :: l) (Cls (blk b e cs :: H) S)) :
    OL P n ops Q (⟨some dd, .alloc e, ty, pos, af, none⟩ :: rest) l (Cls H S) :=
  OL.new (C' := fun b w => AllLe S b ∧ Cls (blk b e cs :: H) S w) rfl rfl hn (fun b => .pointer (some ⟨b, 0, none⟩))
    (fun a w hs hc => ⟨w.heap.size, w.alloc (.cells v.cells e), by
      simp only [execOp, Instr.alloc, Sem.run_bind, run_zeroV hz, Result.andThen_ok]; rfl, AllLe.mk hc, by rw [hv.eq]; exact hc.alloc e cs⟩)
    (fun b => ⟨fun a w hs hc => (k b hc.1).run a w hs hc.2⟩)
theorem Cls.start_blk {w : World} {b : Nat} {t : TypeId} {cs : List Value} (h : (blk b t cs).holds w) : Cls [blk b t cs] [w] w where
  holds := fun i hi => by simp only [List.mem_singleton] at hi; subst hi; exact h
  lt := fun i hi k hk => by
    simp only [List.mem_singleton] at hi; subst hi
    have hk' : k = b := hk
    subst hk'
    have h' : w.heap[k]? = some (.cells cs.toArray t (0, 0)) := h
    rcases Nat.lt_or_ge k w.heap.size with hl | hl
    · exact hl
    · rw [Array.getElem?_eq_none hl] at h'; cases h'
  dj := List.pairwise_singleton _ _
  kp := fun s hs => by simp only [List.mem_singleton] at hs; subst hs; exact .refl _ _
/-- behind a call that turned block b alone -/
theorem Cls.turn_blk {w w' : World} (h : Cls H S w) {p b : Nat} {t : TypeId} {cs cs' : List Value} {H' : List Item} (hs : Swap p H (blk b t cs) (blk b t cs') H') (hk : Keep (fun k => k = b) w w') (hh : (blk b t cs').holds w') : Cls H' S w' := by
  obtain ⟨hp, rfl⟩ := hs.eq
  refine h.turn p hp hk hh (fun q hq => ?_) (fun q hq => hq)
  have hq' : q = b := hq
  subst hq'
  exact ⟨.inl rfl, Nat.lt_of_lt_of_le (h.lt _ (List.mem_of_getElem? hp) q rfl) hk.size⟩
/-- an array behind a pointer -/
theorem Pev.idxArr {m len sz b o : Nat} {ki : IntKind} {i : Int} (hx : evl l x = some (cx, .pointer (some ⟨b, o, none⟩))) (hcx : c = true → cx = true) (hy : evl l y = some (cy, .int ki i)) (hcy : c = true → cy = true)
    (hu : arrElem P t = some (len, sz)) (hi : c = true → 0 ≤ i ∧ i < len) (hm : i.toNat = m) : Pev P n l C ⟨d, .indexAddr t x y, ty, pos, af, g⟩ c (.pointer (some ⟨b, o + m * sz, none⟩)) :=
  .of_run fun h a w hs hw => by
    obtain ⟨h1, h2⟩ := hi h
    unfold arrElem at hu
    cases hq : P.underlying t with
    | none => simp [hq] at hu
    | some d1 =>
      rw [hq] at hu
      cases d1 <;> simp only [reduceCtorEq] at hu
      rename_i len' e'
      cases h3 : sizeN P e' with
      | none => simp [h3] at hu
      | some k' =>
        rw [h3] at hu
        simp only [Option.some.injEq, Prod.mk.injEq] at hu
        obtain ⟨rfl, rfl⟩ := hu
        subst hm
        simp only [execOp, hs.eval hx (hcx h), hs.eval hy (hcy h), Instr.indexAt, asIntOf, Instr.sureAddr, Sem.run_bind, Sem.run_pure, Result.andThen_ok, run_underlying hq, run_sizeN h3]
        rw [if_pos ⟨h1, h2⟩]
        simp only [Sem.run_bind, run_sizeN h3, Result.andThen_ok, Sem.run_pure, add_mid]
/-! stores into a block that is known whole -/
def oneL : List Value → Bool
  | [] => true
  | v :: r => v.oneCell' && oneL r
theorem putL_length' : ∀ (vs l : List Value) (o : Nat), (putL l o vs).length = l.length
  | [], l, o => rfl
  | v :: r, l, o => by rw [putL, putL_length']; simp
theorem run_storeCells_blk {b o : Nat} {t : TypeId} : ∀ (vs : List Value) (i : Nat) (cs : List Value) (w : World), w.heap[b]? = some (.cells cs.toArray t (0, 0)) → o + i + vs.length ≤ cs.length → oneL vs = true →
    ∃ w', (storeCells ⟨b, o, none⟩ vs i).run P w = .ok () w' ∧ w'.heap[b]? = some (.cells (putL cs (o + i) vs).toArray t (0, 0)) ∧ Keep (fun k => k = b) w w'
  | [], i, cs, w, hg, _, _ => ⟨w, rfl, hg, .refl _ _⟩
  | v :: r, i, cs, w, hg, hl, h1 => by
    simp only [oneL, Bool.and_eq_true] at h1
    simp only [List.length_cons] at hl
    have hcell : w.cell? ⟨b, o + i, none⟩ = some (cs[o + i]'(by omega)) := by simp [World.cell?, hg]
    have hfro : w.frozen? ⟨b, o + i, none⟩ = false := by simp [World.frozen?, hg]
    have hst : (store ((⟨b, o, none⟩ : Addr).add i) v).run P w = .ok () (w.setCell ⟨b, o + i, none⟩ v) := by
      rw [add_mid, run_store P w _ v _ h1.1, hcell]
      simp [hfro]
    have hg' : (w.setCell ⟨b, o + i, none⟩ v).heap[b]? = some (.cells (cs.set (o + i) v).toArray t (0, 0)) := by
      simp [World.setCell, Array.getElem?_modify, hg]
    obtain ⟨w', hr, hh, hk⟩ := run_storeCells_blk (o := o) r (i + 1) (cs.set (o + i) v) (w.setCell ⟨b, o + i, none⟩ v) hg' (by simp; omega) h1.2
    refine ⟨w', ?_, hh, ?_⟩
    · simp only [storeCells, Sem.run_bind, hst, Result.andThen_ok, hr]
    · exact Keep.trans (b := w.setCell ⟨b, o + i, none⟩ v) ⟨rfl, rfl, rfl, by simp [World.setCell], fun k _ hne => Below.heap_setCell _ _ _ _ (fun e => hne e)⟩ hk
theorem run_storeAt_blk {b o : Nat} {t' : TypeId} {v : Value} {k : Nat} {cs vs : List Value} {w : World} (hw : w.heap[b]? = some (.cells cs.toArray t' (0, 0))) (hs : sizeN P t = some k) (hv : v.cells = vs.toArray) (hk : vs.length = k)
    (hl : o + vs.length ≤ cs.length) (h1 : oneL vs = true) :
    ∃ w', (Instr.storeAt t (.pointer (some ⟨b, o, none⟩)) v).run P w = .ok () w' ∧ w'.heap[b]? = some (.cells (putL cs o vs).toArray t' (0, 0)) ∧ Keep (fun k => k = b) w w' := by
  obtain ⟨w', hr, hh, hkp⟩ := run_storeCells_blk (P := P) (o := o) vs 0 cs w hw (by omega) h1
  refine ⟨w', ?_, hh, hkp⟩
  have hsz : v.cells.size = k := by rw [hv]; simpa using hk
  simp only [Instr.storeAt, Instr.sureAddr, storeVar, Sem.run_bind, Sem.run_pure, Result.andThen_ok, run_sizeN hs, hsz, ne_eq, not_true, if_false]
  rw [hv]
  exact hr
theorem OL.storeL {p : Nat} {b o k : Nat} {t' : TypeId} {cs cs' vs : List Value} {v : Value} {H' : List Item} (hx : evl l x = some (true, .pointer (some ⟨b, o, none⟩))) (hy : evl l y = some (true, v)) (hv : v.cells = vs.toArray)
    (hs : sizeN P t = some k) (hk : vs.length = k) (h1 : oneL vs = true) (hcs : o + vs.length ≤ cs.length ∧ putL cs o vs = cs')
    (hH : Swap p H (blk b t' cs) (blk b t' cs') H') (kk : OL P n ops Q rest l (Cls H' S)) : OL P n ops Q (⟨none, .store t x y, ty, pos, af, none⟩ :: rest) l (Cls H S) := by
  obtain ⟨hl, rfl⟩ := hcs
  obtain ⟨hp, rfl⟩ := hH.eq
  refine OL.store_ (C' := Cls (H.set p (blk b t' (putL cs o vs))) S) rfl rfl (fun a w hs' hc => ?_) kk
  obtain ⟨w', hr, hh, hkp⟩ := run_storeAt_blk (P := P) (hc.item (List.mem_of_getElem? hp)) hs hv hk hl h1
  refine ⟨w', ?_, hc.turn p hp (j := blk b t' (putL cs o vs)) hkp hh (fun q hq => ?_) (fun q hq => hq)⟩
  · simp only [execOp, hs'.eval hx rfl, hs'.eval hy rfl, Sem.run_bind, hr, Result.andThen_ok]; rfl
  · have hq' : q = b := hq
    subst hq'
    exact ⟨.inl rfl, Nat.lt_of_lt_of_le (hc.lt _ (List.mem_of_getElem? hp) q rfl) hkp.size⟩
/-- a store into a block written out cell by cell -/
theorem OL.storeB {p : Nat} {b o k : Nat} {t' : TypeId} {cs cs' vs : List Value} {v : Value} {H' : List Item} (hx : evl l x = some (true, .pointer (some ⟨b, o, none⟩))) (hy : evl l y = some (true, v)) (hv : CellsL v vs)
    (hs : sizeN P t = some k) (hk : vs.length = k) (h1 : oneL vs = true) (hH : Swap p H (blk b t' cs) (blk b t' cs') H') (hcs : Put cs o vs cs')
    (kk : OL P n ops Q rest l (Cls H' S)) : OL P n ops Q (⟨none, .store t x y, ty, pos, af, none⟩ :: rest) l (Cls H S) :=
  OL.storeL hx hy hv.eq hs hk h1 hcs.eq hH kk
/-- a store of one cell at a place that is reckoned -/
theorem OL.storeI {p : Nat} {b o : Nat} {t' : TypeId} {cs : List Value} {v : Value} {H' : List Item} (hx : evl l x = some (true, .pointer (some ⟨b, o, none⟩))) (hy : evl l y = some (true, v)) (hv : v.cells = #[v])
    (hs : sizeN P t = some 1) (h1 : oneL [v] = true) (hH : Swap p H (blk b t' cs) (blk b t' (cs.set o v)) H') (hl : o < cs.length)
    (kk : OL P n ops Q rest l (Cls H' S)) : OL P n ops Q (⟨none, .store t x y, ty, pos, af, none⟩ :: rest) l (Cls H S) :=
  OL.storeL (vs := [v]) hx hy hv hs rfl h1 ⟨by simp; omega, rfl⟩ hH kk
/-! literals -/
theorem fold_put (off : Nat) : ∀ (c : List Value) (j : Nat) (cells : Array Value),
    ((c.zipIdx j).foldl (fun (cs : Array Value) (x : Value × Nat) => cs.setIfInBounds (off + x.2) x.1) cells) = (putL cells.toList (off + j) c).toArray
  | [], _, _ => rfl
  | v :: c, j, cells => by
    rw [List.zipIdx_cons, List.foldl_cons, fold_put off c (j + 1), putL]
    congr 1
    simp [Nat.add_assoc]
theorem fold_put_array (off : Nat) (c : List Value) (cells : Array Value) :
    (c.toArray.zipIdx.foldl (fun (cs : Array Value) (x : Value × Nat) => cs.setIfInBounds (off + x.2) x.1) cells) = (putL cells.toList off c).toArray := by
  rw [← Array.foldl_toList]
  have := fold_put off c 0 cells
  simpa using this
/-- the parts of a literal, laid over its zero -/
inductive Fill (l : Env) (place : Nat → Option (Nat × Nat)) : List Value → List (Nat × Operand) → List Value → Prop where
  | nil {cs : List Value} : Fill l place cs [] cs
  | cons {cs cs' cs'' vs : List Value} {i off sz : Nat} {x : Operand} {v : Value} {ps : List (Nat × Operand)} (hx : evl l x = some (true, v)) (hv : CellsL v vs) (hp : place i = some (off, sz)) (hs : vs.length = sz)
      (hput : Put cs off vs cs') (r : Fill l place cs' ps cs'') : Fill l place cs ((i, x) :: ps) cs''
theorem Fill.au {l : Env} {place : Nat → Option (Nat × Nat)} {cs cs' : List Value} {ps : List (Nat × Operand)} (h : Fill l place cs ps cs' := by (repeat (first | exact Fill.nil | (apply Fill.cons rfl; (first | exact CellsL.one rfl | exact CellsL.agg); rfl; rfl; exact Put.au))); first | done | fail) : Fill l place cs ps cs' := h
theorem Fill.run {a : Act} (hs : Sees n l a) {place : Nat → Option (Nat × Nat)} {cs cs' : List Value} {ps : List (Nat × Operand)} (h : Fill l place cs ps cs') :
    Instr.fill place cs.toArray (ps.map fun p => (p.1, a.eval p.2)) = some cs'.toArray := by
  induction h with
  | nil => rfl
  | @cons cs cs' cs'' vs i off sz x v ps hx hv hp hsz hput r ih =>
    simp only [List.map_cons, Instr.fill, hp, hs.eval hx rfl, hv.eq]
    rw [if_neg (by
      have := hput.eq.1
      simp [hsz]; omega)]
    rw [fold_put_array]
    simp only [hput.eq.2]
    exact ih
def structPlaces (P : Program) (t : TypeId) (i : Nat) : Option (Nat × Nat) := match P.underlying t with
  | some (.struct fs) => match fs[i]? with
    | some f => match sizeN P f.type with
      | some k => match lit f.offset with
        | some o => some (o, k)
        | none => none
      | none => none
    | none => none
  | _ => none
theorem mapM_places {w : World} : ∀ (fs : List Field), (∀ f ∈ fs, (sizeN P f.type).isSome = true) →
    ((fs.mapM fun f => do pure (f.offset, ← sizeOf f.type) : Sem (List (Nat × Nat))).run P w) = .ok (fs.map fun f => (f.offset, (sizeN P f.type).getD 0)) w
  | [], _ => rfl
  | f :: fs, h => by
    have h0 := h f (.head _)
    cases hz : sizeN P f.type with
    | none => simp [hz] at h0
    | some k =>
      have ih := mapM_places (w := w) fs (fun g hg => h g (.tail _ hg))
      simp only [List.mapM_cons, Sem.run_bind, run_sizeN hz, Result.andThen_ok, Sem.run_pure, ih, List.map_cons, hz, Option.getD_some]
def sizedB (P : Program) (t : TypeId) : Bool := match P.underlying t with | some (.struct fs) => fs.toList.all fun f => (sizeN P f.type).isSome && (lit f.offset).isSome | _ => false
/-- a struct's literal -/
theorem Pev.build {parts : List (Nat × Operand)} {z : Value} {cs cs' : List Value} (hz : zeroV P t = some z) (hcs : CellsL z cs) (hb : sizedB P t = true) (hf : Fill l (structPlaces P t) cs parts cs') (hc : c = true) :
    Pev P n l C ⟨d, .build t parts.toArray, ty, pos, af, g⟩ c (.agg cs'.toArray) :=
  .of_run fun h a w hs hw => by
    unfold sizedB at hb
    cases hu : P.underlying t with
    | none => simp [hu] at hb
    | some dd =>
      rw [hu] at hb
      cases dd <;> simp only [Bool.false_eq_true] at hb
      rename_i fs
      have hb2 : ∀ f ∈ fs.toList, (sizeN P f.type).isSome = true ∧ (lit f.offset).isSome = true := fun f hf => by simpa using List.all_eq_true.1 hb f hf
      have hb' : ∀ f ∈ fs.toList, (sizeN P f.type).isSome = true := fun f hf => (hb2 f hf).1
      have hm := mapM_places (P := P) (w := w) fs.toList hb'
      have hrun := hf.run hs
      have hpl : (fun i => (fs.map fun f => (f.offset, (sizeN P f.type).getD 0))[i]?) = structPlaces P t := by
        funext i
        unfold structPlaces
        rw [hu]
        simp only [Array.getElem?_map]
        cases hi : fs[i]? with
        | none => rfl
        | some f =>
          have h1 := hb' f (by simpa using Array.mem_of_getElem? hi)
          have h2 := (hb2 f (by simpa using Array.mem_of_getElem? hi)).2
          cases hz : sizeN P f.type with
          | none => simp [hz] at h1
          | some k =>
            cases ho : lit f.offset with
            | none => simp [ho] at h2
            | some o =>
              simp only [Option.map_some, hz, ho, Option.getD_some]
              rw [lit_eq ho]
      have hm2 : (fs.mapM fun f => do pure (f.offset, ← sizeOf f.type) : Sem (Array (Nat × Nat))).run P w = .ok (fs.map fun f => (f.offset, (sizeN P f.type).getD 0)) w := by
        rw [Array.mapM_eq_mapM_toList, Sem.run_map, hm]
        simp only [Result.andThen_ok]
        congr 1
        rw [← Array.toList_map]
      simp only [execOp, Instr.build, Sem.run_bind, run_zeroV hz, Result.andThen_ok, run_underlying hu, hm2, hcs.eq]
      have hparts : (parts.toArray.map fun p => (p.1, a.eval p.2)).toList = parts.map fun p => (p.1, a.eval p.2) := by simp
      rw [hparts, hpl, hrun]
      rfl
def repL (z : List Value) : Nat → List Value
  | 0 => []
  | k + 1 => z ++ repL z k
/-- one list behind the other -/
inductive App : List Value → List Value → List Value → Prop where
  | nil {l : List Value} : App [] l l
  | cons {x : Value} {c l r : List Value} (h : App c l r) : App (x :: c) l (x :: r)
theorem App.au {c l r : List Value} (h : App c l r := by (repeat (first | apply App.nil | apply App.cons)); first | done | fail) : App c l r := h
theorem App.eq {c l r : List Value} (h : App c l r) : c ++ l = r := by
  induction h with
  | nil => rfl
  | cons _ ih => rw [List.cons_append, ih]
/-- the elements of a slice's literal, each at its place -/
inductive Elems (l : Env) (sz : Nat) : Nat → List (Nat × Operand) → List Value → Prop where
  | nil {i : Nat} : Elems l sz i [] []
  | cons {i : Nat} {x : Operand} {v : Value} {vs cs cs' : List Value} {ps : List (Nat × Operand)} (hx : evl l x = some (true, v)) (hv : CellsL v vs) (hs : vs.length = sz) (r : Elems l sz (i + 1) ps cs) (ha : App vs cs cs') :
      Elems l sz i ((i, x) :: ps) cs'
theorem Elems.au {l : Env} {sz i : Nat} {ps : List (Nat × Operand)} {cs : List Value} (h : Elems l sz i ps cs := by (repeat (first | exact Elems.nil | (apply Elems.cons rfl; (first | exact CellsL.one rfl | exact CellsL.agg); rfl) | exact App.au)); first | done | fail) : Elems l sz i ps cs := h
theorem putL_eq : ∀ (vs l : List Value) (o : Nat), o + vs.length ≤ l.length → putL l o vs = l.take o ++ vs ++ l.drop (o + vs.length)
  | [], l, o, _ => by simp [putL]
  | v :: vs, l, o, h => by
    simp only [List.length_cons] at h
    rw [putL, putL_eq vs _ _ (by simp; omega)]
    have ho : o < l.length := by omega
    rw [List.take_set, List.drop_set]
    simp only [List.length_cons]
    rw [show (if o < o + 1 + vs.length then List.drop (o + 1 + vs.length) l else (List.drop (o + 1 + vs.length) l).set (o - (o + 1 + vs.length)) v) = List.drop (o + (vs.length + 1)) l from by rw [if_pos (by omega)]; congr 1; omega]
    have : (List.take (o + 1) l).set o v = List.take o l ++ [v] := by
      rw [List.take_succ_eq_append_getElem ho, List.set_append_right _ _ (by simp; omega)]
      simp [Nat.min_eq_left (Nat.le_of_lt ho)]
    rw [this]
    simp
theorem Elems.run {a : Act} (hs : Sees n l a) {sz : Nat} {i : Nat} {ps : List (Nat × Operand)} {cs : List Value} (h : Elems l sz i ps cs) :
    ∀ (cells : Array Value), cells.size = (i + ps.length) * sz →
    Instr.fill (fun j => some (j * sz, sz)) cells (ps.map fun p => (p.1, a.eval p.2)) = some (cells.toList.take (i * sz) ++ cs).toArray := by
  induction h with
  | @nil i =>
    intro cells hc
    simp only [List.length_nil, Nat.add_zero] at hc
    rw [← hc, List.take_of_length_le (by simp)]
    simp [Instr.fill]
  | @cons i x v vs cs cs' ps hx hv hsz r ha ih =>
    intro cells hc
    obtain rfl := ha.eq
    simp only [List.length_cons] at hc
    have hle : i * sz + sz ≤ cells.size := by
      rw [hc, ← Nat.succ_mul]
      exact Nat.mul_le_mul_right _ (by omega)
    simp only [List.map_cons, Instr.fill, hs.eval hx rfl, hv.eq]
    rw [if_neg (by simp [hsz]; omega), fold_put_array]
    rw [ih _ (by rw [List.size_toArray, putL_length', Array.length_toList, hc]; congr 1; omega)]
    congr 2
    rw [putL_eq _ _ _ (by simp [hsz]; omega)]
    simp only [hsz]
    have e1 : (cells.toList.take (i * sz)).length = i * sz := by simp; omega
    rw [show (i + 1) * sz = i * sz + sz from by rw [Nat.succ_mul]]
    rw [List.take_append_of_le_length (by simp [hsz]; omega), List.take_append]
    simp [hsz, Nat.min_eq_left (show i * sz ≤ cells.size by omega), List.take_of_length_le]
theorem range_map_size {m : Nat} {f : Nat → Value} : ((Array.range m).map f).size = m := by simp
/-- a slice's literal: a row of the call's own -/
theorem OL.buildSlice {e : TypeId} {sz len dd : Nat} {parts : List (Nat × Operand)} {cs : List Value} (hn : Nat.ble (dd + 1) n.n = true) (hu : slElem P t = some (e, sz)) (hz : (zeroV P e).isSome = true)
    (hp : Elems l sz 0 parts cs) (hlen : parts.length = len) (hl : Nat.ble (len * sz) 16777216 = true)
    (k : ∀ b, AllLe S b → OL P n ops Q rest ((dd, true, .slice (some ⟨b, 0, none⟩) len len) :: l) (Cls (blk b e cs :: H) S)) :
    OL P n ops Q (⟨some dd, .buildSlice t len parts.toArray, ty, pos, af, none⟩ :: rest) l (Cls H S) :=
  OL.new (C' := fun b w => AllLe S b ∧ Cls (blk b e cs :: H) S w) rfl rfl hn (fun b => .slice (some ⟨b, 0, none⟩) len len)
    (fun a w hs hc => ⟨w.heap.size, w.alloc (.cells cs.toArray e), by
      unfold slElem at hu
      cases h1 : P.underlying t with
      | none => simp [h1] at hu
      | some d1 =>
        rw [h1] at hu
        cases d1 <;> simp only [reduceCtorEq] at hu
        rename_i e'
        cases h2 : sizeN P e' with
        | none => simp [h2] at hu
        | some k' =>
          rw [h2] at hu
          simp only [Option.some.injEq, Prod.mk.injEq] at hu
          obtain ⟨rfl, rfl⟩ := hu
          cases hzz : zeroV P e' with
          | none => simp [hzz] at hz
          | some z =>
            have hle := Nat.le_of_ble_eq_true hl
            have hparts : (parts.toArray.map fun p => (p.1, a.eval p.2)).toList = parts.map fun p => (p.1, a.eval p.2) := by simp
            have hfill := fun (cells : Array Value) (hc : cells.size = len * k') => hp.run hs cells (by rw [hlen, Nat.zero_add]; exact hc)
            simp only [execOp, Instr.buildSlice, Sem.run_bind, run_underlying h1, run_sizeN h2, Result.andThen_ok]
            rw [if_neg (by omega)]
            by_cases h0 : len * k' = 0
            · simp only [h0, if_true, Sem.run_pure, Sem.run_bind, Result.andThen_ok, hparts]
              rw [hfill _ (by rw [range_map_size, h0])]
              simp [newRow]
            · simp only [h0, if_false, Sem.run_bind, run_zeroV hzz, Sem.run_pure, Result.andThen_ok, hparts]
              rw [hfill _ range_map_size]
              simp [newRow], AllLe.mk hc, hc.alloc e cs⟩)
    (fun b => ⟨fun a w hs hc => (k b hc.1).run a w hs hc.2⟩)
/-! short forms -/
theorem yes {p : Prop} : p → true = true := fun _ => rfl
section
variable {dd : Nat} {v u r : Value} {K : Act → Prop}
theorem omv (hn : Nat.ble (dd + 1) n.n = true) (hx : evl l x = some (true, v)) (k : OL P n ops Q rest ((dd, true, v) :: l) C) : OL P n ops Q (⟨some dd, .move x, ty, pos, af, none⟩ :: rest) l C := OL.op Guard.none rfl hn (Pev.move hx yes) k
theorem oas (hn : Nat.ble (dd + 1) n.n = true) (hx : evl l x = some (true, v)) (k : OL P n ops Q rest ((dd, true, v) :: l) C) : OL P n ops Q (⟨some dd, .assign x, ty, pos, af, none⟩ :: rest) l C := OL.op Guard.none rfl hn (Pev.assign hx yes) k
theorem obn {op : BinOp} {yt : TypeId} (hn : Nat.ble (dd + 1) n.n = true) (hx : evl l x = some (true, u)) (hy : evl l y = some (true, v)) (hb : Bin P op t u v r) (k : OL P n ops Q rest ((dd, true, r) :: l) C) : OL P n ops Q (⟨some dd, .binOp op t x y yt, ty, pos, af, none⟩ :: rest) l C := OL.op Guard.none rfl hn (Pev.bin hx (fun _ => rfl) hy (fun _ => rfl) (fun _ => hb)) k
theorem ofa {i off b o : Nat} (hn : Nat.ble (dd + 1) n.n = true) (hx : evl l x = some (true, .pointer (some ⟨b, o, none⟩))) (hf : fldAt P t i = some off) (k : OL P n ops Q rest ((dd, true, .pointer (some ⟨b, o + off, none⟩)) :: l) C) : OL P n ops Q (⟨some dd, .fieldAddr t x i, ty, pos, af, none⟩ :: rest) l C := OL.op Guard.none rfl hn (Pev.fld hx (fun _ => rfl) hf) k
theorem old {b o : Nat} {t' : TypeId} {cs : List Value} (hn : Nat.ble (dd + 1) n.n = true) (hx : evl l x = some (true, .pointer (some ⟨b, o, none⟩))) (hp : blk b t' cs ∈ H) (hs : scalB P t = true) (hv : cs[o]? = some v) (k : OL P n ops Q rest ((dd, true, v) :: l) (Cls H S)) : OL P n ops Q (⟨some dd, .load t x, ty, pos, af, none⟩ :: rest) l (Cls H S) := OL.op Guard.none rfl hn (Pev.load_blk hx (fun _ => rfl) hp hs hv) k
theorem oex {vs : List Value} {i : Nat} (hn : Nat.ble (dd + 1) n.n = true) (hx : evl l x = some (true, .tuple vs.toArray)) (hv : vs[i]? = some v) (k : OL P n ops Q rest ((dd, true, v) :: l) C) : OL P n ops Q (⟨some dd, .extract x i, ty, pos, af, none⟩ :: rest) l C := OL.op Guard.none rfl hn (Pev.extract hx (fun _ => rfl) hv) k
theorem qmv (hn : Nat.ble (dd + 1) n.n = true) (hx : evl l x = some (true, v)) (k : QL P n ops C K rest ((dd, true, v) :: l)) : QL P n ops C K (⟨some dd, .move x, ty, pos, af, none⟩ :: rest) l := QL.op Guard.none rfl hn (Pev.move hx yes) k
theorem qas (hn : Nat.ble (dd + 1) n.n = true) (hx : evl l x = some (true, v)) (k : QL P n ops C K rest ((dd, true, v) :: l)) : QL P n ops C K (⟨some dd, .assign x, ty, pos, af, none⟩ :: rest) l := QL.op Guard.none rfl hn (Pev.assign hx yes) k
theorem qbn {op : BinOp} {yt : TypeId} (hn : Nat.ble (dd + 1) n.n = true) (hx : evl l x = some (true, u)) (hy : evl l y = some (true, v)) (hb : Bin P op t u v r) (k : QL P n ops C K rest ((dd, true, r) :: l)) : QL P n ops C K (⟨some dd, .binOp op t x y yt, ty, pos, af, none⟩ :: rest) l := QL.op Guard.none rfl hn (Pev.bin hx (fun _ => rfl) hy (fun _ => rfl) (fun _ => hb)) k
theorem qfa {i off b o : Nat} (hn : Nat.ble (dd + 1) n.n = true) (hx : evl l x = some (true, .pointer (some ⟨b, o, none⟩))) (hf : fldAt P t i = some off) (k : QL P n ops C K rest ((dd, true, .pointer (some ⟨b, o + off, none⟩)) :: l)) : QL P n ops C K (⟨some dd, .fieldAddr t x i, ty, pos, af, none⟩ :: rest) l := QL.op Guard.none rfl hn (Pev.fld hx (fun _ => rfl) hf) k
theorem qld {b o : Nat} {t' : TypeId} {cs : List Value} (hn : Nat.ble (dd + 1) n.n = true) (hx : evl l x = some (true, .pointer (some ⟨b, o, none⟩))) (hp : blk b t' cs ∈ H) (hs : scalB P t = true) (hv : cs[o]? = some v) (k : QL P n ops (Cls H S) K rest ((dd, true, v) :: l)) : QL P n ops (Cls H S) K (⟨some dd, .load t x, ty, pos, af, none⟩ :: rest) l := QL.op Guard.none rfl hn (Pev.load_blk hx (fun _ => rfl) hp hs hv) k
end
end
end Go.Eng

/- Rules for strings and bytes: parts of a string, an array taken as a slice, bytes made a string. General. No condition. -/
namespace Go.Eng
open Go.RowKit
def byteCell (x : UInt8) : Value := .int .u8 x.toNat
section
variable {P : Program} {n : Nm} {l : Env} {H : List Item} {S : List World} {C : World → Prop} {c : Bool} {d : Option Nat} {ty : TypeId} {pos : String} {af : Array Edge} {g : Option (Nat × Bool)}
variable {t : TypeId} {x y z : Operand} {cx cy cz : Bool}
theorem Pev.sliceArr {b o len sz : Nat} (hx : evl l x = some (cx, .pointer (some ⟨b, o, none⟩))) (hc : c = true → cx = true) (hu : arrElem P t = some (len, sz)) (hl : Nat.beq len 0 = false) :
    Pev P n l C ⟨d, .slice t x none none none, ty, pos, af, g⟩ c (.slice (some ⟨b, o, none⟩) len len) :=
  .of_run fun h a w hs hw => by
    unfold arrElem at hu
    cases hq : P.underlying t with
    | none => simp [hq] at hu
    | some d1 =>
      rw [hq] at hu
      cases d1 <;> simp only [reduceCtorEq] at hu
      rename_i len' e'
      cases h3 : sizeN P e' with
      | none => simp [h3] at hu
      | some k' =>
        rw [h3] at hu
        simp only [Option.some.injEq, Prod.mk.injEq] at hu
        obtain ⟨rfl, rfl⟩ := hu
        have hne : len' ≠ 0 := fun e => by rw [e] at hl; cases hl
        simp only [execOp, hs.eval hx (hc h), Instr.sliceAt, Instr.sureAddr, Sem.run_bind, Sem.run_pure, Result.andThen_ok, run_underlying hq, run_sizeN h3, Instr.sliceBounds, Option.map_none]
        simp [hne, add_zero_]
theorem run_slice_str {w : World} {s : ByteArray} {lo hi : Nat} {kl kh : IntKind} (hu : strB P t = true) (h1 : lo ≤ hi) (h2 : hi ≤ s.size) :
    (Instr.sliceAt t (.string s) (some (.int kl (lo : Int))) (some (.int kh (hi : Int))) none).run P w = .ok (.string (s.extract lo hi)) w := by
  unfold strB at hu
  cases hq : P.underlying t with
  | none => simp [hq] at hu
  | some d1 =>
    rw [hq] at hu
    cases d1 <;> simp at hu
    simp [Instr.sliceAt, Instr.slice, run_underlying hq, Instr.sliceBounds, Instr.sliceBound, asIntOf, h1, h2]
theorem run_slice_str_lo {w : World} {s : ByteArray} {lo : Nat} {kl : IntKind} (hu : strB P t = true) (h1 : lo ≤ s.size) :
    (Instr.sliceAt t (.string s) (some (.int kl (lo : Int))) none none).run P w = .ok (.string (s.extract lo s.size)) w := by
  unfold strB at hu
  cases hq : P.underlying t with
  | none => simp [hq] at hu
  | some d1 =>
    rw [hq] at hu
    cases d1 <;> simp at hu
    simp [Instr.sliceAt, Instr.slice, run_underlying hq, Instr.sliceBounds, Instr.sliceBound, asIntOf, h1]
theorem run_slice_str_hi {w : World} {s : ByteArray} {hi : Nat} {kh : IntKind} (hu : strB P t = true) (h1 : hi ≤ s.size) :
    (Instr.sliceAt t (.string s) none (some (.int kh (hi : Int))) none).run P w = .ok (.string (s.extract 0 hi)) w := by
  unfold strB at hu
  cases hq : P.underlying t with
  | none => simp [hq] at hu
  | some d1 =>
    rw [hq] at hu
    cases d1 <;> simp at hu
    simp [Instr.sliceAt, Instr.slice, run_underlying hq, Instr.sliceBounds, Instr.sliceBound, asIntOf, h1]
theorem Pev.slice_str {s : ByteArray} {kl kh : IntKind} {i j : Int} (lo hi : Nat) (hx : evl l x = some (cx, .string s)) (hcx : c = true → cx = true) (hy : evl l y = some (cy, .int kl i)) (hcy : c = true → cy = true) (hz : evl l z = some (cz, .int kh j)) (hcz : c = true → cz = true)
    (hu : strB P t = true) (hb : c = true → i = lo ∧ j = hi ∧ lo ≤ hi ∧ hi ≤ s.size) : Pev P n l C ⟨d, .slice t x (some y) (some z) none, ty, pos, af, g⟩ c (.string (s.extract lo hi)) :=
  .of_run fun h a w hs hw => by
    obtain ⟨rfl, rfl, h1, h2⟩ := hb h
    simp only [execOp, hs.eval hx (hcx h), Option.map_some, Option.map_none, hs.eval hy (hcy h), hs.eval hz (hcz h), Sem.run_bind, run_slice_str hu h1 h2, Result.andThen_ok]; rfl
theorem Pev.slice_str_lo {s : ByteArray} {kl : IntKind} {i : Int} (lo : Nat) (hx : evl l x = some (cx, .string s)) (hcx : c = true → cx = true) (hy : evl l y = some (cy, .int kl i)) (hcy : c = true → cy = true)
    (hu : strB P t = true) (hb : c = true → i = lo ∧ lo ≤ s.size) : Pev P n l C ⟨d, .slice t x (some y) none none, ty, pos, af, g⟩ c (.string (s.extract lo s.size)) :=
  .of_run fun h a w hs hw => by
    obtain ⟨rfl, h1⟩ := hb h
    simp only [execOp, hs.eval hx (hcx h), Option.map_some, Option.map_none, hs.eval hy (hcy h), Sem.run_bind, run_slice_str_lo hu h1, Result.andThen_ok]; rfl
theorem Pev.slice_str_hi {s : ByteArray} {kh : IntKind} {j : Int} (hi : Nat) (hx : evl l x = some (cx, .string s)) (hcx : c = true → cx = true) (hz : evl l z = some (cz, .int kh j)) (hcz : c = true → cz = true)
    (hu : strB P t = true) (hb : c = true → j = hi ∧ hi ≤ s.size) : Pev P n l C ⟨d, .slice t x none (some z) none, ty, pos, af, g⟩ c (.string (s.extract 0 hi)) :=
  .of_run fun h a w hs hw => by
    obtain ⟨rfl, h1⟩ := hb h
    simp only [execOp, hs.eval hx (hcx h), Option.map_some, Option.map_none, hs.eval hz (hcz h), Sem.run_bind, run_slice_str_hi hu h1, Result.andThen_ok]; rfl
def bytesB (P : Program) (t : TypeId) : Bool := match P.underlying t with
  | some (.slice e) => match P.underlying e with
    | some (.int .u8) => true
    | _ => false
  | _ => false
theorem run_bytes_string {src dst : TypeId} {w : World} {a : Addr} {cap : Nat} {xs : List UInt8} (hs : bytesB P src = true) (hd : strB P dst = true) (hc : CellsAt w a (xs.map byteCell)) :
    (convert src dst (.slice (some a) xs.length cap)).run P w = .ok (.string ⟨xs.toArray⟩) w := by
  unfold bytesB at hs
  unfold strB at hd
  cases h1 : P.underlying src with
  | none => simp [h1] at hs
  | some d1 =>
    rw [h1] at hs
    cases d1 <;> simp only [Bool.false_eq_true] at hs
    rename_i e
    cases h2 : P.underlying e with
    | none => simp [h2] at hs
    | some d2 =>
      cases h3 : P.underlying dst with
      | none => simp [h3] at hd
      | some d3 =>
        rw [h3] at hd
        cases d3 <;> simp only [Bool.false_eq_true] at hd
        have he : P.underlying e = some (.int .u8) := by
          rw [h2]
          simp only [h2] at hs
          split at hs
          · rename_i hq; exact hq
          · cases hs
        have hl := run_loadCells_list (P := P) w a (xs.map byteCell) hc
        rw [List.length_map] at hl
        simp only [convert, Sem.run_bind, run_underlying h1, run_underlying h3, Result.andThen_ok, run_underlying he]
        rw [run_bytesToString (P := P) w a xs.length cap (xs.map fun x => (x.toNat : Int)) (by
          rw [hl]; congr 2; simp [byteCell, Function.comp_def])]
        congr 2
        have key : ∀ (ys : List UInt8) (r : ByteArray), (ys.map fun x => (x.toNat : Int)).foldl (fun r n => r.push (UInt8.ofNat n.toNat)) r = ⟨(r.data.toList ++ ys).toArray⟩ := by
          intro ys
          induction ys with
          | nil => intro r; simp
          | cons y ys ih =>
            intro r
            simp only [List.map_cons, List.foldl_cons, ih]
            congr 1
            simp [ByteArray.push]
        rw [key]
        rfl
theorem Pev.bytes_string {src dst : TypeId} {b o cap : Nat} {t' : TypeId} {cs : List Value} {xs : List UInt8} (hx : evl l x = some (cx, .slice (some ⟨b, o, none⟩) xs.length cap)) (hc : c = true → cx = true)
    (hp : blk b t' cs ∈ H) (hs : bytesB P src = true) (hd : strB P dst = true) (hcs : ∀ j, j < xs.length → cs[o + j]? = (xs.map byteCell)[j]?) :
    Pev P n l (Cls H S) ⟨d, .convert src dst x, ty, pos, af, g⟩ c (.string ⟨xs.toArray⟩) :=
  .of_run fun h a w hs' hw => by
    have hcell : CellsAt w ⟨b, o, none⟩ (xs.map byteCell) := fun j v hj => by
      have hjl : j < xs.length := by
        have := (List.getElem?_eq_some_iff.1 hj).1
        simpa using this
      rw [add_mid, blk_cell (hw.item hp), hcs j hjl]; exact hj
    simp only [execOp, hs'.eval hx (hc h), Sem.run_bind, run_bytes_string hs hd hcell, Result.andThen_ok]; rfl
theorem Bin.shr64 {k : IntKind} {yk : IntKind} {a b : Int} (hk : k.bits = 64) (h : 0 ≤ b ∧ b ≤ 64) : Bin P .shr t (.int k a) (.int yk b) (.int k (a / 2 ^ b.toNat)) := Bin.shr ⟨h.1, by rw [hk]; exact h.2⟩
end
end Go.Eng

/- Places in a text: lines, starts of lines, the search for a place. No program in sight. No condition. -/
namespace Go.Sp
open Go.Eng
def badI (x : Int) : Bool := !decide (x = 10) && (decide (x < 32) || decide (126 < x))
def badL (l : List UInt8) : Bool := l.any fun c => badI (c.toNat : Int)
/-- what Check tells -/
def chk (s : ByteArray) : Int := if 8192 < s.size then 2 else if badL s.data.toList then 5 else 0
theorem bt_get {s : ByteArray} {i : Nat} (h : i < s.size) : ∃ c : UInt8, s.data.toList[i]? = some c ∧ bt s i = (c.toNat : Int) := by
  have hl : i < s.data.toList.length := by rw [Array.length_toList]; exact h
  refine ⟨s.data.toList[i], List.getElem?_eq_getElem hl, ?_⟩
  unfold bt
  rw [List.getD_eq_getElem?_getD, List.getElem?_eq_getElem hl]; rfl
theorem badL_step {s : ByteArray} {i : Nat} (h : i < s.size) : badL (s.data.toList.drop i) = (badI (bt s i) || badL (s.data.toList.drop (i + 1))) := by
  obtain ⟨c, h1, h2⟩ := bt_get h
  have hl := (List.getElem?_eq_some_iff.1 h1).1
  rw [h2, List.drop_eq_getElem_cons hl]
  rw [List.getElem?_eq_getElem hl] at h1
  rw [Option.some.inj h1]; rfl
theorem badL_end {s : ByteArray} {i : Nat} (h : s.size ≤ i) : badL (s.data.toList.drop i) = false := by
  rw [List.drop_eq_nil_of_le (by rw [Array.length_toList]; exact h)]; rfl
/-! places -/
def pl (s : ByteArray) : Nat → Int × Int
  | 0 => (1, 1)
  | i + 1 => if bt s i = 10 then ((pl s i).1 + 1, 1) else ((pl s i).1, (pl s i).2 + 1)
theorem pl_bound (s : ByteArray) : ∀ i, 1 ≤ (pl s i).1 ∧ (pl s i).1 ≤ i + 1 ∧ 1 ≤ (pl s i).2 ∧ (pl s i).2 ≤ i + 1
  | 0 => by simp [pl]
  | i + 1 => by
    have := pl_bound s i
    unfold pl
    split <;> simp only <;> omega
theorem lastIdx_cut (s : ByteArray) (c : Int) (m : Nat) (hm : m ≤ s.size) : ∀ i, i ≤ m → Lib.lastIdx (s.extract 0 m) c i = Lib.lastIdx s c i
  | 0, _ => rfl
  | i + 1, h => by
    unfold Lib.lastIdx
    have e : (s.extract 0 m).data[i]! = s.data[i]! := by
      have h1 : i < (s.extract 0 m).data.size := by simp [ByteArray.data_extract]; omega
      rw [getElem!_pos _ i h1, getElem!_pos s.data i (by have : s.size = s.data.size := rfl; omega)]
      simp [ByteArray.data_extract]
    rw [e, lastIdx_cut s c m hm i (by omega)]
theorem bt_bang {s : ByteArray} {i : Nat} (h : i < s.size) : ((s.data[i]!).toNat : Int) = bt s i := by
  obtain ⟨c, h1, h2⟩ := bt_get h
  rw [h2]
  rw [Array.getElem?_toList] at h1
  have hl : i < s.data.size := h
  rw [getElem!_pos s.data i hl]
  rw [Array.getElem?_eq_getElem hl] at h1
  rw [Option.some.inj h1]
theorem pl_col (s : ByteArray) : ∀ i, i ≤ s.size → (pl s i).2 = (i : Int) - Lib.lastIdx s 10 i
  | 0, _ => rfl
  | i + 1, h => by
    unfold pl Lib.lastIdx
    rw [bt_bang (by omega)]
    have := pl_col s i (by omega)
    split <;> simp only <;> omega
theorem count_step {s : ByteArray} {i : Nat} (h : i < s.size) : (s.data.toList.take (i + 1)).count 10 = (s.data.toList.take i).count 10 + if bt s i = 10 then 1 else 0 := by
  obtain ⟨c, h1, h2⟩ := bt_get h
  rw [List.take_add_one, h1, List.count_append]
  congr 1
  simp only [Option.toList, List.count_singleton, h2]
  by_cases hc : c = 10
  · subst hc; rfl
  · rw [if_neg (by simpa using hc), if_neg]
    intro e
    exact hc (UInt8.toNat_inj.1 (by have : (10 : UInt8).toNat = 10 := rfl; omega))
theorem pl_line (s : ByteArray) : ∀ i, i ≤ s.size → (pl s i).1 = 1 + ((s.data.toList.take i).count 10 : Nat)
  | 0, _ => rfl
  | i + 1, h => by
    have := pl_line s i (by omega)
    rw [count_step (by omega)]
    unfold pl
    split <;> simp only <;> omega
/-! the search for a place -/
def sc (ln co : Int) : List UInt8 → Int → Int → Int → Int
  | [], x, y, i => if x = ln ∧ y = co then i else -1
  | c :: l, x, y, i => if x = ln ∧ y = co then i else if c = 10 then sc ln co l (x + 1) 1 (i + 1) else sc ln co l x (y + 1) (i + 1)
/-- the lines -/
def lns : List UInt8 → List (List UInt8)
  | [] => [[]]
  | c :: l => if c = 10 then [] :: lns l else match lns l with
    | h :: t => (c :: h) :: t
    | [] => [[c]]
theorem lns_cons (l : List UInt8) : ∃ h t, lns l = h :: t := by
  cases l with
  | nil => exact ⟨_, _, rfl⟩
  | cons c l =>
    unfold lns
    split
    · exact ⟨_, _, rfl⟩
    · split <;> exact ⟨_, _, rfl⟩
/-- where a line begins -/
def starts : List UInt8 → Nat → Nat
  | _, 0 => 0
  | [], _ + 1 => 0
  | c :: l, k + 1 => if c = 10 then starts l k + 1 else starts l (k + 1) + 1
def an (l : List UInt8) (k : Nat) (y co i : Int) : Int := match (lns l)[k]? with
  | none => -1
  | some t => if (if k = 0 then y else 1) ≤ co ∧ co ≤ (if k = 0 then y else 1) + t.length then i + starts l k + (co - (if k = 0 then y else 1)) else -1
theorem sc_far (ln co : Int) : ∀ (l : List UInt8) (x y i : Int), ln < x → sc ln co l x y i = -1
  | [], x, y, i, h => by unfold sc; rw [if_neg (by omega)]
  | c :: l, x, y, i, h => by
    unfold sc
    rw [if_neg (by omega)]
    split
    · exact sc_far ln co l _ _ _ (by omega)
    · exact sc_far ln co l _ _ _ h
theorem sc_an (ln co : Int) : ∀ (l : List UInt8) (x y i : Int) (k : Nat), ln = x + k → sc ln co l x y i = an l k y co i
  | [], x, y, i, 0, h => by
    unfold sc an
    simp only [lns, List.getElem?_cons_zero, starts, List.length_nil, if_true]
    split <;> split <;> omega
  | [], x, y, i, k + 1, h => by
    unfold sc an
    simp only [lns, List.getElem?_cons_succ, List.getElem?_nil]
    rw [if_neg (by omega)]
  | c :: l, x, y, i, k, h => by
    unfold sc an
    by_cases hc : c = 10
    · subst hc
      simp only [lns, if_true]
      cases k with
      | zero =>
        rw [sc_far ln co l (x + 1) 1 (i + 1) (by omega)]
        simp only [List.getElem?_cons_zero, starts, List.length_nil, if_true]
        split <;> split <;> omega
      | succ k =>
        rw [if_neg (by omega), sc_an ln co l (x + 1) 1 (i + 1) k (by omega)]
        unfold an
        simp only [List.getElem?_cons_succ, starts, if_true]
        have e : (if k = 0 then (1 : Int) else 1) = 1 := by split <;> rfl
        have e2 : (if k + 1 = 0 then y else 1) = 1 := if_neg (by omega)
        rw [e, e2]
        cases (lns l)[k]? with
        | none => rfl
        | some t => simp only; split <;> omega
    · obtain ⟨hd, tl, e⟩ := lns_cons l
      simp only [lns, if_neg hc, e]
      rw [sc_an ln co l x (y + 1) (i + 1) k h]
      unfold an
      rw [e]
      cases k with
      | zero =>
        simp only [List.getElem?_cons_zero, starts, List.length_cons, if_true]
        split <;> split <;> (try split) <;> omega
      | succ k =>
        simp only [List.getElem?_cons_succ, starts, if_neg hc]
        rw [if_neg (by omega)]
        rw [if_neg (show ¬ k + 1 = 0 by omega), if_neg (show ¬ k + 1 = 0 by omega)]
        cases tl[k]? with
        | none => rfl
        | some t => simp only; split <;> omega
theorem ib_cons (c : UInt8) (l : List UInt8) (hc : c ≠ 10) (h : 10 ∈ l) : Lib.indexByte (c :: l) 10 = Lib.indexByte l 10 + 1 := by
  have h2 : Lib.indexByte l 10 ≠ -1 := by
    clear hc
    induction l with
    | nil => cases h
    | cons b l ih =>
      unfold Lib.indexByte
      by_cases hb : b = 10
      · simp [hb]
      · have hm : (10 : UInt8) ∈ l := by
          rcases List.mem_cons.1 h with h | h
          · exact absurd h.symm hb
          · exact h
        have := ih hm
        have hge := Lib.indexByte_ge l 10
        simp only [beq_iff_eq, hb, this, if_false]
        omega
  conv => lhs; unfold Lib.indexByte
  simp [hc, h2]
theorem lns_long : ∀ (l : List UInt8), 1 < (lns l).length → 10 ∈ l
  | [], h => by simp [lns] at h
  | c :: l, h => by
    by_cases hc : c = 10
    · rw [hc]; exact .head _
    · obtain ⟨hd, tl, e⟩ := lns_cons l
      simp only [lns, if_neg hc, e, List.length_cons] at h
      exact .tail _ (lns_long l (by rw [e]; simpa using h))
theorem starts_step : ∀ (l : List UInt8) (k : Nat), k + 1 < (lns l).length → (starts l (k + 1) : Int) = starts l k + (Lib.indexByte (l.drop (starts l k)) 10 + 1)
  | [], k, h => by simp [lns] at h
  | c :: l, k, h => by
    by_cases hc : c = 10
    · subst hc
      simp only [lns, if_true, List.length_cons] at h
      cases k with
      | zero => simp [starts, Lib.indexByte]
      | succ k =>
        have ih := starts_step l k (by omega)
        simp only [starts, if_true, List.drop_succ_cons]
        omega
    · obtain ⟨hd, tl, e⟩ := lns_cons l
      simp only [lns, if_neg hc, e, List.length_cons] at h
      have ih := starts_step l k (by rw [e]; simpa using h)
      cases k with
      | zero =>
        have hm := lns_long l (by rw [e]; simpa using h)
        have h3 : starts (c :: l) 0 = 0 := rfl
        have h4 : starts l 0 = 0 := by cases l <;> rfl
        rw [h3, List.drop_zero, ib_cons c l hc hm]
        rw [h4, List.drop_zero] at ih
        simp only [starts, if_neg hc]
        omega
      | succ k =>
        simp only [starts, if_neg hc, List.drop_succ_cons]
        omega
theorem starts_le : ∀ (l : List UInt8) (k : Nat), starts l k ≤ l.length
  | _, 0 => by simp [starts]
  | [], k + 1 => by simp [starts]
  | c :: l, k + 1 => by
    have h1 := starts_le l k
    have h2 := starts_le l (k + 1)
    simp only [starts, List.length_cons]
    split <;> omega
/-! the pieces -/
theorem lns_miss : ∀ (l : List UInt8), Lib.index l [10] = -1 → lns l = [l]
  | [], _ => rfl
  | c :: l, h => by
    rw [Lib.index] at h
    by_cases hc : c = 10
    · subst hc; simp [List.isPrefixOf] at h
    · have hp : ([10] : List UInt8).isPrefixOf (c :: l) = false := by simp [List.isPrefixOf, Ne.symm hc]
      rw [hp] at h
      have hge := Lib.index_ge l [10]
      have h2 : Lib.index l [10] = -1 := by
        by_cases e : Lib.index l [10] = -1
        · exact e
        · simp [e] at h; try omega
      simp only [lns, if_neg hc, lns_miss l h2]
theorem lns_hit : ∀ (l : List UInt8) (j : Nat), Lib.index l [10] = (j : Int) → lns l = l.take j :: lns (l.drop (j + 1))
  | [], j, h => by simp [Lib.index] at h; try omega
  | c :: l, j, h => by
    rw [Lib.index] at h
    by_cases hc : c = 10
    · subst hc
      simp [List.isPrefixOf] at h
      obtain rfl : j = 0 := by omega
      simp [lns]
    · have hp : ([10] : List UInt8).isPrefixOf (c :: l) = false := by simp [List.isPrefixOf, Ne.symm hc]
      rw [hp] at h
      have hge := Lib.index_ge l [10]
      by_cases e : Lib.index l [10] = -1
      · simp [e] at h; try omega
      · simp [e] at h
        obtain ⟨j', rfl⟩ : ∃ j', j = j' + 1 := ⟨j - 1, by omega⟩
        have ih := lns_hit l j' (by omega)
        rw [lns, if_neg hc, ih, List.take_succ_cons, List.drop_succ_cons]
theorem split_lns : ∀ (k : Nat) (l : List UInt8), Lib.count l [10] = k → Lib.splitK [10] 0 k l = lns l
  | 0, l, h => by
    rw [Lib.splitK]
    by_cases e : Lib.index l [10] = -1
    · exact (lns_miss l e).symm
    · have hge := Lib.index_ge l [10]
      obtain ⟨j, hj⟩ : ∃ j : Nat, Lib.index l [10] = j := ⟨(Lib.index l [10]).toNat, by omega⟩
      rw [Lib.count_hit (by simp) hj] at h
      omega
  | k + 1, l, h => by
    rw [Lib.splitK]
    by_cases e : Lib.index l [10] = -1
    · rw [Lib.count_miss e] at h; omega
    · have hge := Lib.index_ge l [10]
      obtain ⟨j, hj⟩ : ∃ j : Nat, Lib.index l [10] = j := ⟨(Lib.index l [10]).toNat, by omega⟩
      have h' : Lib.count l [10] = 1 + Lib.count (l.drop (j + 1)) [10] := Lib.count_hit (by simp) hj
      rw [if_neg (by simpa using e), hj, Int.toNat_natCast, Nat.add_zero, lns_hit l j hj]
      congr 1
      exact split_lns k (l.drop (j + 1)) (by omega)
def nl : ByteArray := ⟨#[10]⟩
def pcs (s : ByteArray) : List ByteArray := Lib.splitB nl 0 (Lib.countB s nl) s
theorem pcs_lns (s : ByteArray) : (pcs s).map (·.data.toList) = lns s.data.toList := by
  unfold pcs
  rw [Lib.splitB_data]
  exact split_lns _ _ rfl
theorem pcs_len (s : ByteArray) : (pcs s).length = Lib.countB s nl + 1 := Lib.splitB_all nl (by decide) 0 _ s rfl
theorem countB_bound (s : ByteArray) : Lib.countB s nl ≤ s.size := Lib.countB_le nl (by decide) s.size s (Nat.le_refl _)
theorem lns_at {s : ByteArray} {k : Nat} {t : ByteArray} (h : (pcs s)[k]? = some t) : (lns s.data.toList)[k]? = some t.data.toList := by
  rw [← pcs_lns, List.getElem?_map, h]; rfl
theorem lns_no {s : ByteArray} {k : Nat} (h : (pcs s).length ≤ k) : (lns s.data.toList)[k]? = none := by
  rw [← pcs_lns, List.getElem?_map, List.getElem?_eq_none h]; rfl
theorem lns_len (s : ByteArray) : (lns s.data.toList).length = (pcs s).length := by rw [← pcs_lns, List.length_map]
theorem piece_le : ∀ (l : List UInt8) (k : Nat) (t : List UInt8), (lns l)[k]? = some t → starts l k + t.length ≤ l.length
  | [], k, t, h => by
    cases k with
    | zero => simp [lns] at h; subst h; simp [starts]
    | succ k => simp [lns] at h
  | c :: l, k, t, h => by
    by_cases hc : c = 10
    · subst hc
      simp only [lns, if_true] at h
      cases k with
      | zero => simp at h; subst h; simp [starts]
      | succ k =>
        have := piece_le l k t (by simpa using h)
        simp only [starts, if_true, List.length_cons]; omega
    · obtain ⟨hd, tl, e⟩ := lns_cons l
      simp only [lns, if_neg hc, e] at h
      cases k with
      | zero =>
        have := piece_le l 0 hd (by rw [e]; rfl)
        have h4 : starts l 0 = 0 := by cases l <;> rfl
        simp at h; subst h
        simp only [starts, List.length_cons]; omega
      | succ k =>
        have := piece_le l (k + 1) t (by rw [e]; simpa using h)
        simp only [starts, if_neg hc, List.length_cons]; omega
/-! what the functions give -/
def placeV (s : ByteArray) (at_ : Int) : Int × Int × Int :=
  if chk s ≠ 0 then (0, 0, chk s) else if at_ < 0 ∨ (s.size : Int) < at_ then (0, 0, 4) else ((pl s at_.toNat).1, (pl s at_.toNat).2, 0)
def lineOK (s : ByteArray) (ln : Int) : Bool := decide (1 ≤ ln) && decide (ln ≤ (pcs s).length)
def offV (s : ByteArray) (ln co : Int) : Int × Int :=
  if chk s ≠ 0 then (0, chk s) else if sc ln co s.data.toList 1 1 0 < 0 then (0, 4) else (sc ln co s.data.toList 1 1 0, 0)
theorem sc_pieces {s t : ByteArray} {ln co : Int} (h1 : 1 ≤ ln) (h : (pcs s)[(ln - 1).toNat]? = some t) :
    sc ln co s.data.toList 1 1 0 = if 1 ≤ co ∧ co ≤ 1 + (t.size : Int) then (starts s.data.toList (ln - 1).toNat : Int) + (co - 1) else -1 := by
  rw [sc_an ln co s.data.toList 1 1 0 (ln - 1).toNat (by omega)]
  unfold an
  rw [lns_at h]
  have e : (if (ln - 1).toNat = 0 then (1 : Int) else 1) = 1 := by split <;> rfl
  simp only [e, Array.length_toList]
  have e2 : t.data.size = t.size := rfl
  rw [e2]
  split <;> omega
theorem sc_none {s : ByteArray} {ln co : Int} (h : ln < 1 ∨ ((pcs s).length : Int) < ln) : sc ln co s.data.toList 1 1 0 = -1 := by
  rcases Int.lt_or_le ln 1 with h1 | h1
  · exact sc_far ln co _ _ _ _ h1
  · rw [sc_an ln co s.data.toList 1 1 0 (ln - 1).toNat (by omega)]
    unfold an
    rw [lns_no (by omega)]
end Go.Sp

/- Plain: a text's tokens are those of its lines; values of digits; the class of a byte. No program in sight. No condition. -/
namespace Go.Lt
open Go.Sp
variable {key : Bs → Bool} {z : Bool}
def linesR (key : Bs → Bool) (z : Bool) : List Bs → Int → Res
  | [], line => ⟨[], [], line, 1⟩
  | [x], line => scan key z x line 1
  | x :: y :: r, line => (scan key z x line 1).app (linesR key z (y :: r) (line + 1))
theorem lns_no10 : ∀ (l : Bs), ∀ x ∈ lns l, (10 : UInt8) ∉ x
  | [], x, hx => by
    rw [lns, List.mem_singleton] at hx
    rw [hx]
    exact List.not_mem_nil
  | c :: l, x, hx => by
    have ih := lns_no10 l
    unfold lns at hx
    by_cases hc : c = 10
    · rw [if_pos hc] at hx
      rcases List.mem_cons.1 hx with rfl | hx
      · exact List.not_mem_nil
      · exact ih x hx
    · rw [if_neg hc] at hx
      obtain ⟨h, t, e⟩ := lns_cons l
      rw [e] at hx ih
      rcases List.mem_cons.1 hx with rfl | hx
      · intro hm
        rcases List.mem_cons.1 hm with hm | hm
        · exact hc hm.symm
        · exact ih h (.head _) hm
      · exact ih x (.tail _ hx)
/-- the first line, and the rest -/
theorem lns_first : ∀ (l : Bs), (lns l = [l] ∧ (10 : UInt8) ∉ l) ∨ ∃ x r, l = x ++ 10 :: r ∧ lns l = x :: lns r ∧ (10 : UInt8) ∉ x
  | [] => .inl ⟨rfl, List.not_mem_nil⟩
  | c :: l => by
    by_cases hc : c = 10
    · subst hc
      exact .inr ⟨[], l, rfl, by rw [lns, if_pos rfl], List.not_mem_nil⟩
    · rcases lns_first l with ⟨h1, h2⟩ | ⟨x, r, h1, h2, h3⟩
      · refine .inl ⟨?_, fun hm => ?_⟩
        · rw [show lns (c :: l) = (if c = 10 then [] :: lns l else match lns l with | h :: t => (c :: h) :: t | [] => [[c]]) from rfl, if_neg hc, h1]
        · rcases List.mem_cons.1 hm with hm | hm
          · exact hc hm.symm
          · exact h2 hm
      · refine .inr ⟨c :: x, r, by rw [h1]; rfl, ?_, fun hm => ?_⟩
        · rw [show lns (c :: l) = (if c = 10 then [] :: lns l else match lns l with | h :: t => (c :: h) :: t | [] => [[c]]) from rfl, if_neg hc, h2]
        · rcases List.mem_cons.1 hm with hm | hm
          · exact hc hm.symm
          · exact h3 hm
theorem scan_lns : ∀ (k : Nat) (l : Bs) (line : Int), l.length ≤ k → scan key z l line 1 = linesR key z (lns l) line := by
  intro k
  induction k with
  | zero =>
    intro l line h
    cases l with
    | nil => rfl
    | cons c r => simp at h
  | succ k ih =>
    intro l line h
    rcases lns_first l with ⟨h1, h2⟩ | ⟨x, r, h1, h2, h3⟩
    · rw [h1]
      rfl
    · rw [h2, h1, scan_line x.length x r line 1 (Nat.le_refl _) h3]
      obtain ⟨y, t, e⟩ := lns_cons r
      rw [ih r (line + 1) (by rw [h1] at h; simp at h; omega), e]
      rfl
/-! values of digits -/
theorem numV_snoc (l : Bs) (c : UInt8) : numV (l ++ [c]) = 10 * numV l + (c.toNat - 48) := by
  unfold numV
  rw [List.foldl_append]
  rfl
/-- the program's value: held at the greatest word and one -/
def numP (l : Bs) : Nat := l.foldl (fun a c => min (10 * a + (c.toNat - 48)) 1073741824) 0
theorem numP_snoc (l : Bs) (c : UInt8) : numP (l ++ [c]) = min (10 * numP l + (c.toNat - 48)) 1073741824 := by
  unfold numP
  rw [List.foldl_append]
  rfl
theorem fold_eq : ∀ (l : Bs) (a : Nat), l.foldl (fun a c => min (10 * a + (c.toNat - 48)) 1073741824) (min a 1073741824) = min (l.foldl (fun a c => 10 * a + (c.toNat - 48)) a) 1073741824
  | [], a => rfl
  | c :: r, a => by
    rw [List.foldl_cons, List.foldl_cons, ← fold_eq r (10 * a + (c.toNat - 48))]
    congr 1
    omega
theorem numP_eq (l : Bs) : numP l = min (numV l) 1073741824 := fold_eq l 0
theorem fold_ge : ∀ (l : Bs) (a : Nat), a * 10 ^ l.length ≤ l.foldl (fun a c => 10 * a + (c.toNat - 48)) a
  | [], a => by simp
  | c :: r, a => by
    rw [List.foldl_cons, List.length_cons]
    refine Nat.le_trans ?_ (fold_ge r _)
    rw [Nat.pow_succ, Nat.mul_comm (10 ^ r.length) 10, ← Nat.mul_assoc, Nat.mul_comm a 10]
    exact Nat.mul_le_mul_right _ (Nat.le_add_right _ _)
/-- without noughts ahead -/
theorem numV_drop : ∀ l : Bs, numV (l.dropWhile fun c => decide (c = 48)) = numV l
  | [] => rfl
  | c :: r => by
    rw [List.dropWhile_cons]
    by_cases hc : c = 48
    · subst hc
      rw [if_pos (by simp), numV_drop r]
      rfl
    · rw [if_neg (by simp [hc])]
theorem big_long {l : Bs} (hd : ∀ c ∈ l, digit c = true) (hl : 10 < (l.dropWhile fun c => decide (c = 48)).length) : big l = true := by
  unfold big
  rw [← numV_drop]
  cases h : l.dropWhile fun c => decide (c = 48) with
  | nil => rw [h] at hl; simp at hl
  | cons c r =>
    have hc : c ≠ 48 := by
      have := List.head?_dropWhile_not (fun c => decide (c = 48)) l
      rw [h] at this
      simpa using this
    have hm : c ∈ l := (List.dropWhile_suffix _).mem (by rw [h]; exact .head _)
    have hcd := hd c hm
    unfold digit at hcd
    rw [Bool.and_eq_true, decide_eq_true_eq, decide_eq_true_eq] at hcd
    have hc1 : 1 ≤ c.toNat - 48 := by
      have : c.toNat ≠ 48 := fun e => hc (UInt8.toNat_inj.1 (by rw [e]; rfl))
      omega
    rw [h, List.length_cons] at hl
    unfold numV
    rw [List.foldl_cons]
    have h1 := fold_ge r (10 * 0 + (c.toNat - 48))
    have h2 : 10 ^ 10 ≤ 10 ^ r.length := Nat.pow_le_pow_right (by decide) (by omega)
    have h3 : 1 * 10 ^ r.length ≤ (10 * 0 + (c.toNat - 48)) * 10 ^ r.length := Nat.mul_le_mul_right _ (by omega)
    rw [decide_eq_true_eq]
    omega
/-! the reference's classes -/
def cls (c : UInt8) : Nat := if small c then 110 else if large c then 99 else if digit c then 100 else if punct c then 112 else if mark c then 111 else c.toNat
def belongs (k : Nat) (c : UInt8) : Bool := if k = 110 ∨ k = 99 then decide (cls c = 110) || decide (cls c = 99) || decide (cls c = 100) || decide (c.toNat = 39) else if k = 100 ∨ k = 111 then decide (cls c = k) else false
theorem all_bytes {p : UInt8 → Bool} (h : ∀ n, n < 256 → p (UInt8.ofNat n) = true) (c : UInt8) : p c = true := by
  have h1 := h c.toNat c.toNat_lt
  rwa [UInt8.ofNat_toNat] at h1
theorem belongs_word (c : UInt8) : belongs 110 c = inner c ∧ belongs 99 c = inner c ∧ belongs 100 c = digit c ∧ belongs 111 c = (mark c && !punct c) := by
  have := all_bytes (p := fun c => decide (belongs 110 c = inner c ∧ belongs 99 c = inner c ∧ belongs 100 c = digit c ∧ belongs 111 c = (mark c && !punct c))) (by decide +kernel) c
  exact of_decide_eq_true this
theorem mark_punct (c : UInt8) : (mark c && !punct c) = mark c := by
  have := all_bytes (p := fun c => decide ((mark c && !punct c) = mark c)) (by decide +kernel) c
  exact of_decide_eq_true this
theorem cls_word (c : UInt8) : (cls c = 110 ↔ small c = true) ∧ (cls c = 99 ↔ large c = true) ∧ (cls c = 100 ↔ digit c = true) ∧ (cls c = 112 ↔ punct c = true) ∧ (cls c = 111 ↔ mark c = true) ∧ (cls c = 32 ↔ c = 32) := by
  have := all_bytes (p := fun c => decide ((cls c = 110 ↔ small c = true) ∧ (cls c = 99 ↔ large c = true) ∧ (cls c = 100 ↔ digit c = true) ∧ (cls c = 112 ↔ punct c = true) ∧ (cls c = 111 ↔ mark c = true) ∧ (cls c = 32 ↔ c = 32))) (by decide +kernel) c
  exact of_decide_eq_true this
end Go.Lt

/- Plain laws on a search for a word in a list of words that is written as one string. No program in sight. -/
namespace Go.Kw
theorem contains_nil (sub : List UInt8) : Lib.contains [] sub = sub.isEmpty := by
  unfold Lib.contains Lib.index
  cases sub <;> simp
theorem contains_cons (b : UInt8) (l sub : List UInt8) : Lib.contains (b :: l) sub = (sub.isPrefixOf (b :: l) || Lib.contains l sub) := by
  have hge := Lib.index_ge l sub
  unfold Lib.contains
  rw [Lib.index]
  by_cases h : sub.isPrefixOf (b :: l) = true
  · simp [h]
  · rw [if_neg h]
    have h' : sub.isPrefixOf (b :: l) = false := Bool.eq_false_iff.2 h
    rw [h', Bool.false_or]
    by_cases h1 : Lib.index l sub = -1
    · simp [h1]
    · have : (Lib.index l sub == -1) = false := by simpa using h1
      rw [this]
      simp only [Bool.false_eq_true, if_false]
      congr 1
      exact propext ⟨fun _ => by omega, fun _ => by omega⟩
def flat (sep : UInt8) (ws : List (List UInt8)) : List UInt8 := ws.flatMap (fun w => w ++ [sep])
theorem flat_cons (sep : UInt8) (w : List UInt8) (ws : List (List UInt8)) : flat sep (w :: ws) = w ++ sep :: flat sep ws := by simp [flat]
theorem skip (sep : UInt8) (t : List UInt8) : ∀ (w r : List UInt8), sep ∉ w → Lib.contains (w ++ r) (sep :: t) = Lib.contains r (sep :: t)
  | [], r, _ => rfl
  | b :: w, r, h => by
    have hb : ¬ b = sep := fun e => h (by simp [e])
    have hw : sep ∉ w := fun e => h (by simp [e])
    rw [List.cons_append, contains_cons, skip sep t w r hw]
    have : (sep :: t).isPrefixOf (b :: (w ++ r)) = false := by
      rw [List.isPrefixOf]
      have : (sep == b) = false := by simpa using fun e : sep = b => hb e.symm
      rw [this]; rfl
    rw [this, Bool.false_or]
theorem word (sep : UInt8) : ∀ (s w r : List UInt8), sep ∉ s → sep ∉ w → (s ++ [sep]).isPrefixOf (w ++ sep :: r) = decide (s = w)
  | [], [], r, _, _ => by simp [List.isPrefixOf]
  | [], b :: w, r, _, hw => by
    have hb : (sep == b) = false := by simpa using fun e : sep = b => hw (by simp [e])
    simp [List.isPrefixOf, hb]
  | a :: s, [], r, hs, _ => by
    have ha : (a == sep) = false := by simpa using fun e : a = sep => hs (by simp [e])
    simp [List.isPrefixOf, ha]
  | a :: s, b :: w, r, hs, hw => by
    have ih := word sep s w r (fun e => hs (by simp [e])) (fun e => hw (by simp [e]))
    simp only [List.cons_append, List.isPrefixOf]
    rw [ih]
    by_cases hab : a = b
    · subst hab; simp
    · have : (a == b) = false := by simpa using hab
      simp [this, hab]
theorem among (sep : UInt8) (s : List UInt8) (hs : sep ∉ s) : ∀ (ws : List (List UInt8)), (∀ w ∈ ws, sep ∉ w) → Lib.contains (sep :: flat sep ws) (sep :: s ++ [sep]) = decide (s ∈ ws)
  | [], _ => by
    rw [contains_cons]
    have h1 : Lib.contains (flat sep []) (sep :: s ++ [sep]) = false := by
      show Lib.contains [] _ = _
      rw [contains_nil]; rfl
    rw [h1]
    cases s <;> simp [flat, List.isPrefixOf]
  | w :: ws, h => by
    have hw : sep ∉ w := h w (by simp)
    have ih := among sep s hs ws (fun x hx => h x (by simp [hx]))
    rw [flat_cons, contains_cons, List.cons_append, skip sep _ w _ hw, ← List.cons_append, ih]
    have : (sep :: s ++ [sep]).isPrefixOf (sep :: (w ++ sep :: flat sep ws)) = decide (s = w) := by
      rw [List.cons_append, List.isPrefixOf, word sep s w _ hs hw]; simp
    rw [this]
    simp
def kws : List (List UInt8) := [[109, 111, 100, 117, 108, 101], [105, 109, 112, 111, 114, 116], [101, 120, 112, 111, 114, 116], [100, 97, 116, 97], [99, 108, 97, 115, 115], [105, 110, 115, 116, 97, 110, 99, 101], [101, 102, 102, 101, 99, 116], [119, 104, 101, 114, 101], [108, 101, 116], [105, 110], [105, 102], [116, 104, 101, 110], [101, 108, 115, 101], [99, 97, 115, 101], [111, 102], [104, 97, 110, 100, 108, 101], [119, 105, 116, 104], [105, 110, 102, 105, 120, 108], [105, 110, 102, 105, 120, 114], [105, 110, 102, 105, 120], [114, 101, 116, 117, 114, 110], [], [61], [45, 62], [61, 62], [58], [124], [92], [46], [33]]
def rws : List (List UInt8) := [[109, 111, 100, 117, 108, 101], [105, 109, 112, 111, 114, 116], [101, 120, 112, 111, 114, 116], [100, 97, 116, 97], [99, 108, 97, 115, 115], [105, 110, 115, 116, 97, 110, 99, 101], [101, 102, 102, 101, 99, 116], [119, 104, 101, 114, 101], [108, 101, 116], [105, 110], [105, 102], [116, 104, 101, 110], [101, 108, 115, 101], [99, 97, 115, 101], [111, 102], [104, 97, 110, 100, 108, 101], [119, 105, 116, 104], [105, 110, 102, 105, 120, 108], [105, 110, 102, 105, 120, 114], [105, 110, 102, 105, 120], [114, 101, 116, 117, 114, 110], [61], [45, 62], [61, 62], [58], [92], [46], [33]]
def kstr : List UInt8 := 32 :: flat 32 kws
def rstr : List UInt8 := 124 :: flat 124 rws
theorem kws_sep : ∀ w ∈ kws, (32 : UInt8) ∉ w := by decide +kernel
theorem rws_sep : ∀ w ∈ rws, (124 : UInt8) ∉ w := by decide +kernel
theorem rws_kws : ∀ w ∈ rws, w ∈ kws ∧ w ≠ [] ∧ w ≠ [124] := by decide +kernel
theorem kws_rws : ∀ w ∈ kws, w = [] ∨ w = [124] ∨ (w ∈ rws ∧ (124 : UInt8) ∉ w) := by decide +kernel
/-- what Keyword tells -/
def kw (s : List UInt8) : Bool := decide (s ≠ []) && (!decide (32 ∈ s) && Lib.contains kstr (32 :: s ++ [32]))
/-- what Reserved tells -/
def rs (s : List UInt8) : Bool := decide (s = [124]) || (decide (s ≠ []) && (!decide (124 ∈ s) && Lib.contains rstr (124 :: s ++ [124])))
theorem kw_rs (s : List UInt8) : kw s = rs s := by
  have h1 : kw s = decide (s ≠ [] ∧ s ∈ kws) := by
    unfold kw
    by_cases h : (32 : UInt8) ∈ s
    · have : s ∉ kws := fun e => kws_sep s e h
      simp [h, this]
    · rw [show kstr = 32 :: flat 32 kws from rfl, among 32 s h kws kws_sep]
      simp [h]
  have h2 : rs s = decide (s = [124] ∨ s ∈ rws) := by
    unfold rs
    by_cases h : (124 : UInt8) ∈ s
    · have : s ∉ rws := fun e => rws_sep s e h
      simp [h, this]
    · rw [show rstr = 124 :: flat 124 rws from rfl, among 124 s h rws rws_sep]
      have : s ∈ rws → ¬ s = [] := fun e => (rws_kws s e).2.1
      by_cases hr : s ∈ rws <;> simp [h, hr, this]
  rw [h1, h2]
  apply decide_eq_decide.2
  constructor
  · intro ⟨a, b⟩
    rcases kws_rws s b with h | h | h
    · exact absurd h a
    · exact .inl h
    · exact .inr h.1
  · rintro (h | h)
    · subst h; exact ⟨by decide, by decide +kernel⟩
    · exact ⟨(rws_kws s h).2.1, (rws_kws s h).1⟩
end Go.Kw

/- Types as trees: how a value of type api.Type lies in memory. General. No condition. -/
namespace Go.Eng
open Go.RowKit
def I64 (x : Int) : Prop := -9223372036854775808 ≤ x ∧ x ≤ 9223372036854775807
inductive Ty where
  | mk (kind : Int) (name : ByteArray) (var : Int) (args : List Ty)
def Ty.kind : Ty → Int | .mk k _ _ _ => k
def Ty.name : Ty → ByteArray | .mk _ n _ _ => n
def Ty.var : Ty → Int | .mk _ _ v _ => v
def Ty.args : Ty → List Ty | .mk _ _ _ a => a
mutual
def Ty.sz : Ty → Nat
  | .mk _ _ _ «as» => Ty.szs «as» + 1
def Ty.szs : List Ty → Nat
  | [] => 0
  | t :: r => Ty.sz t + Ty.szs r
end
theorem Ty.sz_get : ∀ {«as» : List Ty} {i : Nat} {t : Ty}, «as»[i]? = some t → t.sz ≤ Ty.szs «as»
  | [], _, _, h => by simp at h
  | u :: r, 0, t, h => by simp at h; subst h; simp only [Ty.szs]; omega
  | u :: r, i + 1, t, h => by have := Ty.sz_get («as» := r) (i := i) (t := t) (by simpa using h); simp only [Ty.szs]; omega
mutual
/-- the four cells of a type; what they lead to lies below block B -/
def TyC (s : World) (B : Nat) : Ty → List Value → Prop
  | .mk k nm v «as», cs => ∃ (q : Option Addr) (cap : Nat), cs = [.int .i64 k, .string nm, .int .i64 v, .slice q «as».length cap] ∧ I64 k ∧ I64 v ∧ («as».length : Int) ≤ 9223372036854775807 ∧
      (0 < «as».length → ∃ a, q = some a ∧ a.block < B ∧ TyAll s B «as» a)
def TyAll (s : World) (B : Nat) : List Ty → Addr → Prop
  | [], _ => True
  | t :: r, a => (∃ cs, CellsAt s a cs ∧ TyC s B t cs) ∧ TyAll s B r (a.add 4)
end
theorem TyAll.get {s : World} {B : Nat} : ∀ {«as» : List Ty} {a : Addr} {i : Nat} {t : Ty}, TyAll s B «as» a → «as»[i]? = some t → ∃ cs, CellsAt s (a.add (i * 4)) cs ∧ TyC s B t cs
  | [], _, _, _, _, h => by simp at h
  | u :: r, a, 0, t, h, hi => by
    simp only [TyAll] at h
    simp at hi; subst hi
    obtain ⟨cs, h1, h2⟩ := h.1
    exact ⟨cs, h1, h2⟩
  | u :: r, a, i + 1, t, h, hi => by
    simp only [TyAll] at h
    obtain ⟨cs, h1, h2⟩ := TyAll.get (i := i) h.2 (by simpa using hi)
    rw [add_add] at h1
    exact ⟨cs, by rwa [show 4 + i * 4 = (i + 1) * 4 from by omega] at h1, h2⟩
theorem CellsAt.keep {s s' : World} {a : Addr} {cs : List Value} {B : Nat} (hk : ∀ p : Addr, p.block < B → s'.cell? p = s.cell? p) (hb : a.block < B) (h : CellsAt s a cs) : CellsAt s' a cs :=
  fun j v hj => by rw [hk _ (by rw [add_block]; exact hb)]; exact h j v hj
mutual
theorem TyC.keep {s s' : World} {B B' : Nat} (hk : ∀ p : Addr, p.block < B → s'.cell? p = s.cell? p) (hB : B ≤ B') : ∀ {t : Ty} {cs : List Value}, TyC s B t cs → TyC s' B' t cs
  | .mk k nm v «as», cs, h => by
    simp only [TyC] at h ⊢
    obtain ⟨q, cap, h1, h2, h3, h5, h4⟩ := h
    refine ⟨q, cap, h1, h2, h3, h5, fun hl => ?_⟩
    obtain ⟨a, ha, hb, hall⟩ := h4 hl
    exact ⟨a, ha, by omega, TyAll.keep hk hB hb hall⟩
theorem TyAll.keep {s s' : World} {B B' : Nat} (hk : ∀ p : Addr, p.block < B → s'.cell? p = s.cell? p) (hB : B ≤ B') : ∀ {«as» : List Ty} {a : Addr}, a.block < B → TyAll s B «as» a → TyAll s' B' «as» a
  | [], _, _, _ => by simp only [TyAll]
  | t :: r, a, hb, h => by
    simp only [TyAll] at h ⊢
    obtain ⟨⟨cs, h1, h2⟩, h3⟩ := h
    exact ⟨⟨cs, h1.keep hk hb, TyC.keep hk hB h2⟩, TyAll.keep hk hB (by rw [add_block]; exact hb) h3⟩
end
theorem TyC.len {s : World} {B : Nat} {t : Ty} {cs : List Value} (h : TyC s B t cs) : cs.length = 4 := by
  cases t
  simp only [TyC] at h
  obtain ⟨q, cap, rfl, _⟩ := h
  rfl
/-- below B all is as it was in s -/
theorem Cls.below {H : List Item} {S : List World} {w s : World} (h : Cls H S w) (hs : s ∈ S) {B : Nat} (hB : B ≤ s.heap.size) (hno : ∀ k, k < B → NotOwned H k) : ∀ p : Addr, p.block < B → w.cell? p = s.cell? p :=
  fun p hp => h.cell hs (by omega) (hno _ hp)
/-- items that are forgotten: only such as no kept world knows -/
inductive Thin (S : List World) : List Item → List Item → Prop where
  | nil : Thin S [] []
  | keep {i : Item} {H H' : List Item} (h : Thin S H H') : Thin S (i :: H) (i :: H')
  | blk {b : Nat} {t : TypeId} {c : List Value} {H H' : List Item} (hb : AllLe S b) (h : Thin S H H') : Thin S (blk b t c :: H) H'
  | any {i : Item} {H H' : List Item} (hb : ∀ k, i.own k → AllLe S k) (h : Thin S H H') : Thin S (i :: H) H'
theorem Thin.au {S : List World} {H H' : List Item} (h : Thin S H H' := by (repeat (first | exact Thin.nil | exact Thin.same | apply Thin.keep | (refine Thin.blk (by assumption) ?_) | (refine Thin.blk (by simp only [AllLe, and_true]; omega) ?_))); first | done | fail) : Thin S H H' := h
theorem AllLe.mem {S : List World} {k : Nat} (h : AllLe S k) : ∀ s ∈ S, s.heap.size ≤ k := by
  induction S with
  | nil => intro s hs; cases hs
  | cons x S ih =>
    intro s hs
    cases hs with
    | head => exact h.1
    | tail _ hs => exact ih h.2 s hs
theorem Thin.spec {S : List World} {H H' : List Item} (h : Thin S H H') : H'.Sublist H ∧ ∀ i ∈ H, i ∈ H' ∨ ∀ k, i.own k → AllLe S k := by
  induction h with
  | nil => exact ⟨.slnil, fun i hi => by cases hi⟩
  | @keep i H H' h ih =>
    refine ⟨ih.1.cons_cons _, fun j hj => ?_⟩
    cases hj with
    | head => exact .inl (.head _)
    | tail _ hj => exact (ih.2 j hj).imp (.tail _) id
  | @blk b t c H H' hb h ih =>
    refine ⟨ih.1.cons _, fun j hj => ?_⟩
    cases hj with
    | head => exact .inr fun k hk => by have hk' : k = b := hk; subst hk'; exact hb
    | tail _ hj => exact ih.2 j hj
  | @any i H H' hb h ih =>
    refine ⟨ih.1.cons _, fun j hj => ?_⟩
    cases hj with
    | head => exact .inr hb
    | tail _ hj => exact ih.2 j hj
theorem Cls.thin {H H' : List Item} {S : List World} {w : World} (h : Cls H S w) (ht : Thin S H H') : Cls H' S w := by
  obtain ⟨hs, hd⟩ := ht.spec
  refine ⟨fun i hi => h.holds i (hs.subset hi), fun i hi => h.lt i (hs.subset hi), h.dj.sublist hs, fun s hms => ?_⟩
  have hk := h.kp s hms
  refine ⟨hk.os, hk.tape, hk.output, hk.size, fun k hks hno => hk.block k hks ?_⟩
  rintro ⟨i, hi, hik⟩
  rcases hd i hi with h1 | h1
  · exact hno ⟨i, h1, hik⟩
  · have := (h1 k hik).mem s hms; omega
theorem Cls.toExt {H : List Item} {S : List World} {w s : World} (h : Cls H S w) (hs : s ∈ S) (hno : ∀ k, k < s.heap.size → NotOwned H k) : Ext s w :=
  (h.kp s hs).mono fun k hk ho => (hno k hk).not ho
theorem Cls.toKeep {O : Nat → Prop} {H : List Item} {S : List World} {w s : World} (h : Cls H S w) (hs : s ∈ S) (hno : ∀ k, k < s.heap.size → ¬ O k → NotOwned H k) : Keep O s w :=
  ⟨(h.kp s hs).os, (h.kp s hs).tape, (h.kp s hs).output, (h.kp s hs).size, fun k hk ho => (h.kp s hs).block k hk (hno k hk ho).not⟩
theorem Cls.fr {H : List Item} {S : List World} {w s : World} (h : Cls H S w) (hs : s ∈ S := by exact mau) (hno : ∀ k, k < s.heap.size → NotOwned H k := by exact fun k hk => NotOwned.au) : Ext s w := h.toExt hs hno
theorem blk_eq {b : Nat} {t : TypeId} {cs cs' : List Value} {w : World} (h : (blk b t cs).holds w) (e : cs = cs') : (blk b t cs').holds w := e ▸ h
end Go.Eng

/- From a law's walk to its row: the arguments read behind the call as before, where nothing that was there has turned; types as trees out of a reading. General. No condition. -/
namespace Go.Eng
open Go.RowKit Go.ChangeShapes Go.WideShapes Go.ChangeAt
section
variable {H : Type} {enc : TypeId × Value → H} {P : Program}
def readableB (P : Program) (ts : List TypeId) : Bool := ts.all fun t => P.readableRec t && Nat.blt t P.types.size
theorem trodAll_stays (hl : laidOutB P = true) {W W' : World} (hb : Below W.heap.size W W') {sp : Nat → Bool} :
    ∀ {ts : List TypeId} {vs : List Value} {ds : List (DataW H)} {ps : List MemPlace}, readableB P ts = true → DataW.TrodAll enc P W 0 (fun _ => true) true ts vs ds ps →
      (∀ x ∈ ps, x.block < W.heap.size) → (∀ x ∈ ps, sp x.block = true) → DataW.TrodAll enc P W' 0 sp true ts vs ds ps
  | [], vs, ds, ps, _, h, _, _ => by
    obtain ⟨rfl, rfl, rfl⟩ := trodAll_nil h
    exact trodAll_mk0
  | t :: ts, vs, ds, ps, hr, h, hlt, hsp => by
    obtain ⟨v, vs', d, ds', p, q, rfl, rfl, rfl, h0, h1⟩ := trodAll_cons h
    simp only [readableB, List.all_cons, Bool.and_eq_true] at hr
    have hrow : t < P.types.size := Nat.le_of_ble_eq_true hr.1.2
    exact trodAll_cons_mk (Go.WideElems.Trod_stays hl hr.1.1 hrow h0 (fun x hx => hb.same (hlt x (List.mem_append_left _ hx))) (fun x hx => hsp x (List.mem_append_left _ hx)))
      (trodAll_stays hl hb (by simpa [readableB] using hr.2) h1 (fun x hx => hlt x (List.mem_append_right _ hx)) (fun x hx => hsp x (List.mem_append_right _ hx)))
/-- THE LAW's LAST STEP: it returned true, and nothing that was there has turned. -/
theorem law_post {f : Func} {s : ChangeSpec} {W W' : World} {args : Array Value} {ds : List (DataW H)} {p : List MemPlace} {tb : TypeId} (hl : laidOutB P = true) (hrd : readableB P f.params.toList = true)
    (hv : s.vars = []) (hrt : f.resultTypes = #[tb]) (hu : P.underlying tb = some .bool) (hfn : s.fn H ds = { results := [.lit (.bool true)], args := ds })
    (hW : DataW.Whole enc P f.params.toList s.vars false W args.toList ds [] p) (hA : DataW.TrodAll enc P W 0 (fun _ => true) true f.params.toList args.toList ds p) (hb : Below W.heap.size W W') :
    s.post enc P f false true false false W args (.bool true) W' := by
  have hlt : ∀ x ∈ p, x.block < W.heap.size := fun x hx => hW.lt x hx
  have hargs : ∀ sp : Nat → Bool, (∀ x ∈ p, sp x.block = true) → DataW.TrodAll enc P W' 0 sp true f.params.toList args.toList ds p := fun sp hsp => trodAll_stays hl hb hrd hA hlt hsp
  have hres : ∀ (b : Nat) (sp : Nat → Bool) (hd : Bool), DataW.TrodAll enc P W' b sp hd f.resultTypes.toList ((Value.bool true).resultList f.resultTypes.size) [.lit (.bool true)] [] := by
    intro b sp hd
    rw [hrt]
    exact trodAll_cons_mk (shut_bool hu _) trodAll_mk0
  have hold : ∀ x ∈ p, (fun b => decide (b < W.heap.size)) x.block = true := fun x hx => by simpa using hlt x hx
  have hok : ∀ (j : Nat) (t : TypeId) (r : Value), f.resultTypes[j]? = some t → ((Value.bool true).resultList f.resultTypes.size)[j]? = some r → Value.okWide P W' .any 0 t r :=
    ok_one hrt rfl (okWide_bool_mk hu _)
  have hfn' : s.fn H (ds ++ []) = { results := [.lit (.bool true)], args := ds } := by rw [List.append_nil]; exact hfn
  have hvars : ∀ sp : Nat → Bool, DataW.TrodVars enc P W' sp s.vars (s.fn H (ds ++ [])).vars [] := fun sp => by rw [hv, hfn']; rfl
  refine ⟨ds, [], p, [], p, [], hW, ?_, ?_, ?_, World.keptBut_mono (fun x hx => ⟨hx, ?_⟩) (hb.frame (· ∈ p)), fun _ => ?_⟩
  · rw [hfn']; exact hres _ _ _
  · rw [hfn']; exact hargs _ hold
  · exact hvars _
  · exact .inr (by simpa using hx)
  · obtain ⟨_, _, _, _, _, hz, hn⟩ := hW
    refine ⟨hok, _, _, ([] ++ p) ++ [], ⟨[] ++ p, [], trodAll_append (hargs _ (fun _ _ => rfl)) (hres _ _ _), hvars _, rfl, ?_, ?_⟩, ?_⟩
    · intro b off hp
      have hin : MemPlace.cell b off ∈ p := by simpa using hp
      rw [hb.frozen (hlt _ hin)]
      exact hz b off hin
    · intro ha; cases ha
    · intro x hx _
      simpa using hx
/-! ### readings -/
variable {w : World} {spare : Nat → Bool} {held : Bool}
theorem cell_lt {a : Addr} {v : Value} (h : w.cell? a = some v) : a.block < w.heap.size := by
  unfold World.cell? at h
  rcases Nat.lt_or_ge a.block w.heap.size with hl | hl
  · exact hl
  · rw [Array.getElem?_eq_none hl] at h; cases h
theorem cellsAt_of {a : Addr} {n : Nat} {cs : List Value} (h : w.cells? 0 a n = some cs) : CellsAt w a cs ∧ cs.length = n := by
  obtain ⟨_, hl, hc⟩ := World.cells?_some h
  refine ⟨fun j v hj => ?_, hl⟩
  have hjl : j < n := by
    rw [← hl]
    exact (List.getElem?_eq_some_iff.1 hj).1
  rw [hc j hjl]; exact hj
/-- A SLICE THAT READS: nil, or its elements each read (with less fuel) -/
theorem slice_reads {t e : TypeId} {sz fuel : Nat} {cs : List Value} {x : DataW H × List MemPlace} (ht : P.underlying t = some (.slice e)) (hs : P.cellsOf e = sz) (h : DataW.trod enc P w 0 spare held fuel t cs = some x) :
    ∃ (q : Option Addr) (len cap : Nat), cs = [.slice q len cap] ∧ len ≤ cap ∧ cap ≤ maxLen ∧ (q = none → len = 0) ∧
      ∃ n, n < fuel ∧ ∀ a, q = some a → ∀ i, i < len → ∃ cs' y, CellsAt w (a.add (i * sz)) cs' ∧ cs'.length = sz ∧ DataW.trod enc P w 0 spare held n e cs' = some y := by
  rcases DataW.trod_slice ht h with ⟨rfl, _⟩ | ⟨a, len, cap, elems, rest, n, hf, rfl, _, _, hl, hm, hlen, hel, _, _⟩
  · refine ⟨none, 0, 0, rfl, Nat.le_refl _, by simp [maxLen], fun _ => rfl, 0, ?_, fun a ha => by cases ha⟩
    cases fuel with
    | zero => simp [DataW.trod] at h
    | succ n => omega
  · refine ⟨some a, len, cap, rfl, hl, hm, (fun hn => by cases hn), n, by omega, fun a' ha i hi => ?_⟩
    obtain rfl := Option.some.inj ha
    have h1 := hel i hi
    rw [List.getElem?_eq_getElem (by omega)] at h1
    rw [hs] at h1
    obtain ⟨cs', hc, ht'⟩ := Option.bind_eq_some_iff.1 h1
    obtain ⟨h2, h3⟩ := cellsAt_of hc
    exact ⟨cs', _, h2, h3, ht'⟩
theorem wf_i64 {m : Int} (h : (Lit.int .i64 m).wf = true) : I64 m := by
  simp only [Lit.wf, IntKind.min, IntKind.max, IntKind.signed, IntKind.bits, Bool.and_eq_true, decide_eq_true_eq] at h
  unfold I64
  have h1 := h.1; have h2 := h.2
  simp at h1 h2
  omega
/-- the elements of a slice as trees, one by one -/
theorem tyAll_of {B : Nat} : ∀ (len : Nat) (a : Addr), (∀ i, i < len → ∃ cs t, CellsAt w (a.add (i * 4)) cs ∧ TyC w B t cs) → ∃ ts : List Ty, ts.length = len ∧ TyAll w B ts a
  | 0, a, _ => ⟨[], rfl, by simp only [TyAll]⟩
  | len + 1, a, h => by
    obtain ⟨cs, t, h1, h2⟩ := h 0 (by omega)
    obtain ⟨ts, h3, h4⟩ := tyAll_of len (a.add 4) (fun i hi => by
      obtain ⟨cs, t, h5, h6⟩ := h (i + 1) (by omega)
      refine ⟨cs, t, ?_, h6⟩
      rw [add_add]
      rwa [show 4 + i * 4 = (i + 1) * 4 from by omega])
    exact ⟨t :: ts, by simp [h3], by simp only [TyAll]; exact ⟨⟨cs, h1, h2⟩, h4⟩⟩
/-- A TYPE THAT READS IS A TREE. -/
theorem ty_of {tT tS tI tN : TypeId} {f0 f1 f2 f3 : Field} (hT : P.underlying tT = some (.struct #[f0, f1, f2, f3])) (hI : P.underlying tI = some (.int .i64)) (hN : P.underlying tN = some .string) (hS : P.underlying tS = some (.slice tT))
    (h0 : f0.type = tI ∧ f0.offset = 0) (h1 : f1.type = tN ∧ f1.offset = 1) (h2 : f2.type = tI ∧ f2.offset = 2) (h3 : f3.type = tS ∧ f3.offset = 3)
    (c0 : P.cellsOf tI = 1) (c1 : P.cellsOf tN = 1) (c3 : P.cellsOf tS = 1) (cT : P.cellsOf tT = 4) :
    ∀ (fuel : Nat) {cs : List Value} {x : DataW H × List MemPlace}, DataW.trod enc P w 0 spare held fuel tT cs = some x → ∃ t, TyC w w.heap.size t cs := by
  intro fuel
  induction fuel using Nat.strongRecOn with
  | _ fuel ih =>
    intro cs x h
    obtain ⟨xs, n, hfu, hx, hlen, hxl, hf⟩ := DataW.trod_struct hT h
    rw [cT] at hlen
    match cs, hlen with
    | [a0, a1, a2, a3], _ =>
      have g0 := hf 0 f0 rfl
      have g1 := hf 1 f1 rfl
      have g2 := hf 2 f2 rfl
      have g3 := hf 3 f3 rfl
      simp only [List.size_toArray, List.length_cons, List.length_nil] at hxl
      rw [h0.1, h0.2, c0, List.getElem?_eq_getElem (by omega)] at g0
      rw [h1.1, h1.2, c1, List.getElem?_eq_getElem (by omega)] at g1
      rw [h2.1, h2.2, c0, List.getElem?_eq_getElem (by omega)] at g2
      rw [h3.1, h3.2, c3, List.getElem?_eq_getElem (by omega)] at g3
      obtain ⟨k, e0, _, w0⟩ := DataW.trod_int hI g0
      obtain ⟨s, e1, _, _⟩ := DataW.trod_string hN g1
      obtain ⟨v, e2, _, w2⟩ := DataW.trod_int hI g2
      obtain ⟨q, len, cap, e3, hle, hcap, hq0, m, hm, hel⟩ := slice_reads hS cT g3
      simp at e0 e1 e2 e3
      subst e0 e1 e2 e3
      have hnl : ∃ ts : List Ty, ts.length = len ∧ (0 < len → ∃ a, q = some a ∧ a.block < w.heap.size ∧ TyAll w w.heap.size ts a) := by
        cases q with
        | none => exact ⟨[], by simp [hq0 rfl], fun hl => by have := hq0 rfl; omega⟩
        | some a =>
          have hall : ∀ i, i < len → ∃ cs t, CellsAt w (a.add (i * 4)) cs ∧ TyC w w.heap.size t cs := fun i hi => by
            obtain ⟨cs', y, hc, hl4, ht⟩ := hel a rfl i hi
            obtain ⟨t, ht'⟩ := ih m (by omega) ht
            exact ⟨cs', t, hc, ht'⟩
          obtain ⟨ts, h5, h6⟩ := tyAll_of len a hall
          refine ⟨ts, h5, fun hl => ⟨a, rfl, ?_, h6⟩⟩
          obtain ⟨cs', y, hc, hl4, _⟩ := hel a rfl 0 hl
          cases cs' with
          | nil => simp at hl4
          | cons u r => exact cell_lt (a := a) (v := u) (hc 0 u rfl)
      obtain ⟨ts, rfl, hall⟩ := hnl
      refine ⟨.mk k s v ts, ?_⟩
      simp only [TyC]
      refine ⟨q, cap, rfl, wf_i64 w0, wf_i64 w2, ?_, hall⟩
      unfold maxLen at hcap
      omega
end
end Go.Eng

/-
  DERIVED: THE SHELF's CONTRACTS AT THIS DUMP, IN PLAIN WORDS (tools/lay-plain.mjs out of 'YtnnpheacekieaaaDoorShelfD.lean', which tools/lay-shelf.mjs wrote): THE SAME DECLARATIONS UNDER THE SAME NAMES: 'import', 'namespace', 'open', 'def', 'theorem' AND NOTHING ELSE: no command of the shelf's: FOR A HAND-IN. Each laying: the table of numbers ('.._ren') and one theorem, a field a fact of the dump's own or the kernel's comparison; each contract: ONE APPLICATION.
-/
namespace Go.Proofs
open Go.Shelf
def Tryd.lays137_ren : Go.Shelf.Ren := ⟨fun | 137 => 23 | 217 => 36 | 266 => 51 | n => n, fun | 9 => 9 | 5 => 5 | 3 => 3 | n => n, fun | n => n⟩
theorem Tryd.lays137 : Go.Proofs.Lays.n137 Tryd.prog Tryd.lays137_ren := {
  mixed := by kernel_rfl
  f137 := Tryd.func23.trans (congrArg some (by kernel_rfl))
  f217 := Tryd.func36.trans (congrArg some (by kernel_rfl))
  f266 := Tryd.func51.trans (congrArg some (by kernel_rfl))
  t3 := Tryd.underlying3
  a3 := Tryd.isAgg3
  z3 := Tryd.sizeOf3
  v3 := Tryd.zeroValue3
  t5 := Tryd.underlying5
  a5 := Tryd.isAgg5
  z5 := Tryd.sizeOf5
  v5 := Tryd.zeroValue5
  t9 := Tryd.underlying9
  a9 := Tryd.isAgg9
  z9 := Tryd.sizeOf9
  v9 := Tryd.zeroValue9 }
def Tryd.lays138_ren : Go.Shelf.Ren := ⟨fun | 138 => 32 | 195 => 47 | 218 => 48 | 143 => 46 | 219 => 56 | 217 => 36 | 225 => 60 | 224 => 61 | 267 => 62 | 266 => 51 | 314 => 64 | n => n, fun | 9 => 9 | 3 => 3 | 4 => 4 | 5 => 5 | 0 => 0 | 46 => 76 | 146 => 83 | 51 => 82 | n => n, fun | 1 => 0 | n => n⟩
theorem Tryd.lays138 : Go.Proofs.Lays.n138 Tryd.prog Tryd.lays138_ren := {
  mixed := by kernel_rfl
  f138 := Tryd.func32.trans (congrArg some (by kernel_rfl))
  f143 := Tryd.func46.trans (congrArg some (by kernel_rfl))
  f195 := Tryd.func47.trans (congrArg some (by kernel_rfl))
  f217 := Tryd.func36.trans (congrArg some (by kernel_rfl))
  f218 := Tryd.func48.trans (congrArg some (by kernel_rfl))
  f219 := Tryd.func56.trans (congrArg some (by kernel_rfl))
  f224 := Tryd.func61.trans (congrArg some (by kernel_rfl))
  f225 := Tryd.func60.trans (congrArg some (by kernel_rfl))
  f266 := Tryd.func51.trans (congrArg some (by kernel_rfl))
  f267 := Tryd.func62.trans (congrArg some (by kernel_rfl))
  f314 := Tryd.func64.trans (congrArg some (by kernel_rfl))
  t0 := Tryd.underlying0
  a0 := Tryd.isAgg0
  z0 := Tryd.sizeOf0
  v0 := Tryd.zeroValue0
  t3 := Tryd.underlying3
  a3 := Tryd.isAgg3
  z3 := Tryd.sizeOf3
  v3 := Tryd.zeroValue3
  t4 := Tryd.underlying4
  a4 := Tryd.isAgg4
  z4 := Tryd.sizeOf4
  v4 := Tryd.zeroValue4
  t5 := Tryd.underlying5
  a5 := Tryd.isAgg5
  z5 := Tryd.sizeOf5
  v5 := Tryd.zeroValue5
  t9 := Tryd.underlying9
  a9 := Tryd.isAgg9
  z9 := Tryd.sizeOf9
  v9 := Tryd.zeroValue9
  t46 := Tryd.underlying76
  a46 := Tryd.isAgg76
  z46 := Tryd.sizeOf76
  v46 := Tryd.zeroValue76
  t51 := Tryd.underlying82
  a51 := Tryd.isAgg82
  z51 := Tryd.sizeOf82
  v51 := Tryd.zeroValue82
  t146 := Tryd.underlying83
  a146 := Tryd.isAgg83
  z146 := Tryd.sizeOf83
  v146 := Tryd.zeroValue83
  g1 := by kernel_rfl }
def Tryd.lays144_ren : Go.Shelf.Ren := ⟨fun | 144 => 50 | 143 => 46 | 219 => 56 | 217 => 36 | 225 => 60 | 224 => 61 | 267 => 62 | 266 => 51 | 314 => 64 | n => n, fun | 9 => 9 | 4 => 4 | 3 => 3 | 5 => 5 | 46 => 76 | 146 => 83 | 51 => 82 | n => n, fun | 1 => 0 | n => n⟩
theorem Tryd.lays144 : Go.Proofs.Lays.n144 Tryd.prog Tryd.lays144_ren := {
  mixed := by kernel_rfl
  f143 := Tryd.func46.trans (congrArg some (by kernel_rfl))
  f144 := Tryd.func50.trans (congrArg some (by kernel_rfl))
  f217 := Tryd.func36.trans (congrArg some (by kernel_rfl))
  f219 := Tryd.func56.trans (congrArg some (by kernel_rfl))
  f224 := Tryd.func61.trans (congrArg some (by kernel_rfl))
  f225 := Tryd.func60.trans (congrArg some (by kernel_rfl))
  f266 := Tryd.func51.trans (congrArg some (by kernel_rfl))
  f267 := Tryd.func62.trans (congrArg some (by kernel_rfl))
  f314 := Tryd.func64.trans (congrArg some (by kernel_rfl))
  t3 := Tryd.underlying3
  a3 := Tryd.isAgg3
  z3 := Tryd.sizeOf3
  v3 := Tryd.zeroValue3
  t4 := Tryd.underlying4
  a4 := Tryd.isAgg4
  z4 := Tryd.sizeOf4
  v4 := Tryd.zeroValue4
  t5 := Tryd.underlying5
  a5 := Tryd.isAgg5
  z5 := Tryd.sizeOf5
  v5 := Tryd.zeroValue5
  t9 := Tryd.underlying9
  a9 := Tryd.isAgg9
  z9 := Tryd.sizeOf9
  v9 := Tryd.zeroValue9
  t46 := Tryd.underlying76
  a46 := Tryd.isAgg76
  z46 := Tryd.sizeOf76
  v46 := Tryd.zeroValue76
  t51 := Tryd.underlying82
  a51 := Tryd.isAgg82
  z51 := Tryd.sizeOf82
  v51 := Tryd.zeroValue82
  t146 := Tryd.underlying83
  a146 := Tryd.isAgg83
  z146 := Tryd.sizeOf83
  v146 := Tryd.zeroValue83
  g1 := by kernel_rfl }
def Tryd.laysM144_ren : Go.Shelf.Ren := ⟨fun | 144 => 50 | 143 => 46 | 219 => 56 | 217 => 36 | 225 => 60 | 224 => 61 | 267 => 62 | 266 => 51 | 314 => 64 | n => n, fun | 9 => 9 | 4 => 4 | 3 => 3 | 5 => 5 | 46 => 76 | 146 => 83 | 51 => 82 | n => n, fun | 1 => 0 | n => n⟩
theorem Tryd.laysM144 : Go.Proofs.LaysM.n144 Tryd.prog Tryd.laysM144_ren := {
  mixed := by kernel_rfl
  f143 := Tryd.func46.trans (congrArg some (by kernel_rfl))
  f144 := Tryd.func50.trans (congrArg some (by kernel_rfl))
  f217 := Tryd.func36.trans (congrArg some (by kernel_rfl))
  f219 := Tryd.func56.trans (congrArg some (by kernel_rfl))
  f224 := Tryd.func61.trans (congrArg some (by kernel_rfl))
  f225 := Tryd.func60.trans (congrArg some (by kernel_rfl))
  f266 := Tryd.func51.trans (congrArg some (by kernel_rfl))
  f267 := Tryd.func62.trans (congrArg some (by kernel_rfl))
  f314 := Tryd.func64.trans (congrArg some (by kernel_rfl))
  t3 := Tryd.underlying3
  a3 := Tryd.isAgg3
  z3 := Tryd.sizeOf3
  v3 := Tryd.zeroValue3
  t4 := Tryd.underlying4
  a4 := Tryd.isAgg4
  z4 := Tryd.sizeOf4
  v4 := Tryd.zeroValue4
  t5 := Tryd.underlying5
  a5 := Tryd.isAgg5
  z5 := Tryd.sizeOf5
  v5 := Tryd.zeroValue5
  t9 := Tryd.underlying9
  a9 := Tryd.isAgg9
  z9 := Tryd.sizeOf9
  v9 := Tryd.zeroValue9
  t46 := Tryd.underlying76
  a46 := Tryd.isAgg76
  z46 := Tryd.sizeOf76
  v46 := Tryd.zeroValue76
  t51 := Tryd.underlying82
  a51 := Tryd.isAgg82
  z51 := Tryd.sizeOf82
  v51 := Tryd.zeroValue82
  t146 := Tryd.underlying83
  a146 := Tryd.isAgg83
  z146 := Tryd.sizeOf83
  v146 := Tryd.zeroValue83
  g1 := by kernel_rfl
  i3 := by kernel_rfl
  i4 := by kernel_rfl
  i5 := by kernel_rfl
  i9 := by kernel_rfl
  i46 := by kernel_rfl
  i51 := by kernel_rfl
  i146 := by kernel_rfl
  m1 := by kernel_rfl
  s1_3 := fun w h => Go.Proofs.cell_of_shapedOpen_int (zero := #[.int .i64 0]) (t := 3) h (of_decide_eq_true (by kernel_rfl)) (by kernel_rfl) rfl (by kernel_rfl) (by kernel_rfl) Tryd.underlying3 }
def Tryd.laysM146_ren : Go.Shelf.Ren := ⟨fun | 146 => 13 | 221 => 29 | 268 => 45 | 138 => 32 | 143 => 46 | 195 => 47 | 197 => 53 | 218 => 48 | 219 => 56 | 260 => 57 | 217 => 36 | 225 => 60 | 224 => 61 | 267 => 62 | 266 => 51 | 314 => 64 | n => n, fun | 9 => 9 | 31 => 43 | 3 => 3 | 4 => 4 | 0 => 0 | 105 => 70 | 21 => 21 | 5 => 5 | 46 => 76 | 119 => 77 | 139 => 80 | 138 => 79 | 146 => 83 | 51 => 82 | n => n, fun | 1 => 0 | 3 => 1 | 4 => 2 | n => n⟩
theorem Tryd.laysM146 : Go.Proofs.LaysM.n146 Tryd.prog Tryd.laysM146_ren := {
  mixed := by kernel_rfl
  f138 := Tryd.func32.trans (congrArg some (by kernel_rfl))
  f143 := Tryd.func46.trans (congrArg some (by kernel_rfl))
  f146 := Tryd.func13.trans (congrArg some (by kernel_rfl))
  f195 := Tryd.func47.trans (congrArg some (by kernel_rfl))
  f197 := Tryd.func53.trans (congrArg some (by kernel_rfl))
  f217 := Tryd.func36.trans (congrArg some (by kernel_rfl))
  f218 := Tryd.func48.trans (congrArg some (by kernel_rfl))
  f219 := Tryd.func56.trans (congrArg some (by kernel_rfl))
  f221 := Tryd.func29.trans (congrArg some (by kernel_rfl))
  f224 := Tryd.func61.trans (congrArg some (by kernel_rfl))
  f225 := Tryd.func60.trans (congrArg some (by kernel_rfl))
  f260 := Tryd.func57.trans (congrArg some (by kernel_rfl))
  f266 := Tryd.func51.trans (congrArg some (by kernel_rfl))
  f267 := Tryd.func62.trans (congrArg some (by kernel_rfl))
  f268 := Tryd.func45.trans (congrArg some (by kernel_rfl))
  f314 := Tryd.func64.trans (congrArg some (by kernel_rfl))
  t0 := Tryd.underlying0
  a0 := Tryd.isAgg0
  z0 := Tryd.sizeOf0
  v0 := Tryd.zeroValue0
  t3 := Tryd.underlying3
  a3 := Tryd.isAgg3
  z3 := Tryd.sizeOf3
  v3 := Tryd.zeroValue3
  t4 := Tryd.underlying4
  a4 := Tryd.isAgg4
  z4 := Tryd.sizeOf4
  v4 := Tryd.zeroValue4
  t5 := Tryd.underlying5
  a5 := Tryd.isAgg5
  z5 := Tryd.sizeOf5
  v5 := Tryd.zeroValue5
  t9 := Tryd.underlying9
  a9 := Tryd.isAgg9
  z9 := Tryd.sizeOf9
  v9 := Tryd.zeroValue9
  t21 := Tryd.underlying21
  a21 := Tryd.isAgg21
  z21 := Tryd.sizeOf21
  v21 := Tryd.zeroValue21
  t31 := Tryd.underlying43
  a31 := Tryd.isAgg43
  z31 := Tryd.sizeOf43
  v31 := Tryd.zeroValue43
  t46 := Tryd.underlying76
  a46 := Tryd.isAgg76
  z46 := Tryd.sizeOf76
  v46 := Tryd.zeroValue76
  t51 := Tryd.underlying82
  a51 := Tryd.isAgg82
  z51 := Tryd.sizeOf82
  v51 := Tryd.zeroValue82
  t105 := Tryd.underlying70
  a105 := Tryd.isAgg70
  z105 := Tryd.sizeOf70
  v105 := Tryd.zeroValue70
  t119 := Tryd.underlying77
  a119 := Tryd.isAgg77
  z119 := Tryd.sizeOf77
  t138 := Tryd.underlying79
  a138 := Tryd.isAgg79
  z138 := Tryd.sizeOf79
  v138 := Tryd.zeroValue79
  t139 := Tryd.underlying80
  a139 := Tryd.isAgg80
  z139 := Tryd.sizeOf80
  v139 := Tryd.zeroValue80
  t146 := Tryd.underlying83
  a146 := Tryd.isAgg83
  z146 := Tryd.sizeOf83
  v146 := Tryd.zeroValue83
  g1 := by kernel_rfl
  g3 := by kernel_rfl
  g4 := by kernel_rfl
  i0 := by kernel_rfl
  i3 := by kernel_rfl
  i4 := by kernel_rfl
  i5 := by kernel_rfl
  i9 := by kernel_rfl
  i21 := by kernel_rfl
  i31 := by kernel_rfl
  i46 := by kernel_rfl
  i51 := by kernel_rfl
  i105 := by kernel_rfl
  i138 := by kernel_rfl
  i139 := by kernel_rfl
  i146 := by kernel_rfl
  m1 := by kernel_rfl
  s1_3 := fun w h => Go.Proofs.cell_of_shapedOpen_int (zero := #[.int .i64 0]) (t := 3) h (of_decide_eq_true (by kernel_rfl)) (by kernel_rfl) rfl (by kernel_rfl) (by kernel_rfl) Tryd.underlying3
  m3 := by kernel_rfl
  m4 := by kernel_rfl }
def Tryd.lays160_ren : Go.Shelf.Ren := ⟨fun | 160 => 25 | 232 => 38 | 231 => 37 | 227 => 39 | 234 => 41 | 233 => 40 | 236 => 43 | 235 => 42 | 228 => 52 | 271 => 55 | 151 => 54 | 197 => 53 | 120 => 59 | 152 => 58 | 260 => 57 | 137 => 23 | 119 => 63 | 224 => 61 | 225 => 60 | 217 => 36 | 266 => 51 | n => n, fun | 9 => 9 | 4 => 4 | 3 => 3 | 5 => 5 | 117 => 63 | 116 => 62 | 0 => 0 | 124 => 66 | 21 => 21 | 105 => 70 | 46 => 76 | 119 => 77 | 139 => 80 | 138 => 79 | n => n, fun | 3 => 1 | 4 => 2 | n => n⟩
theorem Tryd.lays160 : Go.Proofs.Lays.n160 Tryd.prog Tryd.lays160_ren := {
  mixed := by kernel_rfl
  f119 := Tryd.func63.trans (congrArg some (by kernel_rfl))
  f120 := Tryd.func59.trans (congrArg some (by kernel_rfl))
  f137 := Tryd.func23.trans (congrArg some (by kernel_rfl))
  f151 := Tryd.func54.trans (congrArg some (by kernel_rfl))
  f152 := Tryd.func58.trans (congrArg some (by kernel_rfl))
  f160 := Tryd.func25.trans (congrArg some (by kernel_rfl))
  f197 := Tryd.func53.trans (congrArg some (by kernel_rfl))
  f217 := Tryd.func36.trans (congrArg some (by kernel_rfl))
  f224 := Tryd.func61.trans (congrArg some (by kernel_rfl))
  f225 := Tryd.func60.trans (congrArg some (by kernel_rfl))
  f227 := Tryd.func39.trans (congrArg some (by kernel_rfl))
  f228 := Tryd.func52.trans (congrArg some (by kernel_rfl))
  f231 := Tryd.func37.trans (congrArg some (by kernel_rfl))
  f232 := Tryd.func38.trans (congrArg some (by kernel_rfl))
  f233 := Tryd.func40.trans (congrArg some (by kernel_rfl))
  f234 := Tryd.func41.trans (congrArg some (by kernel_rfl))
  f235 := Tryd.func42.trans (congrArg some (by kernel_rfl))
  f236 := Tryd.func43.trans (congrArg some (by kernel_rfl))
  f260 := Tryd.func57.trans (congrArg some (by kernel_rfl))
  f266 := Tryd.func51.trans (congrArg some (by kernel_rfl))
  f271 := Tryd.func55.trans (congrArg some (by kernel_rfl))
  t0 := Tryd.underlying0
  a0 := Tryd.isAgg0
  z0 := Tryd.sizeOf0
  v0 := Tryd.zeroValue0
  t3 := Tryd.underlying3
  a3 := Tryd.isAgg3
  z3 := Tryd.sizeOf3
  v3 := Tryd.zeroValue3
  t4 := Tryd.underlying4
  a4 := Tryd.isAgg4
  z4 := Tryd.sizeOf4
  v4 := Tryd.zeroValue4
  t5 := Tryd.underlying5
  a5 := Tryd.isAgg5
  z5 := Tryd.sizeOf5
  v5 := Tryd.zeroValue5
  t9 := Tryd.underlying9
  a9 := Tryd.isAgg9
  z9 := Tryd.sizeOf9
  v9 := Tryd.zeroValue9
  t21 := Tryd.underlying21
  a21 := Tryd.isAgg21
  z21 := Tryd.sizeOf21
  v21 := Tryd.zeroValue21
  t46 := Tryd.underlying76
  a46 := Tryd.isAgg76
  z46 := Tryd.sizeOf76
  v46 := Tryd.zeroValue76
  t105 := Tryd.underlying70
  a105 := Tryd.isAgg70
  z105 := Tryd.sizeOf70
  v105 := Tryd.zeroValue70
  t116 := Tryd.underlying62
  a116 := Tryd.isAgg62
  z116 := Tryd.sizeOf62
  t117 := Tryd.underlying63
  a117 := Tryd.isAgg63
  z117 := Tryd.sizeOf63
  v117 := Tryd.zeroValue63
  t119 := Tryd.underlying77
  a119 := Tryd.isAgg77
  z119 := Tryd.sizeOf77
  t124 := Tryd.underlying66
  a124 := Tryd.isAgg66
  z124 := Tryd.sizeOf66
  v124 := Tryd.zeroValue66
  t138 := Tryd.underlying79
  a138 := Tryd.isAgg79
  z138 := Tryd.sizeOf79
  v138 := Tryd.zeroValue79
  t139 := Tryd.underlying80
  a139 := Tryd.isAgg80
  z139 := Tryd.sizeOf80
  v139 := Tryd.zeroValue80
  g3 := by kernel_rfl
  g4 := by kernel_rfl }
def Tryd.lays161_ren : Go.Shelf.Ren := ⟨fun | 161 => 49 | 231 => 37 | 227 => 39 | 233 => 40 | 235 => 42 | 228 => 52 | 197 => 53 | 151 => 54 | 260 => 57 | 152 => 58 | 137 => 23 | 119 => 63 | 224 => 61 | 225 => 60 | 217 => 36 | 266 => 51 | n => n, fun | 9 => 9 | 4 => 4 | 3 => 3 | 5 => 5 | 117 => 63 | 116 => 62 | 0 => 0 | 124 => 66 | 105 => 70 | 21 => 21 | 119 => 77 | 46 => 76 | 139 => 80 | 138 => 79 | n => n, fun | 3 => 1 | 4 => 2 | n => n⟩
theorem Tryd.lays161 : Go.Proofs.Lays.n161 Tryd.prog Tryd.lays161_ren := {
  mixed := by kernel_rfl
  f119 := Tryd.func63.trans (congrArg some (by kernel_rfl))
  f137 := Tryd.func23.trans (congrArg some (by kernel_rfl))
  f151 := Tryd.func54.trans (congrArg some (by kernel_rfl))
  f152 := Tryd.func58.trans (congrArg some (by kernel_rfl))
  f161 := Tryd.func49.trans (congrArg some (by kernel_rfl))
  f197 := Tryd.func53.trans (congrArg some (by kernel_rfl))
  f217 := Tryd.func36.trans (congrArg some (by kernel_rfl))
  f224 := Tryd.func61.trans (congrArg some (by kernel_rfl))
  f225 := Tryd.func60.trans (congrArg some (by kernel_rfl))
  f227 := Tryd.func39.trans (congrArg some (by kernel_rfl))
  f228 := Tryd.func52.trans (congrArg some (by kernel_rfl))
  f231 := Tryd.func37.trans (congrArg some (by kernel_rfl))
  f233 := Tryd.func40.trans (congrArg some (by kernel_rfl))
  f235 := Tryd.func42.trans (congrArg some (by kernel_rfl))
  f260 := Tryd.func57.trans (congrArg some (by kernel_rfl))
  f266 := Tryd.func51.trans (congrArg some (by kernel_rfl))
  t0 := Tryd.underlying0
  a0 := Tryd.isAgg0
  z0 := Tryd.sizeOf0
  v0 := Tryd.zeroValue0
  t3 := Tryd.underlying3
  a3 := Tryd.isAgg3
  z3 := Tryd.sizeOf3
  v3 := Tryd.zeroValue3
  t4 := Tryd.underlying4
  a4 := Tryd.isAgg4
  z4 := Tryd.sizeOf4
  v4 := Tryd.zeroValue4
  t5 := Tryd.underlying5
  a5 := Tryd.isAgg5
  z5 := Tryd.sizeOf5
  v5 := Tryd.zeroValue5
  t9 := Tryd.underlying9
  a9 := Tryd.isAgg9
  z9 := Tryd.sizeOf9
  v9 := Tryd.zeroValue9
  t21 := Tryd.underlying21
  a21 := Tryd.isAgg21
  z21 := Tryd.sizeOf21
  v21 := Tryd.zeroValue21
  t46 := Tryd.underlying76
  a46 := Tryd.isAgg76
  z46 := Tryd.sizeOf76
  v46 := Tryd.zeroValue76
  t105 := Tryd.underlying70
  a105 := Tryd.isAgg70
  z105 := Tryd.sizeOf70
  v105 := Tryd.zeroValue70
  t116 := Tryd.underlying62
  a116 := Tryd.isAgg62
  z116 := Tryd.sizeOf62
  t117 := Tryd.underlying63
  a117 := Tryd.isAgg63
  z117 := Tryd.sizeOf63
  v117 := Tryd.zeroValue63
  t119 := Tryd.underlying77
  a119 := Tryd.isAgg77
  z119 := Tryd.sizeOf77
  t124 := Tryd.underlying66
  a124 := Tryd.isAgg66
  z124 := Tryd.sizeOf66
  v124 := Tryd.zeroValue66
  t138 := Tryd.underlying79
  a138 := Tryd.isAgg79
  z138 := Tryd.sizeOf79
  v138 := Tryd.zeroValue79
  t139 := Tryd.underlying80
  a139 := Tryd.isAgg80
  z139 := Tryd.sizeOf80
  v139 := Tryd.zeroValue80
  g3 := by kernel_rfl
  g4 := by kernel_rfl }
end Go.Proofs

/- The walks of Keyword and of the reference's Reserved. Condition: the variable bytealg.MaxLen holds some int. -/
namespace Go.Proofs.YtnnpheacekieaaaDoor.lk
open Go.RowKit Go.Eng
set_option maxRecDepth 100000
theorem kbytes : ([32, 109, 111, 100, 117, 108, 101, 32, 105, 109, 112, 111, 114, 116, 32, 101, 120, 112, 111, 114, 116, 32, 100, 97, 116, 97, 32, 99, 108, 97, 115, 115, 32, 105, 110, 115, 116, 97, 110, 99, 101, 32, 101, 102, 102, 101, 99, 116, 32, 119, 104, 101, 114, 101, 32, 108, 101, 116, 32, 105, 110, 32, 105, 102, 32, 116, 104, 101, 110, 32, 101, 108, 115, 101, 32, 99, 97, 115, 101, 32, 111, 102, 32, 104, 97, 110, 100, 108, 101, 32, 119, 105, 116, 104, 32, 105, 110, 102, 105, 120, 108, 32, 105, 110, 102, 105, 120, 114, 32, 105, 110, 102, 105, 120, 32, 114, 101, 116, 117, 114, 110, 32, 32, 61, 32, 45, 62, 32, 61, 62, 32, 58, 32, 124, 32, 92, 32, 46, 32, 33, 32] : List UInt8) = Kw.kstr := by decide +kernel
theorem rbytes : ([124, 109, 111, 100, 117, 108, 101, 124, 105, 109, 112, 111, 114, 116, 124, 101, 120, 112, 111, 114, 116, 124, 100, 97, 116, 97, 124, 99, 108, 97, 115, 115, 124, 105, 110, 115, 116, 97, 110, 99, 101, 124, 101, 102, 102, 101, 99, 116, 124, 119, 104, 101, 114, 101, 124, 108, 101, 116, 124, 105, 110, 124, 105, 102, 124, 116, 104, 101, 110, 124, 101, 108, 115, 101, 124, 99, 97, 115, 101, 124, 111, 102, 124, 104, 97, 110, 100, 108, 101, 124, 119, 105, 116, 104, 124, 105, 110, 102, 105, 120, 108, 124, 105, 110, 102, 105, 120, 114, 124, 105, 110, 102, 105, 120, 124, 114, 101, 116, 117, 114, 110, 124, 61, 124, 45, 62, 124, 61, 62, 124, 58, 124, 92, 124, 46, 124, 33, 124] : List UInt8) = Kw.rstr := by decide +kernel
def kB : ByteArray := ⟨Kw.kstr.toArray⟩
def rB : ByteArray := ⟨Kw.rstr.toArray⟩
theorem kBl : kB.data.toList = Kw.kstr := rfl
theorem rBl : rB.data.toList = Kw.rstr := rfl
/-- the variable that the library's search reads -/
def maxAt (w : World) : Prop := ∃ m, w.cell? ⟨0, 0, none⟩ = some (.int .i64 m)
theorem maxAt_of {w : World} (h : w.ShapedOpen Tryd.prog) : maxAt w := Tryd.laysM144.s1_3 w h
theorem maxAt_keep {s w : World} {H : List Go.Eng.Item} {S : List World} (hw : Cls H S w) (hs : s ∈ S) (hno : NotOwned H 0) (h : maxAt s) : maxAt w :=
  h.elim fun m hm => ⟨m, (hw.cell hs (cell_lt hm) hno).trans hm⟩
theorem contains_calls (s sub : ByteArray) (hs : s.size < 4294967281) (w : World) (hm : maxAt w) :
    Calls Tryd.prog 50 #[.string s, .string sub] w fun e w' => e = .returned (.bool (Lib.contains s.data.toList sub.data.toList)) ∧ w' = w :=
  hm.elim fun m hm => Any.strings_Contains Tryd.lays144 s sub m w hs hm
theorem contains_one_calls (s : ByteArray) (c : UInt8) (w : World) :
    Calls Tryd.prog 50 #[.string s, .string ⟨#[c]⟩] w fun e w' => e = .returned (.bool (decide (0 ≤ Lib.indexByte s.data.toList c))) ∧ w' = w := Any.strings_Contains_one Tryd.lays144 s c w
theorem indexByte_calls (s : ByteArray) (c : Int) (w : World) :
    Calls Tryd.prog 23 #[.string s, .int .u8 c] w fun e w' => e = .returned (.int .i64 (Lib.indexByte s.data.toList c.toNat.toUInt8)) ∧ w' = w := Any.strings_IndexByte Tryd.lays137 s c w
theorem containsK (sub : ByteArray) (w : World) (hm : maxAt w) :
    Calls Tryd.prog 50 #[.string ⟨#[32, 109, 111, 100, 117, 108, 101, 32, 105, 109, 112, 111, 114, 116, 32, 101, 120, 112, 111, 114, 116, 32, 100, 97, 116, 97, 32, 99, 108, 97, 115, 115, 32, 105, 110, 115, 116, 97, 110, 99, 101, 32, 101, 102, 102, 101, 99, 116, 32, 119, 104, 101, 114, 101, 32, 108, 101, 116, 32, 105, 110, 32, 105, 102, 32, 116, 104, 101, 110, 32, 101, 108, 115, 101, 32, 99, 97, 115, 101, 32, 111, 102, 32, 104, 97, 110, 100, 108, 101, 32, 119, 105, 116, 104, 32, 105, 110, 102, 105, 120, 108, 32, 105, 110, 102, 105, 120, 114, 32, 105, 110, 102, 105, 120, 32, 114, 101, 116, 117, 114, 110, 32, 32, 61, 32, 45, 62, 32, 61, 62, 32, 58, 32, 124, 32, 92, 32, 46, 32, 33, 32]⟩, .string sub] w fun e w' => e = .returned (.bool (Lib.contains Kw.kstr sub.data.toList)) ∧ w' = w := by
  have h := contains_calls ⟨#[32, 109, 111, 100, 117, 108, 101, 32, 105, 109, 112, 111, 114, 116, 32, 101, 120, 112, 111, 114, 116, 32, 100, 97, 116, 97, 32, 99, 108, 97, 115, 115, 32, 105, 110, 115, 116, 97, 110, 99, 101, 32, 101, 102, 102, 101, 99, 116, 32, 119, 104, 101, 114, 101, 32, 108, 101, 116, 32, 105, 110, 32, 105, 102, 32, 116, 104, 101, 110, 32, 101, 108, 115, 101, 32, 99, 97, 115, 101, 32, 111, 102, 32, 104, 97, 110, 100, 108, 101, 32, 119, 105, 116, 104, 32, 105, 110, 102, 105, 120, 108, 32, 105, 110, 102, 105, 120, 114, 32, 105, 110, 102, 105, 120, 32, 114, 101, 116, 117, 114, 110, 32, 32, 61, 32, 45, 62, 32, 61, 62, 32, 58, 32, 124, 32, 92, 32, 46, 32, 33, 32]⟩ sub (by decide +kernel) w hm
  have e : (⟨#[32, 109, 111, 100, 117, 108, 101, 32, 105, 109, 112, 111, 114, 116, 32, 101, 120, 112, 111, 114, 116, 32, 100, 97, 116, 97, 32, 99, 108, 97, 115, 115, 32, 105, 110, 115, 116, 97, 110, 99, 101, 32, 101, 102, 102, 101, 99, 116, 32, 119, 104, 101, 114, 101, 32, 108, 101, 116, 32, 105, 110, 32, 105, 102, 32, 116, 104, 101, 110, 32, 101, 108, 115, 101, 32, 99, 97, 115, 101, 32, 111, 102, 32, 104, 97, 110, 100, 108, 101, 32, 119, 105, 116, 104, 32, 105, 110, 102, 105, 120, 108, 32, 105, 110, 102, 105, 120, 114, 32, 105, 110, 102, 105, 120, 32, 114, 101, 116, 117, 114, 110, 32, 32, 61, 32, 45, 62, 32, 61, 62, 32, 58, 32, 124, 32, 92, 32, 46, 32, 33, 32]⟩ : ByteArray).data.toList = Kw.kstr := kbytes
  rw [e] at h
  exact h
theorem containsR (sub : ByteArray) (w : World) (hm : maxAt w) :
    Calls Tryd.prog 50 #[.string ⟨#[124, 109, 111, 100, 117, 108, 101, 124, 105, 109, 112, 111, 114, 116, 124, 101, 120, 112, 111, 114, 116, 124, 100, 97, 116, 97, 124, 99, 108, 97, 115, 115, 124, 105, 110, 115, 116, 97, 110, 99, 101, 124, 101, 102, 102, 101, 99, 116, 124, 119, 104, 101, 114, 101, 124, 108, 101, 116, 124, 105, 110, 124, 105, 102, 124, 116, 104, 101, 110, 124, 101, 108, 115, 101, 124, 99, 97, 115, 101, 124, 111, 102, 124, 104, 97, 110, 100, 108, 101, 124, 119, 105, 116, 104, 124, 105, 110, 102, 105, 120, 108, 124, 105, 110, 102, 105, 120, 114, 124, 105, 110, 102, 105, 120, 124, 114, 101, 116, 117, 114, 110, 124, 61, 124, 45, 62, 124, 61, 62, 124, 58, 124, 92, 124, 46, 124, 33, 124]⟩, .string sub] w fun e w' => e = .returned (.bool (Lib.contains Kw.rstr sub.data.toList)) ∧ w' = w := by
  have h := contains_calls ⟨#[124, 109, 111, 100, 117, 108, 101, 124, 105, 109, 112, 111, 114, 116, 124, 101, 120, 112, 111, 114, 116, 124, 100, 97, 116, 97, 124, 99, 108, 97, 115, 115, 124, 105, 110, 115, 116, 97, 110, 99, 101, 124, 101, 102, 102, 101, 99, 116, 124, 119, 104, 101, 114, 101, 124, 108, 101, 116, 124, 105, 110, 124, 105, 102, 124, 116, 104, 101, 110, 124, 101, 108, 115, 101, 124, 99, 97, 115, 101, 124, 111, 102, 124, 104, 97, 110, 100, 108, 101, 124, 119, 105, 116, 104, 124, 105, 110, 102, 105, 120, 108, 124, 105, 110, 102, 105, 120, 114, 124, 105, 110, 102, 105, 120, 124, 114, 101, 116, 117, 114, 110, 124, 61, 124, 45, 62, 124, 61, 62, 124, 58, 124, 92, 124, 46, 124, 33, 124]⟩ sub (by decide +kernel) w hm
  have e : (⟨#[124, 109, 111, 100, 117, 108, 101, 124, 105, 109, 112, 111, 114, 116, 124, 101, 120, 112, 111, 114, 116, 124, 100, 97, 116, 97, 124, 99, 108, 97, 115, 115, 124, 105, 110, 115, 116, 97, 110, 99, 101, 124, 101, 102, 102, 101, 99, 116, 124, 119, 104, 101, 114, 101, 124, 108, 101, 116, 124, 105, 110, 124, 105, 102, 124, 116, 104, 101, 110, 124, 101, 108, 115, 101, 124, 99, 97, 115, 101, 124, 111, 102, 124, 104, 97, 110, 100, 108, 101, 124, 119, 105, 116, 104, 124, 105, 110, 102, 105, 120, 108, 124, 105, 110, 102, 105, 120, 114, 124, 105, 110, 102, 105, 120, 124, 114, 101, 116, 117, 114, 110, 124, 61, 124, 45, 62, 124, 61, 62, 124, 58, 124, 92, 124, 46, 124, 33, 124]⟩ : ByteArray).data.toList = Kw.rstr := rbytes
  rw [e] at h
  exact h
theorem mem_index (l : List UInt8) (c : UInt8) : decide (0 ≤ Lib.indexByte l c) = decide (c ∈ l) := by
  rw [← Lib.contains_iff_indexByte]
  simp
theorem ne_empty (s : ByteArray) : decide (s = ⟨#[]⟩) = decide (s.data.toList = []) := by
  apply decide_eq_decide.2
  constructor
  · intro h; rw [h]
  · intro h; apply ByteArray.ext; apply Array.ext'; exact h
theorem one_eq (s : ByteArray) (c : UInt8) : decide (s = ⟨#[c]⟩) = decide (s.data.toList = [c]) := by
  apply decide_eq_decide.2
  constructor
  · intro h; rw [h]
  · intro h; apply ByteArray.ext; apply Array.ext'; exact h
theorem lt_index (l : List UInt8) (c : UInt8) : decide (Lib.indexByte l c < 0) = !decide (c ∈ l) := by
  rw [← mem_index]
  by_cases h : Lib.indexByte l c < 0
  · simp [h]
  · simp [h]; omega
theorem around (s : ByteArray) (c : UInt8) : ((⟨#[c]⟩ : ByteArray) ++ s ++ ⟨#[c]⟩).data.toList = c :: s.data.toList ++ [c] := by
  simp [ByteArray.data_append]
theorem Keyword_calls (s : ByteArray) (hs : s.size < 4611686018427387904) (w : World) (hm : maxAt w) : Calls Tryd.prog 35 #[.string s] w fun e w' => e = .returned (.bool (Kw.kw s.data.toList)) ∧ Ext w w' := by
  refine enter Tryd.func35 rfl Tryd.ntmps35 rfl (Cls.start w) ?_
  (simp only [argEnv, Nat.zero_add, Nat.reduceAdd])
  apply W.sr
  apply oas; rfl; rfl
  apply OL.nsr
  apply omv; rfl; rfl
  apply obn; rfl; rfl; rfl; apply Bin.str_neq
  apply omv; rfl; rfl
  apply oy; rfl; rfl; rfl; apply Pev.move; rfl; exact yes
  (((first | (with_reducible apply OL.op) | (with_reducible apply QL.op)); (exact Guard.au); rfl; rfl); (exact Pev.call rfl (by exact Args.au) (fun _ w2 hw2 => (contains_one_calls s 32 w2).mono (fun e w3 h => ⟨h.1, by rw [h.2]; exact hw2⟩))))
  apply oy; rfl; rfl; rfl; apply Pev.not; rfl; exact fun h => h
  apply oop; rfl; apply Pev.pick_and; rfl; exact yes; rfl; exact fun h => h
  apply omv; rfl; rfl
  apply oy; rfl; rfl; rfl; apply Pev.move; rfl; exact yes
  (((first | (with_reducible apply OL.op) | (with_reducible apply QL.op)); (exact Guard.au); rfl; rfl); (apply Pev.bin); rfl; ((first | exact fun _ => rfl | exact fun h => h | (intro h; simp_all; done))); rfl; ((first | exact fun _ => rfl | exact fun h => h | (intro h; simp_all; done))); (intro _; apply Bin.str_add); (show 1 + s.size ≤ _; omega))
  (((first | (with_reducible apply OL.op) | (with_reducible apply QL.op)); (exact Guard.au); rfl; rfl); (apply Pev.bin); rfl; ((first | exact fun _ => rfl | exact fun h => h | (intro h; simp_all; done))); rfl; ((first | exact fun _ => rfl | exact fun h => h | (intro h; simp_all; done))); (intro _; apply Bin.str_add); (rw [ByteArray.size_append]; show 1 + s.size + 1 ≤ _; omega))
  skip
  (((first | (with_reducible apply OL.op) | (with_reducible apply QL.op)); (exact Guard.au); rfl; rfl); (exact Pev.call rfl (by exact Args.au) (fun _ w2 hw2 => (containsK _ w2 (maxAt_keep hw2 (by exact mau) NotOwned.nil hm)).mono (fun e w3 h => ⟨h.1, by rw [h.2]; exact hw2⟩))))
  apply oop; rfl; apply Pev.pick_and; rfl; exact yes; rfl; exact fun h => h
  apply oas; rfl; rfl
  apply OL.nx
  apply W.ret
  ((with_reducible apply At.fin1); rfl; rfl; intro w' hw')
  refine ⟨?_, by (exact hw'.fr)⟩
  rw [ne_empty, mem_index, around]
  unfold Kw.kw
  congr 2
  simp [Bool.and_assoc]
theorem Reserved_calls (s : ByteArray) (hs : s.size < 4611686018427387904) (w : World) (hm : maxAt w) : Calls Tryd.prog 34 #[.string s] w fun e w' => e = .returned (.bool (Kw.rs s.data.toList)) ∧ Ext w w' := by
  refine enter Tryd.func34 rfl Tryd.ntmps34 rfl (Cls.start w) ?_
  (simp only [argEnv, Nat.zero_add, Nat.reduceAdd])
  apply W.sr
  apply oas; rfl; rfl
  apply OL.nsr
  apply omv; rfl; rfl
  apply obn; rfl; rfl; rfl; apply Bin.str_eql
  apply omv; rfl; rfl
  apply ono; rfl; rfl; rfl; apply Pev.move; rfl; exact yes
  apply ono; rfl; rfl; rfl; apply Pev.bin; rfl; exact fun h => h; rfl; exact yes; intro hcond; apply Bin.str_neq
  apply ono; rfl; rfl; rfl; apply Pev.move; rfl; exact fun h => h
  apply OL.op; exact Guard.cyes rfl rfl; rfl; rfl; apply Pev.move; rfl; exact yes
  (((first | (with_reducible apply OL.op) | (with_reducible apply QL.op)); (exact Guard.au); rfl; rfl); (exact Pev.call rfl (by exact Args.au) (fun _ w2 hw2 => (indexByte_calls s 124 w2).mono (fun e w3 h => ⟨h.1, by rw [h.2]; exact hw2⟩))))
  apply OL.op; exact Guard.cyes rfl rfl; rfl; rfl; apply Pev.bin; rfl; exact fun h => h; rfl; exact yes; intro hcond; apply Bin.lss
  apply ono; rfl; rfl; rfl; apply Pev.pick_and; rfl; exact fun h => h; rfl; exact fun h => h
  apply ono; rfl; rfl; rfl; apply Pev.move; rfl; exact fun h => h
  apply OL.op; exact Guard.cyes rfl rfl; rfl; rfl; apply Pev.move; rfl; exact yes
  (((first | (with_reducible apply OL.op) | (with_reducible apply QL.op)); (exact Guard.au); rfl; rfl); (apply Pev.bin); rfl; ((first | exact fun _ => rfl | exact fun h => h | (intro h; simp_all; done))); rfl; ((first | exact fun _ => rfl | exact fun h => h | (intro h; simp_all; done))); (intro _; apply Bin.str_add); (show 1 + s.size ≤ _; omega))
  (((first | (with_reducible apply OL.op) | (with_reducible apply QL.op)); (exact Guard.au); rfl; rfl); (apply Pev.bin); rfl; ((first | exact fun _ => rfl | exact fun h => h | (intro h; simp_all; done))); rfl; ((first | exact fun _ => rfl | exact fun h => h | (intro h; simp_all; done))); (intro _; apply Bin.str_add); (rw [ByteArray.size_append]; show 1 + s.size + 1 ≤ _; omega))
  skip
  (((first | (with_reducible apply OL.op) | (with_reducible apply QL.op)); (exact Guard.au); rfl; rfl); (exact Pev.call rfl (by exact Args.au) (fun _ w2 hw2 => (containsR _ w2 (maxAt_keep hw2 (by exact mau) NotOwned.nil hm)).mono (fun e w3 h => ⟨h.1, by rw [h.2]; exact hw2⟩))))
  apply ono; rfl; rfl; rfl; apply Pev.pick_and; rfl; exact fun h => h; rfl; exact fun h => h
  apply oop; rfl; apply Pev.pick_or; rfl; exact yes; rfl; exact fun h => h
  apply oas; rfl; rfl
  apply OL.nx
  apply W.ret
  ((with_reducible apply At.fin1); rfl; rfl; intro w' hw')
  refine ⟨?_, by (exact hw'.fr)⟩
  rw [ne_empty, one_eq, around, show (Int.toNat 124).toUInt8 = 124 from rfl, lt_index]
  unfold Kw.rs
  congr 2
  simp [Bool.and_assoc]
end Go.Proofs.YtnnpheacekieaaaDoor.lk

/- Rows that a function grows by append: an item for the slice with its cells and the blocks that it has owned. General. No condition. -/
namespace Go.Eng
open Go.RowKit
theorem ownsRow_stab {w w' : World} {base n size : Nat} {e : TypeId} {v : Value} {xs : List Value} (hk : ∀ k, v.ownBlock = some k → w'.heap[k]? = w.heap[k]?) (h : w.ownsRow base e size v n xs) : w'.ownsRow base e size v n xs := by
  refine ⟨h.1, ?_⟩
  rcases h.2 with h2 | ⟨g, cap, cur, rfl, hb, hg, hr⟩
  · exact .inl h2
  · exact .inr ⟨g, cap, cur, rfl, hb, by rw [hk g rfl]; exact hg, hr⟩
/-- a grown row: the slice q n cap, cells xs; its blocks, now and before, lie in O, at base or above -/
def row (base : Nat) (O : Nat → Prop) (q : Option Addr) (n cap : Nat) (e : TypeId) (size : Nat) (xs : List Value) : Item :=
  ⟨fun k => base ≤ k ∧ O k, fun w => (∀ a, q = some a → O a.block) ∧ w.ownsRow base e size (.slice q n cap) n xs, fun w w' hk h => ⟨h.1, by
    refine ownsRow_stab (fun k hk' => ?_) h.2
    cases q with
    | none => simp [Value.ownBlock] at hk'
    | some a =>
      simp only [Value.ownBlock, Option.some.injEq] at hk'
      subst hk'
      rcases h.2.2 with ⟨h3, _⟩ | ⟨g, cap', cur, h3, hb, _⟩
      · cases h3
      · simp only [Value.slice.injEq, Option.some.injEq] at h3
        obtain ⟨rfl, _⟩ := h3
        exact hk _ ⟨hb, h.1 _ rfl⟩⟩⟩
section
variable {P : Program} {n : Nm} {l : Env} {H : List Item} {S : List World} {C : World → Prop} {c : Bool} {d : Option Nat} {ty : TypeId} {pos : String} {af : Array Edge} {g : Option (Nat × Bool)}
variable {ops : Array Oper} {rest : List Oper} {Q : Exit → Act → World → Prop}
variable {t : TypeId} {x y z : Operand} {cx cy cz : Bool}
theorem NotOwned.row {base m cap size k : Nat} {O : Nat → Prop} {q : Option Addr} {e : TypeId} {xs : List Value} (h : k < base) (r : NotOwned H k) : NotOwned (Eng.row base O q m cap e size xs :: H) k :=
  NotOwned.any (fun ho => Nat.not_le_of_lt h ho.1) r
theorem Cls.row_nil {w : World} (h : Cls H S w) (base : Nat) (e : TypeId) (size : Nat) : Cls (row base (fun _ => False) none 0 0 e size [] :: H) S w :=
  h.add (Keep.refl _ w) _ ⟨fun a ha => (by cases ha), World.ownsRow_nil w base e size⟩ (fun k hk => hk.2.elim)
theorem row_cell {w : World} {base m cap size o g0 : Nat} {O : Nat → Prop} {e : TypeId} {xs : List Value} {v : Value} (h : (row base O (some ⟨g0, 0, none⟩) m cap e size xs).holds w) (hv : xs[o]? = some v) : w.cell? ⟨g0, o, none⟩ = some v := by
  rcases h.2.2 with ⟨h3, _⟩ | ⟨g, cap', cur, h3, hb, hg, h4, h5, h6, h7⟩
  · cases h3
  · simp only [Value.slice.injEq, Option.some.injEq, Addr.mk.injEq] at h3
    obtain ⟨⟨rfl, _⟩, _⟩ := h3
    have : cur[o]? = some v := by
      rw [← h7] at hv
      have hl := (List.getElem?_eq_some_iff.1 hv).1
      rw [List.length_take] at hl
      rw [List.getElem?_take_of_lt (by omega)] at hv
      simpa using hv
    simp [World.cell?, hg, this]
theorem OL.newT {α : Type} {o : Oper} {dd : Nat} {C' : α → World → Prop} (hg : o.guard = none) (hd : o.dst = some dd) (hn : Nat.ble (dd + 1) n.n = true) (V : α → Value)
    (hv : ∀ a w, Sees n l a → C w → ∃ b w', (execOp a.eval o).run P w = .ok (.value (V b)) w' ∧ C' b w')
    (k : ∀ b, OL P n ops Q rest ((dd, true, V b) :: l) (C' b)) : OL P n ops Q (o :: rest) l C := by
  have hn' := Nat.le_of_ble_eq_true hn
  refine ⟨fun a w hs hc => ?_⟩
  refine wpList_plain hg fun K hK => ?_
  obtain ⟨b, w', hr, hc'⟩ := hv a w hs hc
  show Oper.upon P o a K Q ((execOp a.eval o).run P w)
  rw [hr]
  show K (a.put o.dst (V b)) w'
  rw [hd]
  exact hK _ _ ((k b).run _ w' (hs.put hn' true _) hc')
/-- element type, its cells and bytes, of a slice type one may append to -/
def rowElem (P : Program) (t : TypeId) : Option (TypeId × Nat × Nat) := match P.underlying t with
  | some (.slice e) => match P.info? e with
    | some i => match i.zero with
      | some z => match Nat.beq z.cells.size i.size && !Nat.beq i.size 0 with
        | true => match lit i.size, lit i.bytes with
          | some a, some b => some (e, a, b)
          | _, _ => none
        | false => none
      | none => none
    | none => none
  | _ => none
theorem oneL_mem : ∀ {vs : List Value}, oneL vs = true → ∀ u ∈ vs, u.oneCell' = true
  | [], _, u, hu => by cases hu
  | v :: r, h, u, hu => by
    simp only [oneL, Bool.and_eq_true] at h
    rcases List.mem_cons.1 hu with rfl | hu
    · exact h.1
    · exact oneL_mem h.2 u hu
theorem rowElem_spec {t e : TypeId} {sz by' : Nat} (h : rowElem P t = some (e, sz, by')) : ∃ i z, P.underlying t = some (.slice e) ∧ P.info? e = some i ∧ i.zero = some z ∧ i.size = sz ∧ i.bytes = by' ∧ z.cells.size = sz ∧ 0 < sz := by
  unfold rowElem at h
  split at h
  · rename_i e' he
    split at h
    · rename_i i hi
      split at h
      · rename_i z hz
        split at h
        · rename_i hb
          split at h
          · rename_i a b ha hb'
            simp only [Option.some.injEq, Prod.mk.injEq] at h
            obtain ⟨rfl, rfl, rfl⟩ := h
            simp only [Bool.and_eq_true, Nat.beq_eq, Bool.not_eq_true'] at hb
            have h1 := lit_eq ha
            have h2 := lit_eq hb'
            refine ⟨i, z, he, hi, hz, h1, h2, by rw [hb.1, h1], ?_⟩
            rw [← h1]
            rcases Nat.eq_zero_or_pos i.size with h0 | h0
            · rw [h0] at hb; simp at hb
            · exact h0
          · cases h
        · cases h
      · cases h
    · cases h
  · cases h
/-- the place of an item, and the list with another one there -/
inductive Hole : Nat → List Item → Item → (Item → List Item) → Prop where
  | z {i : Item} {H : List Item} : Hole 0 (i :: H) i (fun j => j :: H)
  | s {p : Nat} {k i : Item} {H : List Item} {F : Item → List Item} (h : Hole p H i F) : Hole (p + 1) (k :: H) i (fun j => k :: F j)
theorem Hole.au {p : Nat} {H : List Item} {i : Item} {F : Item → List Item} (h : Hole p H i F := by (repeat (first | apply Hole.z | apply Hole.s)); first | done | fail) : Hole p H i F := h
theorem Hole.eq {p : Nat} {H : List Item} {i : Item} {F : Item → List Item} (h : Hole p H i F) : H[p]? = some i ∧ ∀ j, F j = H.set p j := by
  induction h with
  | z => exact ⟨rfl, fun j => rfl⟩
  | s h ih => exact ⟨ih.1, fun j => by show _ :: _ = _ :: _; rw [ih.2 j]⟩
theorem OL.append {F : Item → List Item} {e : TypeId} {dd sz bb p m cap cap2 o b m2 : Nat} {base : Nat} {O : Nat → Prop} {q : Option Addr} {xs cs news : List Value} {t' : TypeId}
    (hx : evl l x = some (true, .slice q m cap)) (hy : evl l y = some (true, .slice (some ⟨b, o, none⟩) m2 cap2)) (hn : Nat.ble (dd + 1) n.n = true)
    (hu : rowElem P t = some (e, sz, bb)) (hp' : Hole p H (row base O q m cap e sz xs) F) (hb : blk b t' cs ∈ H) (ht : Take (m2 * sz) (cs.drop o) news) (h1 : oneL news = true) (hm2 : Nat.ble 1 m2 = true)
    (hs : ∃ s ∈ S, base ≤ s.heap.size) (hlim : (m + m2) ≤ 9223372036854775807 ∧ (m + m2) * bb ≤ 140737488355328)
    (k : ∀ (O' : Nat → Prop) (g' cap' : Nat), OL P n ops Q rest ((dd, true, .slice (some ⟨g', 0, none⟩) (m + m2) cap') :: l) (Cls (F (row base O' (some ⟨g', 0, none⟩) (m + m2) cap' e sz (xs ++ news))) S)) :
    OL P n ops Q (⟨some dd, .call { callee := .builtin .append, args := #[x, y], argTypes := #[t, t] }, ty, pos, af, none⟩ :: rest) l (Cls H S) := by
  have hp := hp'.eq.1
  have hF := hp'.eq.2
  refine OL.newT (α := (Nat → Prop) × Nat × Nat) (C' := fun r w => Cls (H.set p (row base r.1 (some ⟨r.2.1, 0, none⟩) (m + m2) r.2.2 e sz (xs ++ news))) S w) rfl rfl hn (fun r => .slice (some ⟨r.2.1, 0, none⟩) (m + m2) r.2.2) (fun a w hs' hc => ?_) (fun r => by rw [← hF]; exact k r.1 r.2.1 r.2.2)
  obtain ⟨i, z, g1, g2, g3, g4, g5, g6, g7⟩ := rowElem_spec hu
  obtain ⟨s, hsm, hsb⟩ := hs
  have hbw : base ≤ w.heap.size := Nat.le_trans hsb (hc.kp s hsm).size
  have hi := hc.item (List.mem_of_getElem? hp)
  have hnews : ∀ j u, news[j]? = some u → w.cell? ((⟨b, o, none⟩ : Addr).add j) = some u := fun j u hj => by
    rw [add_mid, blk_cell (hc.item hb)]
    have := ht.get.2 j u hj
    rwa [List.getElem?_drop] at this
  obtain ⟨v', w', hr, h2, h3, h4, h5⟩ := run_append_own_at (P := P) (w := w) base t ty e i z sz bb g1 g2 g3 g4 g5 g6 g7 _ m xs hi.2 ⟨b, o, none⟩ m2 cap2 news ht.get.1 hnews (fun u hu => oneL_mem h1 u hu) hlim.1 hlim.2 hbw
  have hpos : 1 ≤ m2 := Nat.le_of_ble_eq_true hm2
  rcases h2.2 with ⟨rfl, h0⟩ | ⟨g', cap', cur, rfl, hb', hg', hrest⟩
  · omega
  · refine ⟨(fun k => O k ∨ k = g', g', cap'), w', ?_, ?_⟩
    · simp only [execOp, resolve, invoke, builtin, Sem.run_bind, Sem.run_pure, Result.andThen_ok, List.map_toArray, List.map_cons, List.map_nil, hs'.eval hx rfl, hs'.eval hy rfl, hr]
    · have hown : ∀ k, some k = (Value.slice q m cap).ownBlock → base ≤ k ∧ O k := fun k hk => by
        cases q with
        | none => simp [Value.ownBlock] at hk
        | some a =>
          simp only [Value.ownBlock, Option.some.injEq] at hk
          subst hk
          exact ⟨(World.ownsRow.lt hi.2 _ rfl).1, hi.1 _ rfl⟩
      refine hc.turn p hp (j := row base (fun k => O k ∨ k = g') (some ⟨g', 0, none⟩) (m + m2) cap' e sz (xs ++ news)) ⟨h3.os, h3.tape, h3.output, h3.size, fun k hk hO => h3.block k hk (fun e => hO (hown k e))⟩ ?_ ?_ ?_
      · exact ⟨fun a ha => by cases ha; exact .inr rfl, h2⟩
      · intro k hk
        have hlt : g' < w'.heap.size := (Array.getElem?_eq_some_iff.1 hg').1
        rcases hk.2 with h | h
        · exact ⟨.inl ⟨hk.1, h⟩, Nat.lt_of_lt_of_le (hc.lt _ (List.mem_of_getElem? hp) k ⟨hk.1, h⟩) h3.size⟩
        · subst h
          refine ⟨?_, hlt⟩
          rcases h5 with h5 | h5
          · exact .inl (hown k (by rw [← h5]; rfl))
          · simp only [Value.ownBlock, Option.some.injEq] at h5
            exact .inr (by omega)
      · exact fun k hk => ⟨hk.1, .inl hk.2⟩
/-- a cell of a row -/
theorem Pev.load_row {b o base m cap size : Nat} {O : Nat → Prop} {e : TypeId} {xs : List Value} {v : Value} (hx : evl l x = some (cx, .pointer (some ⟨b, o, none⟩))) (hcx : c = true → cx = true)
    (hp : row base O (some ⟨b, 0, none⟩) m cap e size xs ∈ H) (hs : scalB P t = true) (hv : xs[o]? = some v) : Pev P n l (Cls H S) ⟨d, .load t x, ty, pos, af, g⟩ c v :=
  .load_of hx hcx fun _ w hw => run_loadVar_scal hs (row_cell (hw.item hp) hv)
theorem Pev.load_rowA {b o base m cap size k : Nat} {O : Nat → Prop} {e : TypeId} {xs vs : List Value} (hx : evl l x = some (cx, .pointer (some ⟨b, o, none⟩))) (hcx : c = true → cx = true)
    (hp : row base O (some ⟨b, 0, none⟩) m cap e size xs ∈ H) (hs : aggN P t = some k) (hv : Take k (xs.drop o) vs) : Pev P n l (Cls H S) ⟨d, .load t x, ty, pos, af, g⟩ c (.agg vs.toArray) :=
  .load_of hx hcx fun _ w hw => run_loadVar_agg (by rw [hv.get.1]; exact hs) fun j v hj => by
    rw [add_mid]
    have := hv.get.2 j v hj
    rw [List.getElem?_drop] at this
    exact row_cell (hw.item hp) this
end
end Go.Eng

/- Slices that are read: their cells in a world; slices of strings. General. No condition. -/
namespace Go.Eng
open Go.RowKit
/-- the cells vs of the slice that begins at q, in blocks under B -/
def SlAt (w : World) (B : Nat) (q : Option Addr) (vs : List Value) : Prop := 0 < vs.length → ∃ a, q = some a ∧ a.block < B ∧ CellsAt w a vs
theorem SlAt.nil {w : World} {B : Nat} {q : Option Addr} : SlAt w B q [] := fun h => by simp at h
theorem SlAt.keep {w w' : World} {B B' : Nat} {q : Option Addr} {vs : List Value} (h : SlAt w B q vs) (hb : ∀ p : Addr, p.block < B → w'.cell? p = w.cell? p) (hB : B ≤ B') : SlAt w' B' q vs := fun hv => by
  obtain ⟨a, rfl, hab, hc⟩ := h hv
  exact ⟨a, rfl, by omega, fun j v hj => (hb (a.add j) (by simpa [add_block] using hab)).trans (hc j v hj)⟩
theorem SlAt.ext {w w' : World} {B : Nat} {q : Option Addr} {vs : List Value} (h : SlAt w B q vs) (hx : Ext w w') (hB : B ≤ w.heap.size) : SlAt w' w'.heap.size q vs :=
  h.keep (fun p hp => World.cell?_of_block (hx.below.block p.block (by omega))) (Nat.le_trans hB hx.size)
theorem SlAt.up {w : World} {B B' : Nat} {q : Option Addr} {vs : List Value} (h : SlAt w B q vs) (hB : B ≤ B') : SlAt w B' q vs := fun hv => by
  obtain ⟨a, rfl, hab, hc⟩ := h hv
  exact ⟨a, rfl, by omega, hc⟩
theorem blk_lt {w : World} {b : Nat} {t : TypeId} {cs : List Value} (h : (blk b t cs).holds w) : b < w.heap.size := by
  have h' : w.heap[b]? = some (.cells cs.toArray t (0, 0)) := h
  exact (Array.getElem?_eq_some_iff.1 h').1
/-- the part from o on, m cells -/
theorem SlAt.part {w : World} {B : Nat} {a : Addr} {vs us : List Value} (o : Nat) (h : SlAt w B (some a) vs) (hu : ∀ j v, us[j]? = some v → vs[o + j]? = some v) : SlAt w B (some (a.add o)) us := fun hv => by
  have h0 : us[0]? = some us[0] := List.getElem?_eq_getElem hv
  have h1 := hu 0 _ h0
  have hl := (List.getElem?_eq_some_iff.1 h1).1
  obtain ⟨a', he, hab, hc⟩ := h (by omega)
  cases he
  exact ⟨_, rfl, by simpa [add_block] using hab, fun j v hj => by rw [add_add]; exact hc _ v (hu j v hj)⟩
/-- a block that is known whole, read as a slice -/
theorem SlAt.of_blk {w : World} {b o : Nat} {t : TypeId} {cs vs : List Value} (h : (blk b t cs).holds w) (hv : ∀ j v, vs[j]? = some v → cs[o + j]? = some v) : SlAt w w.heap.size (some ⟨b, o, none⟩) vs := fun _ =>
  ⟨_, rfl, blk_lt h, fun j v hj => by rw [add_mid, blk_cell h]; exact hv j v hj⟩
theorem SlAt.of_row {w : World} {base n cap size : Nat} {O : Nat → Prop} {q : Option Addr} {e : TypeId} {xs : List Value} (h : (row base O q n cap e size xs).holds w) : SlAt w w.heap.size q xs := fun hx => by
  have h2 := h.2
  rcases h2.2 with ⟨h3, h4⟩ | ⟨g, cap', cur, h3, hb, hg, h4, h5, h6, h7⟩
  · have := h2.1
    rw [h4] at this
    omega
  · simp only [Value.slice.injEq] at h3
    obtain ⟨rfl, _⟩ := h3
    have hlt : g < w.heap.size := (Array.getElem?_eq_some_iff.1 hg).1
    refine ⟨_, rfl, hlt, fun j v hj => ?_⟩
    rw [add_mid, Nat.zero_add]
    have h' : (row base O (some ⟨g, 0, none⟩) n cap e size xs).holds w := h
    exact row_cell h' hj
/-- does l have s? -/
def hasB (l : List ByteArray) (s : ByteArray) : Bool := l.any (fun u => decide (s = u))
theorem hasB_iff {l : List ByteArray} {s : ByteArray} : hasB l s = true ↔ s ∈ l := by simp [hasB]
theorem hasB_cons (u : ByteArray) (l : List ByteArray) (s : ByteArray) : hasB (u :: l) s = (decide (s = u) || hasB l s) := rfl
/-- the slice q holds the strings l -/
def strs (l : List ByteArray) : List Value := l.map .string
theorem strs_length (l : List ByteArray) : (strs l).length = l.length := by simp [strs]
theorem strs_get {l : List ByteArray} {i : Nat} {s : ByteArray} (h : l[i]? = some s) : (strs l)[i]? = some (.string s) := by simp [strs, h]
theorem SlAt.str {w : World} {B : Nat} {q : Option Addr} {l : List ByteArray} (h : SlAt w B q (strs l)) {i : Nat} (hi : i < l.length) :
    ∃ a s, q = some a ∧ a.block < B ∧ l[i]? = some s ∧ w.cell? (a.add (i * 1)) = some (.string s) := by
  obtain ⟨a, rfl, hab, hc⟩ := h (by rw [strs_length]; omega)
  have hs : l[i]? = some l[i] := List.getElem?_eq_getElem hi
  exact ⟨a, l[i], rfl, hab, hs, by rw [Nat.mul_one]; exact hc i _ (strs_get hs)⟩
end Go.Eng

/- Parts of slices, function values, stores into rows, made rows. General. No condition. -/
namespace Go.Eng
open Go.RowKit
section
variable {P : Program} {n : Nm} {l : Env} {H : List Item} {S : List World} {C : World → Prop} {c : Bool} {d : Option Nat} {ty : TypeId} {pos : String} {af : Array Edge} {g : Option (Nat × Bool)}
variable {ops : Array Oper} {rest : List Oper} {Q : Exit → Act → World → Prop}
variable {t : TypeId} {x y z : Operand} {cx cy cz : Bool}
def cutq (q : Option Addr) (cap i sz : Nat) : Option Addr := if cap = i then q else q.map (·.add (i * sz))
theorem SlAt.cut {w : World} {B : Nat} {q : Option Addr} {vs : List Value} {cap i sz : Nat} (h : SlAt w B q vs) (hl : vs.length ≤ cap * sz) : SlAt w B (cutq q cap i sz) (vs.drop (i * sz)) := by
  intro hv
  have hlt : i * sz < vs.length := by
    rw [List.length_drop] at hv; omega
  obtain ⟨a, rfl, hab, hc⟩ := h (by omega)
  have hne : ¬ cap = i := by
    intro e; subst e; omega
  refine ⟨a.add (i * sz), by simp [cutq, hne], by simpa [add_block] using hab, fun j v hj => ?_⟩
  rw [add_add]
  exact hc _ v (by rwa [List.getElem?_drop] at hj)
theorem Pev.slice_hi {e : TypeId} {sz len cp i : Nat} {k : IntKind} {j : Int} {q : Option Addr} (hx : evl l x = some (cx, .slice q len cp)) (hcx : c = true → cx = true) (hz : evl l z = some (cz, .int k j)) (hcz : c = true → cz = true)
    (hu : slElem P t = some (e, sz)) (hj : j = (i : Int)) (hb : c = true → i ≤ cp) : Pev P n l C ⟨d, .slice t x none (some z) none, ty, pos, af, g⟩ c (.slice q i cp) :=
  .of_run fun h a w hs hw => by
    subst hj
    have hb' := hb h
    unfold slElem at hu
    cases h1 : P.underlying t with
    | none => simp [h1] at hu
    | some d1 =>
      rw [h1] at hu
      cases d1 <;> simp only [reduceCtorEq] at hu
      rename_i e'
      cases h2 : sizeN P e' with
      | none => simp [h2] at hu
      | some k' =>
        simp only [execOp, hs.eval hx (hcx h), Option.map_some, Option.map_none, hs.eval hz (hcz h), Instr.sliceAt, Instr.slice, Sem.run_bind, run_underlying h1, Result.andThen_ok, Instr.sliceBounds, Instr.sliceBound, asIntOf, Sem.run_pure, run_sizeN h2]
        simp [hb', add_zero_]
theorem Pev.slice_lo {e : TypeId} {sz len cp i : Nat} {k : IntKind} {j : Int} {q : Option Addr} (hx : evl l x = some (cx, .slice q len cp)) (hcx : c = true → cx = true) (hy : evl l y = some (cy, .int k j)) (hcy : c = true → cy = true)
    (hu : slElem P t = some (e, sz)) (hj : j = (i : Int)) (hb : c = true → i ≤ len) : Pev P n l C ⟨d, .slice t x (some y) none none, ty, pos, af, g⟩ c (.slice (cutq q cp i sz) (len - i) (cp - i)) :=
  .of_run fun h a w hs hw => by
    subst hj
    have hb' := hb h
    unfold slElem at hu
    cases h1 : P.underlying t with
    | none => simp [h1] at hu
    | some d1 =>
      rw [h1] at hu
      cases d1 <;> simp only [reduceCtorEq] at hu
      rename_i e'
      cases h2 : sizeN P e' with
      | none => simp [h2] at hu
      | some k' =>
        rw [h2] at hu
        simp only [Option.some.injEq, Prod.mk.injEq] at hu
        obtain ⟨rfl, rfl⟩ := hu
        simp only [execOp, hs.eval hx (hcx h), Option.map_some, Option.map_none, hs.eval hy (hcy h), Instr.sliceAt, Instr.slice, Sem.run_bind, run_underlying h1, Result.andThen_ok, Instr.sliceBounds, Instr.sliceBound, asIntOf, Sem.run_pure, run_sizeN h2]
        simp [hb', cutq]
/-- an element's address, at a counted place that is known in range under the condition alone -/
theorem Pev.idxI {e : TypeId} {sz len cp : Nat} {ki : IntKind} {i : Int} {q : Addr} (hx : evl l x = some (cx, .slice (some q) len cp)) (hcx : c = true → cx = true) (hy : evl l y = some (cy, .int ki i)) (hcy : c = true → cy = true)
    (hu : slElem P t = some (e, sz)) (hi : c = true → 0 ≤ i ∧ i < len) : Pev P n l C ⟨d, .indexAddr t x y, ty, pos, af, g⟩ c (.pointer (some (q.add (i.toNat * sz)))) :=
  .of_run fun h a w hs hw => by
    obtain ⟨h1, h2⟩ := hi h
    obtain ⟨m, rfl⟩ := Int.eq_ofNat_of_zero_le h1
    simp only [execOp, hs.eval hx (hcx h), hs.eval hy (hcy h), Sem.run_bind, run_indexAt_slice hu (show m < len by omega), Result.andThen_ok]; rfl
theorem Pev.makeFunc {f : FuncId} {first caps : List Operand} {us vs : List Value} (h1 : Args l c first us) (h2 : Args l c caps vs) : Pev P n l C ⟨d, .makeFunc (.func f) first.toArray caps.toArray, ty, pos, af, g⟩ c (.func (.func f) us.toArray vs.toArray) :=
  .of_run fun h a w hs hw => by
    simp only [execOp, Instr.makeFunc]
    rw [List.map_toArray, List.map_toArray, h1.map hs h, h2.map hs h]
    rfl
end
end Go.Eng

/- Slices whose elements take several cells: the cells of a list of things, element by element; in-place append and clear; slices in three numbers. General. No condition. -/
namespace Go.Eng
open Go.RowKit
theorem list_of {α : Type} (R : Nat → α → Prop) : ∀ (n : Nat), (∀ i, i < n → ∃ x, R i x) → ∃ l : List α, l.length = n ∧ ∀ i x, l[i]? = some x → R i x
  | 0, _ => ⟨[], rfl, fun i x h => by simp at h⟩
  | n + 1, h => by
    obtain ⟨l, hl, hr⟩ := list_of R n (fun i hi => h i (by omega))
    obtain ⟨x, hx⟩ := h n (by omega)
    refine ⟨l ++ [x], by simp [hl], fun i y hy => ?_⟩
    rcases Nat.lt_or_ge i l.length with hi | hi
    · rw [List.getElem?_append_left hi] at hy
      exact hr i y hy
    · rw [List.getElem?_append_right hi] at hy
      have h0 : i - l.length = 0 := by
        have := (List.getElem?_eq_some_iff.1 hy).1
        simpa using this
      rw [h0] at hy
      simp only [List.getElem?_cons_zero, Option.some.injEq] at hy
      subst hy
      obtain rfl : i = n := by omega
      exact hx
/-- the cells of the things of a list, one behind another -/
def cat {α : Type} (f : α → List Value) : List α → List Value
  | [] => []
  | x :: l => f x ++ cat f l
section
variable {α : Type} {f : α → List Value} {sz : Nat}
theorem cat_append (f : α → List Value) : ∀ (a b : List α), cat f (a ++ b) = cat f a ++ cat f b
  | [], b => rfl
  | x :: a, b => by rw [List.cons_append, cat, cat_append f a b, cat, List.append_assoc]
theorem cat_one (f : α → List Value) (x : α) : cat f [x] = f x := by simp [cat]
theorem cat_length (hf : ∀ x, (f x).length = sz) : ∀ (l : List α), (cat f l).length = l.length * sz
  | [] => by simp [cat]
  | x :: l => by rw [cat, List.length_append, cat_length hf l, hf, List.length_cons, Nat.succ_mul, Nat.add_comm]
theorem cat_take (hf : ∀ x, (f x).length = sz) : ∀ (l : List α) (i : Nat), (cat f l).take (i * sz) = cat f (l.take i)
  | l, 0 => by simp [cat]
  | [], i + 1 => by simp [cat]
  | x :: l, i + 1 => by
    rw [cat, List.take_succ_cons, cat, ← cat_take hf l i, Nat.succ_mul, Nat.add_comm, List.take_append, hf, List.take_of_length_le (by rw [hf]; omega)]
    congr 2
    omega
theorem cat_drop (hf : ∀ x, (f x).length = sz) : ∀ (l : List α) (i : Nat), (cat f l).drop (i * sz) = cat f (l.drop i)
  | l, 0 => by simp [cat]
  | [], i + 1 => by simp [cat]
  | x :: l, i + 1 => by
    rw [cat, List.drop_succ_cons, ← cat_drop hf l i, Nat.succ_mul, Nat.add_comm, List.drop_append, hf, List.drop_of_length_le (by rw [hf]; omega), List.nil_append]
    congr 1
    omega
theorem cat_get (hf : ∀ x, (f x).length = sz) {l : List α} {i : Nat} {x : α} (h : l[i]? = some x) : ∀ (j : Nat) (v : Value), (f x)[j]? = some v → (cat f l)[i * sz + j]? = some v := by
  intro j v hj
  have hi := (List.getElem?_eq_some_iff.1 h).1
  have hd := cat_drop hf l i
  rw [List.drop_eq_getElem_cons hi, cat] at hd
  have hx : l[i] = x := by
    rw [List.getElem?_eq_getElem hi] at h
    exact Option.some.inj h
  rw [hx] at hd
  have : ((cat f l).drop (i * sz))[j]? = some v := by
    rw [hd, List.getElem?_append_left (List.getElem?_eq_some_iff.1 hj).1]; exact hj
  rwa [List.getElem?_drop] at this
theorem cat_map {β : Type} (f : α → List Value) (g : β → α) : ∀ (l : List β), cat f (l.map g) = cat (fun x => f (g x)) l
  | [] => rfl
  | x :: l => by rw [List.map_cons, cat, cat_map f g l, cat]
theorem oneL_append : ∀ (a b : List Value), oneL a = true → oneL b = true → oneL (a ++ b) = true
  | [], b, _, hb => hb
  | v :: a, b, ha, hb => by
    simp only [oneL, Bool.and_eq_true] at ha
    rw [List.cons_append, oneL, ha.1, oneL_append a b ha.2 hb]; rfl
theorem cat_oneL (h : ∀ x, oneL (f x) = true) : ∀ (l : List α), oneL (cat f l) = true
  | [] => rfl
  | x :: l => oneL_append _ _ (h x) (cat_oneL h l)
/-- an element of a slice that is read -/
theorem SlAt.elem {w : World} {B : Nat} {q : Option Addr} {l : List α} (h : SlAt w B q (cat f l)) (hf : ∀ x, (f x).length = sz) (hsz : 0 < sz) {i : Nat} (hi : i < l.length) :
    ∃ a x, q = some a ∧ a.block < B ∧ l[i]? = some x ∧ CellsAt w (a.add (i * sz)) (f x) := by
  have hpos : 0 < (cat f l).length := by
    rw [cat_length hf]
    exact Nat.mul_pos (by omega) hsz
  obtain ⟨a, rfl, hab, hc⟩ := h hpos
  have hs : l[i]? = some l[i] := List.getElem?_eq_getElem hi
  exact ⟨a, l[i], rfl, hab, hs, fun j v hj => by rw [add_add]; exact hc _ v (cat_get hf hs j v hj)⟩
theorem SlAt.takeC {w : World} {B : Nat} {q : Option Addr} {l : List α} (h : SlAt w B q (cat f l)) (i : Nat) : SlAt w B q (cat f (l.take i)) := fun hv => by
  have e : cat f l = cat f (l.take i) ++ cat f (l.drop i) := by rw [← cat_append, List.take_append_drop]
  obtain ⟨a, rfl, hab, hc⟩ := h (by rw [e, List.length_append]; omega)
  refine ⟨a, rfl, hab, fun j v hj => hc j v ?_⟩
  rw [e, List.getElem?_append_left (List.getElem?_eq_some_iff.1 hj).1]; exact hj
theorem SlAt.dropC {w : World} {B : Nat} {q : Option Addr} {l : List α} {cap : Nat} (h : SlAt w B q (cat f l)) (hf : ∀ x, (f x).length = sz) (hcap : l.length ≤ cap) (i : Nat) : SlAt w B (cutq q cap i sz) (cat f (l.drop i)) := by
  rw [← cat_drop hf]
  exact h.cut (by rw [cat_length hf]; exact Nat.mul_le_mul_right _ hcap)
end
/-! the first place -/
/-- the place of the first one that satisfies p, from place k on; -1: none -/
def idxP {α : Type} (p : α → Bool) : List α → Nat → Int
  | [], _ => -1
  | s :: l, i => if p s then i else idxP p l (i + 1)
section
variable {α : Type} {f : α → List Value} {sz : Nat}
theorem idxP_get {p : α → Bool} {l : List α} {i k : Nat} {s : α} (h : l[i]? = some s) : idxP p (l.drop i) k = if p s then (k : Int) else idxP p (l.drop (i + 1)) (k + 1) := by
  have hi := (List.getElem?_eq_some_iff.1 h).1
  rw [List.drop_eq_getElem_cons hi, idxP]
  rw [List.getElem?_eq_getElem hi] at h
  rw [Option.some.inj h]
theorem idxP_end {p : α → Bool} {l : List α} {i k : Nat} (h : l.length ≤ i) : idxP p (l.drop i) k = -1 := by
  rw [List.drop_eq_nil_of_le h]; rfl
theorem idxP_nonneg (p : α → Bool) : ∀ (l : List α) (k : Nat), decide (0 ≤ idxP p l k) = l.any p
  | [], k => rfl
  | s :: l, k => by
    rw [idxP, List.any_cons]
    cases h : p s
    · simp only [Bool.false_eq_true, if_false, Bool.false_or]
      exact idxP_nonneg p l (k + 1)
    · simp only [if_true, Bool.true_or, decide_eq_true_eq]
      omega
theorem idxP_cases (p : α → Bool) : ∀ (l : List α) (k : Nat), (idxP p l k = -1 ∧ ∀ x ∈ l, p x = false) ∨ ∃ i x, l[i]? = some x ∧ p x = true ∧ idxP p l k = ((k + i : Nat) : Int) ∧ ∀ y ∈ l.take i, p y = false
  | [], k => .inl ⟨rfl, fun x hx => by cases hx⟩
  | s :: l, k => by
    cases h : p s with
    | true => exact .inr ⟨0, s, rfl, h, by simp [idxP, h], fun y hy => by simp at hy⟩
    | false =>
      rcases idxP_cases p l (k + 1) with ⟨h1, h2⟩ | ⟨i, x, h1, h2, h3, h4⟩
      · refine .inl ⟨by simp [idxP, h, h1], fun x hx => ?_⟩
        rcases List.mem_cons.1 hx with rfl | hx
        · exact h
        · exact h2 x hx
      · refine .inr ⟨i + 1, x, by simpa using h1, h2, by simp only [idxP, h, Bool.false_eq_true, if_false, h3]; omega, fun y hy => ?_⟩
        rw [List.take_succ_cons] at hy
        rcases List.mem_cons.1 hy with rfl | hy
        · exact h
        · exact h4 y hy
/-- a slice of structs that reads -/
theorem elems_of {H : Type} {enc : TypeId × Value → H} {P : Program} {w : World} {spare : Nat → Bool} {held : Bool} {t e : TypeId} {fuel : Nat} {cs : List Value} {x : DataW H × List MemPlace} (ht : P.underlying t = some (.slice e)) (hs : P.cellsOf e = sz) (hsz : 0 < sz) (hf : ∀ x, (f x).length = sz)
    (he : ∀ (n : Nat) (cs' : List Value) (y : DataW H × List MemPlace), n < fuel → DataW.trod enc P w 0 spare held n e cs' = some y → ∃ u : α, cs' = f u)
    (h : DataW.trod enc P w 0 spare held fuel t cs = some x) :
    ∃ (q : Option Addr) (l : List α) (cap : Nat), cs = [.slice q l.length cap] ∧ l.length ≤ cap ∧ cap ≤ maxLen ∧ SlAt w w.heap.size q (cat f l) := by
  obtain ⟨q, len, cap, rfl, hle, hcap, hq0, m, hm, hel⟩ := slice_reads ht hs h
  cases q with
  | none =>
    obtain rfl := hq0 rfl
    exact ⟨none, [], cap, rfl, hle, hcap, SlAt.nil⟩
  | some a =>
    obtain ⟨l, hl, hr⟩ := list_of (fun i (u : α) => CellsAt w (a.add (i * sz)) (f u)) len (fun i hi => by
      obtain ⟨cs', y, hc, hl1, ht'⟩ := hel a rfl i hi
      obtain ⟨u, rfl⟩ := he m cs' y hm ht'
      exact ⟨u, hc⟩)
    subst hl
    refine ⟨some a, l, cap, rfl, hle, hcap, fun hv => ⟨a, rfl, ?_, fun j v hj => ?_⟩⟩
    · rw [cat_length hf] at hv
      have hl0 : 0 < l.length := Nat.pos_of_mul_pos_right hv
      have h0 := hr 0 _ (List.getElem?_eq_getElem hl0)
      rw [Nat.zero_mul, add_zero_] at h0
      have hz : 0 < (f l[0]).length := by rw [hf]; exact hsz
      have := h0 0 _ (List.getElem?_eq_getElem hz)
      rw [add_zero_] at this
      exact cell_lt this
    · have hjl := (List.getElem?_eq_some_iff.1 hj).1
      rw [cat_length hf] at hjl
      have hi : j / sz < l.length := Nat.div_lt_of_lt_mul (by rwa [Nat.mul_comm] at hjl)
      have h0 := hr (j / sz) _ (List.getElem?_eq_getElem hi)
      have hm' : j % sz < (f l[j / sz]).length := by rw [hf]; exact Nat.mod_lt _ hsz
      have h1 := cat_get hf (List.getElem?_eq_getElem hi) (j % sz) _ (List.getElem?_eq_getElem hm')
      have ej : j / sz * sz + j % sz = j := by rw [Nat.mul_comm]; exact Nat.div_add_mod j sz
      rw [ej, hj] at h1
      have h2 := h0 (j % sz) _ (List.getElem?_eq_getElem hm')
      rw [add_add, ej] at h2
      rw [h2, h1]
end
end Go.Eng

/- Made slices of one-cell elements, and a square of rows. General. No condition. -/
namespace Go.Eng
open Go.RowKit
section
variable {P : Program} {n : Nm} {l : Env} {H : List Item} {S : List World} {C : World → Prop} {ty : TypeId} {pos : String} {af : Array Edge}
variable {ops : Array Oper} {rest : List Oper} {Q : Exit → Act → World → Prop} {t : TypeId} {x y : Operand}
theorem madeCells_one (z0 : Value) (m : Nat) : madeCells #[z0] m = (List.replicate m z0).toArray := by
  apply Array.ext
  · simp [madeCells]
  · intro i h1 h2
    simp [madeCells, Nat.mod_one]
/-- the zero value of a type, where it is one cell -/
def zeroCell (P : Program) (e : TypeId) : Option Value := match P.info? e with
  | some i => match i.zero with
    | some z => match z.cells.toList with
      | [z0] => some z0
      | _ => none
    | none => none
  | none => none
theorem OL.makeSlice {e : TypeId} {dd m bb : Nat} {z0 : Value} {k1 k2 : IntKind} {a1 a2 : Int} (hx : evl l x = some (true, .int k1 a1)) (hy : evl l y = some (true, .int k2 a2)) (hn : Nat.ble (dd + 1) n.n = true)
    (hu : rowElem P t = some (e, 1, bb)) (hz : zeroCell P e = some z0) (h1 : a1 = (m : Int)) (h2 : a2 = (m : Int)) (hlim : m ≤ 9223372036854775807 ∧ m * bb ≤ 140737488355328)
    (k : ∀ b, AllLe S b → OL P n ops Q rest ((dd, true, .slice (some ⟨b, 0, none⟩) m m) :: l) (Cls (blk b e (List.replicate m z0) :: H) S)) :
    OL P n ops Q (⟨some dd, .makeSlice t x y, ty, pos, af, none⟩ :: rest) l (Cls H S) := by
  obtain ⟨i, z, g1, g2, g3, g4, g5, g6, g7⟩ := rowElem_spec hu
  subst h1
  subst h2
  have hcell : z.cells = #[z0] := by
    unfold zeroCell at hz
    rw [g2] at hz
    simp only [g3] at hz
    split at hz
    · rename_i z1 he
      obtain rfl := Option.some.inj hz
      apply Array.ext'
      exact he
    · cases hz
  refine OL.new (C' := fun b w => AllLe S b ∧ Cls (blk b e (List.replicate m z0) :: H) S w) rfl rfl hn (fun b => .slice (some ⟨b, 0, none⟩) m m) (fun a w hs hc => ⟨w.heap.size, w.alloc (.cells (List.replicate m z0).toArray e), ?_, AllLe.mk hc, hc.alloc e (List.replicate m z0)⟩) (fun b => ⟨fun a w hs hc => (k b hc.1).run a w hs hc.2⟩)
  have hb : (i.bytes : Int) * (m : Int) ≤ 281474976710656 := by
    have h3 := hlim.2
    rw [← g5, Nat.mul_comm] at h3
    have h5 : ((i.bytes * m : Nat) : Int) ≤ ((140737488355328 : Nat) : Int) := Int.ofNat_le.2 h3
    rw [Int.natCast_mul] at h5
    exact Int.le_trans h5 (by decide)
  have hr := run_make (P := P) w t e i z g1 g2 g3 k1 k2 (m : Int) (m : Int) (by omega) (by omega) hb (by omega)
  rw [hcell, g4, Nat.mul_one, Int.toNat_natCast, madeCells_one] at hr
  simp only [execOp, hs.eval hx rfl, hs.eval hy rfl, Sem.run_bind, hr, Result.andThen_ok]
  rfl
end
end Go.Eng

/- A square of rows: blocks of one element type, told as a list of rows. General. No condition. -/
namespace Go.Eng
open Go.RowKit
/-- the blocks bs hold the rows -/
def grid (bs : List Nat) (t : TypeId) (rows : List (List Value)) : Item :=
  ⟨fun k => k ∈ bs, fun w => bs.length = rows.length ∧ bs.Nodup ∧ ∀ (i b : Nat) (r : List Value), bs[i]? = some b → rows[i]? = some r → w.heap[b]? = some (.cells r.toArray t (0, 0)),
    fun w w' hk h => ⟨h.1, h.2.1, fun i b r hb hr => (hk b (List.mem_of_getElem? hb)).trans (h.2.2 i b r hb hr)⟩⟩
theorem grid_blk {w : World} {bs : List Nat} {t : TypeId} {rows : List (List Value)} {i b : Nat} {r : List Value} (h : (grid bs t rows).holds w) (hb : bs[i]? = some b) (hr : rows[i]? = some r) : (blk b t r).holds w := h.2.2 i b r hb hr
theorem grid_nil (w : World) (t : TypeId) : (grid [] t []).holds w := ⟨rfl, List.nodup_nil, fun i b r hb => by simp at hb⟩
theorem NotOwned.grid {H : List Item} {bs : List Nat} {t : TypeId} {rows : List (List Value)} {k B : Nat} (h : ∀ b, b ∈ bs → B ≤ b) (hk : k < B) (r : NotOwned H k) : NotOwned (Eng.grid bs t rows :: H) k :=
  NotOwned.any (fun hm => Nat.not_le_of_lt hk (h k hm)) r
section
variable {P : Program} {n : Nm} {l : Env} {H : List Item} {S : List World} {C : World → Prop} {c : Bool} {d : Option Nat} {ty : TypeId} {pos : String} {af : Array Edge} {g : Option (Nat × Bool)}
variable {ops : Array Oper} {rest : List Oper} {Q : Exit → Act → World → Prop} {t : TypeId} {x y : Operand} {cx cy : Bool}
theorem Cls.grid_start {w : World} (h : Cls H S w) (t : TypeId) : Cls (grid [] t [] :: H) S w :=
  h.add (Keep.refl _ w) _ (grid_nil w t) (fun k hk => by cases hk)
/-- a new block becomes the next row -/
theorem Cls.grid_push {w : World} {b : Nat} {t : TypeId} {r : List Value} {bs : List Nat} {rows : List (List Value)} (h : Cls (blk b t r :: grid bs t rows :: H) S w) : Cls (grid (bs ++ [b]) t (rows ++ [r]) :: H) S w := by
  have hg := h.item (i := grid bs t rows) (by simp)
  have hb := h.item (i := blk b t r) (by simp)
  have hd := h.dj
  rw [List.pairwise_cons, List.pairwise_cons] at hd
  obtain ⟨hb1, hg1, hH⟩ := hd
  have hnot : b ∉ bs := fun hm => hb1 (grid bs t rows) (by simp) b rfl hm
  refine ⟨fun i hi => ?_, fun i hi => ?_, ?_, fun s hs => (h.kp s hs).mono fun k _ ⟨i, hi, hk⟩ => ?_⟩
  · rcases List.mem_cons.1 hi with rfl | hi
    · refine ⟨by simp [hg.1], ?_, fun i b' r' hb' hr' => ?_⟩
      · rw [List.nodup_append]
        exact ⟨hg.2.1, by simp, fun a ha b' hb' => by
          rw [List.mem_singleton.1 hb']
          exact fun e => hnot (e ▸ ha)⟩
      · rcases Nat.lt_or_ge i bs.length with hl | hl
        · rw [List.getElem?_append_left hl] at hb'
          rw [List.getElem?_append_left (by rw [← hg.1]; exact hl)] at hr'
          exact hg.2.2 i b' r' hb' hr'
        · rw [List.getElem?_append_right hl] at hb'
          rw [List.getElem?_append_right (by rw [← hg.1]; exact hl), ← hg.1] at hr'
          have h0 : i - bs.length = 0 := by
            have := (List.getElem?_eq_some_iff.1 hb').1
            simpa using this
          rw [h0] at hb' hr'
          simp only [List.getElem?_cons_zero, Option.some.injEq] at hb' hr'
          subst hb'
          subst hr'
          exact hb
    · exact h.holds i (by simp [hi])
  · rcases List.mem_cons.1 hi with rfl | hi
    · intro k hk
      rcases List.mem_append.1 hk with hk | hk
      · exact h.lt (grid bs t rows) (by simp) k hk
      · exact h.lt (blk b t r) (by simp) k (List.mem_singleton.1 hk)
    · exact h.lt i (by simp [hi])
  · rw [List.pairwise_cons]
    refine ⟨fun j hj k hk => ?_, hH⟩
    rcases List.mem_append.1 hk with hk | hk
    · exact hg1 j hj k hk
    · exact hb1 j (by simp [hj]) k (List.mem_singleton.1 hk)
  · rcases List.mem_cons.1 hi with rfl | hi
    · exact ⟨_, List.mem_cons_self, List.mem_append.2 (.inr (List.mem_singleton.2 hk))⟩
    · rcases List.mem_cons.1 hi with rfl | hi
      · exact ⟨_, List.mem_cons_self, List.mem_append.2 (.inl hk)⟩
      · exact ⟨i, List.mem_cons_of_mem _ hi, hk⟩
/-- a cell that every world of the class holds -/
theorem Pev.load_cls {a : Addr} {v : Value} (hx : evl l x = some (cx, .pointer (some a))) (hcx : c = true → cx = true) (hs : scalB P t = true) (hv : c = true → ∀ w, C w → w.cell? a = some v) : Pev P n l C ⟨d, .load t x, ty, pos, af, g⟩ c v :=
  .load_of hx hcx fun h w hw => run_loadVar_scal hs (hv h w hw)
/-- a store of one cell into a row of a square -/
theorem OL.storeG {b o i : Nat} {t' : TypeId} {bs : List Nat} {rows : List (List Value)} {r : List Value} {v : Value} {p : Nat} {F : Item → List Item} (hx : evl l x = some (true, .pointer (some ⟨b, o, none⟩))) (hy : evl l y = some (true, v)) (hv : v.cells = #[v])
    (hs : sizeN P t = some 1) (h1 : oneL [v] = true) (hH : Hole p H (grid bs t' rows) F) (hb : bs[i]? = some b) (hr : rows[i]? = some r) (hl : o < r.length)
    (kk : OL P n ops Q rest l (Cls (F (grid bs t' (rows.set i (r.set o v)))) S)) : OL P n ops Q (⟨none, .store t x y, ty, pos, af, none⟩ :: rest) l (Cls H S) := by
  obtain ⟨hp, hF⟩ := hH.eq
  rw [hF] at kk
  refine OL.store_ (C' := Cls (H.set p (grid bs t' (rows.set i (r.set o v)))) S) rfl rfl (fun a w hs' hc => ?_) kk
  have hg := hc.item (List.mem_of_getElem? hp)
  obtain ⟨w', hr', hh, hkp⟩ := run_storeAt_blk (P := P) (o := o) (vs := [v]) (grid_blk hg hb hr) hs hv rfl (show o + 1 ≤ r.length from hl) h1
  refine ⟨w', ?_, hc.turn p hp (j := grid bs t' (rows.set i (r.set o v))) ⟨hkp.os, hkp.tape, hkp.output, hkp.size, fun k hk hn => hkp.block k hk (fun e => hn (by rw [show k = b from e]; exact List.mem_of_getElem? hb))⟩ ?_ (fun q hq => ⟨.inl hq, Nat.lt_of_lt_of_le (hc.lt _ (List.mem_of_getElem? hp) q hq) hkp.size⟩) (fun q hq => hq)⟩
  · simp only [execOp, hs'.eval hx rfl, hs'.eval hy rfl, Sem.run_bind, hr', Result.andThen_ok]; rfl
  · refine ⟨by simp [hg.1], hg.2.1, fun i' b' r' hb' hr'' => ?_⟩
    by_cases hi : i = i'
    · subst hi
      rw [hb] at hb'
      obtain rfl := Option.some.inj hb'
      have hlt := (List.getElem?_eq_some_iff.1 hr).1
      rw [List.getElem?_set_self hlt] at hr''
      obtain rfl := Option.some.inj hr''
      exact hh
    · rw [List.getElem?_set_ne hi] at hr''
      have hne : b' ≠ b := fun e => by
        subst e
        have h1' := (List.getElem?_eq_some_iff.1 hb).1
        exact hi ((List.getElem?_inj h1' hg.2.1).1 (hb.trans hb'.symm))
      have hlt := hc.lt _ (List.mem_of_getElem? hp) b' (List.mem_of_getElem? hb')
      rw [hkp.block b' hlt hne]
      exact hg.2.2 i' b' r' hb' hr''
end
end Go.Eng

/- A guard that is known to hold is put away; slices held against nil; readings of slices of strings. General. No condition. -/
namespace Go.Eng
open Go.RowKit
section
variable {P : Program} {n : Nm} {l : Env} {H : List Item} {S : List World} {C : World → Prop} {c : Bool} {d : Option Nat} {op : Op} {ty : TypeId} {pos : String} {af : Array Edge} {g : Option (Nat × Bool)}
variable {ops : Array Oper} {rest : List Oper} {Q : Exit → Act → World → Prop} {x y : Operand} {cx cy : Bool} {t : TypeId}
theorem OL.ungate (hg : Guard l ops g c) (hc : c = true) (h : OL P n ops Q (⟨d, op, ty, pos, af, none⟩ :: rest) l C) : OL P n ops Q (⟨d, op, ty, pos, af, g⟩ :: rest) l C := by
  refine ⟨fun a w hs hw => ?_⟩
  have h1 := h.run a w hs hw
  have hwant := Guard.wanted (o := ⟨d, op, ty, pos, af, g⟩) hs hg
  rw [hc] at hwant
  unfold wpList at h1 ⊢
  rw [if_pos hwant]
  rw [if_pos (by simp [Region.wanted])] at h1
  exact h1
theorem OL.gateOff {dd : Nat} (hg : Guard l ops g c) (hc : c = false) (hn : Nat.ble (dd + 1) n.n = true) (h : OL P n ops Q rest ((dd, false, undef) :: l) C) : OL P n ops Q (⟨some dd, op, ty, pos, af, g⟩ :: rest) l C := by
  refine ⟨fun a w hs hw => ?_⟩
  have hwant := Guard.wanted (o := ⟨some dd, op, ty, pos, af, g⟩) hs hg
  rw [hc] at hwant
  unfold wpList
  rw [if_neg (by simp [hwant])]
  exact h.run _ w (hs.put (Nat.le_of_ble_eq_true hn) false undef) hw
theorem slElem_und {e : TypeId × Nat} (hu : slElem P t = some e) : P.underlying t = some (.slice e.1) := by
  unfold slElem at hu
  cases h1 : P.underlying t with
  | none => simp [h1] at hu
  | some d1 =>
    rw [h1] at hu
    cases d1 <;> simp only [reduceCtorEq] at hu
    rename_i e'
    cases h2 : sizeN P e' with
    | none => simp [h2] at hu
    | some k' =>
      rw [h2] at hu
      obtain rfl := Option.some.inj hu
      rfl
theorem guard_slice {op : BinOp} {x y : Operand} {q q' : Option Addr} {m cp m' c' : Nat} {w : World} : (eqGuard op t x y (.slice q m cp) (.slice q' m' c')).run P w = .ok () w := by cases op <;> rfl
theorem Bin.slice_nil {q : Option Addr} {m cp m' c' : Nat} {e : TypeId × Nat} (hu : slElem P t = some e) : Bin P .eql t (.slice q m cp) (.slice none m' c') (.bool q.isNone) := ⟨fun x y w => by
  rw [Sem.run_bind, guard_slice, Result.andThen_ok]
  simp only [binOp]
  simp [Op.equal, Op.maxDepth, Lib.run_equalIn_slice_nil w 9999 t e.1 q m cp m' c' (slElem_und hu)]⟩
theorem Bin.slice_nnil {q : Option Addr} {m cp m' c' : Nat} {e : TypeId × Nat} (hu : slElem P t = some e) : Bin P .neq t (.slice q m cp) (.slice none m' c') (.bool (!q.isNone)) := ⟨fun x y w => by
  rw [Sem.run_bind, guard_slice, Result.andThen_ok]
  exact run_neq_slice_nil_any w t e.1 q m cp m' c' (slElem_und hu)⟩
end
/-! readings -/
section
variable {H : Type} {enc : TypeId × Value → H} {P : Program} {w : World} {spare : Nat → Bool} {held : Bool}
/-- a slice of strings that reads -/
theorem strs_of {t e : TypeId} {fuel : Nat} {cs : List Value} {x : DataW H × List MemPlace} (ht : P.underlying t = some (.slice e)) (he : P.underlying e = some .string) (hs : P.cellsOf e = 1) (h : DataW.trod enc P w 0 spare held fuel t cs = some x) :
    ∃ (q : Option Addr) (l : List ByteArray) (cap : Nat), cs = [.slice q l.length cap] ∧ l.length ≤ cap ∧ cap ≤ maxLen ∧ SlAt w w.heap.size q (strs l) := by
  obtain ⟨q, len, cap, rfl, hle, hcap, hq0, m, hm, hel⟩ := slice_reads ht hs h
  cases q with
  | none =>
    obtain rfl := hq0 rfl
    exact ⟨none, [], cap, rfl, hle, hcap, SlAt.nil⟩
  | some a =>
    obtain ⟨l, hl, hr⟩ := list_of (fun i (s : ByteArray) => w.cell? (a.add (i * 1)) = some (.string s)) len (fun i hi => by
      obtain ⟨cs', y, hc, hl1, ht'⟩ := hel a rfl i hi
      obtain ⟨s, e1, _, _⟩ := DataW.trod_string he ht'
      subst e1
      exact ⟨s, hc 0 _ rfl⟩)
    subst hl
    refine ⟨some a, l, cap, rfl, hle, hcap, fun hv => ⟨a, rfl, ?_, fun j v hj => ?_⟩⟩
    · rw [strs_length] at hv
      have := hr 0 _ (List.getElem?_eq_getElem hv)
      rw [Nat.zero_mul] at this
      exact cell_lt this
    · unfold strs at hj
      rw [List.getElem?_map] at hj
      obtain ⟨s, hs', rfl⟩ := Option.map_eq_some_iff.1 hj
      have := hr j s hs'
      rwa [Nat.mul_one] at this
end
end Go.Eng

/- A region that draws its order, whose first operations are quiet and whose last ones write memory, one behind another. General. No condition. -/
namespace Go.Eng
open Go.RowKit
section
variable {P : Program} {ops : Array Oper} {C : World → Prop} {Q : Exit → Act → World → Prop} {m : Nat}
def allB (m : Nat) (listed : Array Bool) : Bool := (List.range m).all fun j => listed.getD j false
theorem allB_no {m i : Nat} {listed : Array Bool} (hi : i < m) (h : listed.getD i true = false) : allB m listed = false := by
  rw [Bool.eq_false_iff]
  intro ht
  have := List.all_eq_true.1 ht i (List.mem_range.2 hi)
  rcases Nat.lt_or_ge i listed.size with h' | h'
  · simp [h'] at h this; rw [h] at this; cases this
  · simp [Array.getElem?_eq_none h'] at h
def wpH (P : Program) (ops : Array Oper) (C : World → Prop) (Q : Exit → Act → World → Prop) (m : Nat) : Nat → Array Bool → Act → Prop
  | 0, listed, a => allB m listed = true ∧ ∀ w, C w → wpAny P .any ops Q 0 listed a w
  | f + 1, listed, a => (allB m listed = true → ∀ w, C w → wpAny P .any ops Q (f + 1) listed a w) ∧
      (allB m listed = false → Region.ready .any ops listed ≠ [] ∧ ∀ i ∈ Region.ready .any ops listed, qOp P ops C i (wpH P ops C Q m f (listed.setIfInBounds i true)) a)
theorem wpH_all {f : Nat} {listed : Array Bool} {a : Act} (ht : allB m listed = true) (h : ∀ w, C w → wpAny P .any ops Q f listed a w) : wpH P ops C Q m f listed a := by
  cases f with
  | zero => exact ⟨ht, h⟩
  | succ f => exact ⟨fun _ => h, fun h0 => by rw [ht] at h0; cases h0⟩
theorem wpAny_of_H : ∀ (f : Nat) (listed : Array Bool) (a : Act) (w : World), C w → wpH P ops C Q m f listed a → wpAny P .any ops Q f listed a w
  | 0, _, _, w, hw, h => h.2 w hw
  | f + 1, listed, a, w, hw, h => by
    cases ht : allB m listed with
    | true => exact h.1 ht w hw
    | false => exact ⟨fun h0 => absurd h0 (h.2 ht).1, fun i hi => wpOp_of_qOp hw (fun a' w' hw' => wpAny_of_H f _ a' w' hw') ((h.2 ht).2 i hi)⟩
/-- does j wait for i, directly or through others? -/
def waitsB (ops : Array Oper) : Nat → Nat → Nat → Bool
  | 0, _, _ => false
  | f + 1, j, i => match ops[j]? with
    | some o => o.after.any fun e => Region.binds .any e && (Nat.beq e.on i || waitsB ops f e.on i)
    | none => false
def waitB (ops : Array Oper) (m : Nat) : Bool := (List.range ops.size).all fun j => Nat.blt j m || (List.range m).all fun i => waitsB ops ops.size j i
theorem waitB_spec (h : waitB ops m = true) {j : Nat} {o : Oper} (hj : ops[j]? = some o) (hm : m ≤ j) {i : Nat} (hi : i < m) : waitsB ops ops.size j i = true := by
  have hlt := (Array.getElem?_eq_some_iff.1 hj).1
  have h1 := List.all_eq_true.1 h j (List.mem_range.2 hlt)
  simp only [Bool.or_eq_true] at h1
  rcases h1 with h1 | h1
  · have : j < m := Nat.le_of_ble_eq_true h1
    omega
  · exact List.all_eq_true.1 h1 i (List.mem_range.2 hi)
/-- whatever is done, all that it waits for is done -/
def Dn (ops : Array Oper) (listed : Array Bool) : Prop := ∀ j o, ops[j]? = some o → listed.getD j false = true → ∀ e ∈ o.after, Region.binds .any e = true → listed.getD e.on false = true
theorem getD_ft {listed : Array Bool} {i : Nat} (h : listed.getD i true = false) : listed.getD i false = false := by
  rcases Nat.lt_or_ge i listed.size with h' | h'
  · simp [h'] at h ⊢; exact h
  · simp [Array.getElem?_eq_none h'] at h
theorem waits_done {listed : Array Bool} (hD : Dn ops listed) {i : Nat} : ∀ (f j : Nat) (o : Oper), ops[j]? = some o → (∀ e ∈ o.after, Region.binds .any e = true → listed.getD e.on false = true) → waitsB ops f j i = true → listed.getD i false = true
  | 0, _, _, _, _, h => by cases h
  | f + 1, j, o, hj, hall, h => by
    rw [waitsB, hj] at h
    simp only at h
    rw [Array.any_eq_true] at h
    obtain ⟨k, hk, h3⟩ := h
    simp only [Bool.and_eq_true, Bool.or_eq_true, Nat.beq_eq] at h3
    have h4 := hall _ (Array.getElem_mem hk) h3.1
    rcases h3.2 with h5 | h5
    · rw [← h5]; exact h4
    · cases ho : ops[(o.after[k]).on]? with
      | none =>
        cases f with
        | zero => cases h5
        | succ f => rw [waitsB, ho] at h5; cases h5
      | some o2 => exact waits_done hD f _ o2 ho (fun e he hb => hD _ o2 ho h4 e he hb) h5
theorem Dn.set {listed : Array Bool} (hD : Dn ops listed) {j : Nat} (hj : j ∈ Region.ready .any ops listed) : Dn ops (listed.setIfInBounds j true) := by
  obtain ⟨hjun, oj, hoj, hall⟩ := mem_ready.1 hj
  have hjlt : j < listed.size := by
    rcases Nat.lt_or_ge j listed.size with h' | h'
    · exact h'
    · simp [Array.getElem?_eq_none h'] at hjun
  have up : ∀ k, listed.getD k false = true → (listed.setIfInBounds j true).getD k false = true := fun k hk => by
    by_cases e : j = k
    · subst e
      simp [Array.getElem?_setIfInBounds, hjlt]
    · rw [getD_set_ne false e]; exact hk
  intro k o ho hk e he hb
  by_cases ek : j = k
  · subst ek
    rw [hoj] at ho
    obtain rfl := Option.some.inj ho
    exact up _ (hall e he hb)
  · rw [getD_set_ne false ek] at hk
    exact up _ (hD k o ho hk e he hb)
theorem wpH_first {i : Nat} {oi : Oper} {v : Value} (hi : ops[i]? = some oi) (him : i < m) (hwait : waitB ops m = true) (hsel : ∀ (j : Nat) (o : Oper) cs b, ops[j]? = some o → o.op ≠ .select cs b) :
    ∀ (fuel : Nat) (listed : Array Bool) (a : Act),
      Dn ops listed → (∀ j oj, ops[j]? = some oj → j ≠ i → listed.getD j true = false → (∀ e ∈ oj.after, Region.binds .any e = true → e.on ≠ i) → oi.apart ops oj = true) →
      i ∈ Region.ready .any ops listed → YieldsIn P ops C oi v a →
      wpH P ops C Q m fuel (listed.setIfInBounds i true) (a.put oi.dst v) → wpH P ops C Q m (fuel + 1) listed a := by
  intro fuel
  induction fuel with
  | zero =>
    intro listed a hD _ hr hy H
    have hT := allB_no him (mem_ready.1 hr).1
    refine ⟨fun h => (by rw [hT] at h; cases h), fun _ => ⟨fun h => (by rw [h] at hr; cases hr), fun j hj => ?_⟩⟩
    by_cases hji : j = i
    · subst hji; exact hy.qOp hi H
    · exfalso
      obtain ⟨hjun, oj, hoj, hall⟩ := mem_ready.1 hj
      have hjm : j < m := by
        rcases Nat.lt_or_ge j m with h | h
        · exact h
        · have h1 := waits_done hD _ j oj hoj hall (waitB_spec hwait hoj h him)
          rw [getD_ft (mem_ready.1 hr).1] at h1
          cases h1
      have := allB_no hjm (by rw [getD_set_ne true (Ne.symm hji)]; exact hjun : (listed.setIfInBounds i true).getD j true = false)
      rw [H.1] at this
      cases this
  | succ fuel ih =>
    intro listed a hD hfree hr hy H
    have hT := allB_no him (mem_ready.1 hr).1
    refine ⟨fun h => (by rw [hT] at h; cases h), fun _ => ⟨fun h => (by rw [h] at hr; cases hr), fun j hj => ?_⟩⟩
    by_cases hji : j = i
    · subst hji; exact hy.qOp hi H
    · obtain ⟨hjun, oj, hoj, hall⟩ := mem_ready.1 hj
      have hnot : ∀ e ∈ oj.after, Region.binds .any e = true → e.on ≠ i := fun e he hb heq => by
        have h1 := hall e he hb
        have h0 := (mem_ready.1 hr).1
        rw [heq] at h1
        rcases Nat.lt_or_ge i listed.size with h' | h'
        · simp [h'] at h0 h1; rw [h0] at h1; cases h1
        · simp [Array.getElem?_eq_none h'] at h1
      have hjm : j < m := by
        rcases Nat.lt_or_ge j m with h | h
        · exact h
        · have h1 := waits_done hD _ j oj hoj hall (waitB_spec hwait hoj h him)
          rw [getD_ft (mem_ready.1 hr).1] at h1
          cases h1
      have hT' := allB_no hjm (by rw [getD_set_ne true (Ne.symm hji)]; exact hjun : (listed.setIfInBounds i true).getD j true = false)
      have h1 := (H.2 hT').2 j (ready_mono hj hji)
      have h2 := qOp_put hoj (hfree j oj hoj hji hjun hnot) (fun cs b => hsel i oi cs b hi) (fun cs b => hsel j oj cs b hoj) hy h1
      have hfree' : ∀ k ok, ops[k]? = some ok → k ≠ i → (listed.setIfInBounds j true).getD k true = false →
          (∀ e ∈ ok.after, Region.binds .any e = true → e.on ≠ i) → oi.apart ops ok = true := fun k ok hk hki hun hno => by
        refine hfree k ok hk hki ?_ hno
        by_cases hjk : j = k
        · subst hjk; exact hjun
        · rw [getD_set_ne true hjk] at hun; exact hun
      refine qOp_mono (fun a' h3 => ih (listed.setIfInBounds j true) a' (hD.set hj) hfree' (ready_mono hr (Ne.symm hji)) h3.1 ?_) h2
      rw [Array.setIfInBounds_comm _ _ hji]
      exact h3.2
theorem getD_rep (n j : Nat) : (Array.replicate n false).getD j false = false := by
  rw [Array.getD_eq_getD_getElem?, Array.getElem?_replicate]
  split <;> rfl
def runL : Nat → Nat → Array Bool → Array Bool
  | 0, _, li => li
  | n + 1, k, li => runL n (k + 1) (li.setIfInBounds k true)
def preB (ops : Array Oper) : Nat → Nat → Array Bool → Bool
  | 0, _, _ => true
  | n + 1, k, li => (Region.ready .any ops li).contains k && Region.free .any ops li k && preB ops n (k + 1) (li.setIfInBounds k true)
def seqB (ops : Array Oper) : Nat → Nat → Array Bool → Bool
  | 0, _, li => (Region.ready .any ops li).isEmpty
  | n + 1, k, li => (Region.ready .any ops li == [k]) && seqB ops n (k + 1) (li.setIfInBounds k true)
theorem wpAny_seq : ∀ (l : List Oper) (k : Nat) (li : Array Bool) (a : Act) (w : World), (∀ j, l[j]? = ops[k + j]?) → seqB ops l.length k li = true → wpList P ops Q l a w → wpAny P .any ops Q l.length li a w
  | [], k, li, a, w, _, hB, h => ⟨by simpa [seqB] using hB, h⟩
  | o :: l, k, li, a, w, hl, hB, h => by
    simp only [List.length_cons, seqB, Bool.and_eq_true, beq_iff_eq] at hB
    have h0 : ops[k]? = some o := by simpa using (hl 0).symm
    refine ⟨fun h' => (by rw [hB.1] at h'; cases h'), fun i hi => ?_⟩
    rw [hB.1, List.mem_singleton] at hi
    subst hi
    have h2 : wpOp P ops Q i (wpList P ops Q l) a w := by unfold wpOp; simp only [h0]; exact h
    exact wpOp_mono (fun a' w' h3 => wpAny_seq l (i + 1) _ a' w' (fun j => by have := hl (j + 1); simpa [Nat.add_assoc, Nat.add_comm 1 j] using this) hB.2 h3) h2
theorem wpH_lex (hs : Region.noSelect ops = true) (hwait : waitB ops m = true) {K : Act → Prop} {f : Nat} : ∀ (l : List Oper) (k : Nat) (li : Array Bool) (a : Act), Dn ops li → k + l.length = m → (∀ j, j < l.length → l[j]? = ops[k + j]?) →
    preB ops l.length k li = true → allB m (runL l.length k li) = true → wpQuiet P ops C K l a → (∀ a, K a → ∀ w, C w → wpAny P .any ops Q f (runL l.length k li) a w) → wpH P ops C Q m (l.length + f) li a
  | [], k, li, a, _, _, _, _, hA, h, hK => by
    rw [List.length_nil, Nat.zero_add]
    exact wpH_all hA (hK a h)
  | o :: l, k, li, a, hD, hk, hl, hB, hA, h, hK => by
    have h0 : ops[k]? = some o := by simpa using (hl 0 (by simp)).symm
    simp only [List.length_cons, preB, Bool.and_eq_true] at hB
    obtain ⟨⟨hr, hf⟩, hB'⟩ := hB
    have hst : qOp P ops C k (wpQuiet P ops C K l) a := by unfold qOp; simp only [h0]; exact h
    obtain ⟨v, hy, hK'⟩ := yieldsIn_of_qOp h0 hst
    rw [List.length_cons, show l.length + 1 + f = (l.length + f) + 1 by omega]
    exact wpH_first h0 (by simp only [List.length_cons] at hk; omega) hwait (Region.noSelect_spec hs) _ li a hD (Region.free_spec h0 hf) (by simpa using hr) hy
      (wpH_lex hs hwait l (k + 1) _ _ (hD.set (by simpa using hr)) (by simp only [List.length_cons] at hk; omega) (fun j hj => by have := hl (j + 1) (by simp only [List.length_cons]; omega); simpa [Nat.add_assoc, Nat.add_comm 1 j] using this) hB' hA hK' hK)
def tailB (ops : Array Oper) (m t : Nat) : Bool := Region.noSelect ops && (waitB ops m && (preB ops m 0 (Array.replicate ops.size false) && (allB m (runL m 0 (Array.replicate ops.size false)) && (seqB ops t m (runL m 0 (Array.replicate ops.size false)) && Nat.beq (m + t) ops.size))))
theorem wp_region_tail {r : Option Nat} {id : Nat} {l0 l1 : List Oper} {a : Act} {w : World} (hm : P.follows .mixedOrders = true) (hB : tailB (l0 ++ l1).toArray l0.length l1.length = true) (hC : C { w with drawn := w.drawn + 1 })
    (h : wpQuiet P (l0 ++ l1).toArray C (fun a' => ∀ w', C w' → wpList P (l0 ++ l1).toArray Q l1 a' w') l0 a) : wpp r P (.region id (l0 ++ l1).toArray true) Q a w := by
  simp only [tailB, Bool.and_eq_true] at hB
  obtain ⟨h1, h2, h3, h4, h5, h6⟩ := hB
  refine wpp_region_any hm (wpAny_of_H (m := l0.length) _ _ _ _ hC ?_)
  have key := wpH_lex (Q := Q) (f := l1.length) h1 h2 l0 0 (Array.replicate (l0 ++ l1).toArray.size false) a (fun j o _ hj => by rw [getD_rep] at hj; cases hj) (by omega) (fun j hj => by simp [List.getElem?_append_left hj]) h3 h4 h (fun a' hK w' hw' => wpAny_seq l1 l0.length _ a' w' (fun j => by simp [List.getElem?_append_right]) h5 (hK w' hw'))
  have e : l0.length + l1.length = (l0 ++ l1).toArray.size := by simp
  exact (congrArg (fun s => wpH P (l0 ++ l1).toArray C Q l0.length s (Array.replicate (l0 ++ l1).toArray.size false) a) e).mp key
end
/-- does an operation make or write memory? -/
def memB (o : Oper) : Bool := match o.op with
  | .store .. => true
  | .alloc .. => true
  | .box .. => true
  | .buildSlice .. => true
  | .makeSlice .. => true
  | .makeMap .. => true
  | .mapUpdate .. => true
  | .call c => match c.callee with
    | .builtin .append => true
    | .builtin .delete => true
    | _ => false
  | _ => false
inductive Split : List Oper → List Oper → List Oper → Prop where
  | z {o : Oper} {r : List Oper} (h : memB o = true) : Split (o :: r) [] (o :: r)
  | s {o : Oper} {r x y : List Oper} (h : memB o = false) (k : Split r x y) : Split (o :: r) (o :: x) y
theorem Split.eq {l x y : List Oper} (h : Split l x y) : l = x ++ y := by
  induction h with
  | z h => rfl
  | s h k ih => rw [List.cons_append, ih]
section
variable {P : Program} {n : Nm} {l : Env} {C : World → Prop} {Q : Exit → Act → World → Prop}
theorem W.regq {id : Nat} {l0 x y : List Oper} (hs : Split l0 x y) (hm : P.follows .mixedOrders = true) (hB : tailB (x ++ y).toArray x.length y.length = true) (hC : ∀ w, C w → C { w with drawn := w.drawn + 1 })
    (h : QL P n l0.toArray C (fun a' => ∀ w', C w' → wpList P l0.toArray Q y a' w') x l) : W P n (.region id l0.toArray true) Q l C := ⟨fun a w hs' hc => by
  have := hs.eq
  subst this
  exact wp_region_tail (C := C) hm hB (hC w hc) (h.run a hs')⟩
/-- the first k operations are quiet -/
inductive SplitN : Nat → List Oper → List Oper → List Oper → Prop where
  | z {r : List Oper} : SplitN 0 r [] r
  | s {k : Nat} {o : Oper} {r x y : List Oper} (h : SplitN k r x y) : SplitN (k + 1) (o :: r) (o :: x) y
theorem SplitN.eq {k : Nat} {l x y : List Oper} (h : SplitN k l x y) : l = x ++ y := by
  induction h with
  | z => rfl
  | s h ih => rw [List.cons_append, ih]
theorem W.regn (k : Nat) {id : Nat} {l0 x y : List Oper} (hs : SplitN k l0 x y) (hm : P.follows .mixedOrders = true) (hB : tailB (x ++ y).toArray x.length y.length = true) (hC : ∀ w, C w → C { w with drawn := w.drawn + 1 })
    (h : QL P n l0.toArray C (fun a' => ∀ w', C w' → wpList P l0.toArray Q y a' w') x l) : W P n (.region id l0.toArray true) Q l C := ⟨fun a w hs' hc => by
  have := hs.eq
  subst this
  exact wp_region_tail (C := C) hm hB (hC w hc) (h.run a hs')⟩
/-- a drawn region whose operations write no memory -/
theorem W.regd0 {id : Nat} {l0 : List Oper} (hq : (l0.all fun o => !memB o) = true) (hm : P.follows .mixedOrders = true) (hB : Region.lexB .any l0.toArray = true) (hC : ∀ w, C w → C { w with drawn := w.drawn + 1 })
    (h : QL P n l0.toArray C (fun a' => ∀ w', C w' → Q .normal a' w') l0 l) : W P n (.region id l0.toArray true) Q l C := W.regd hm hB hC h
theorem QL.tail {ops : Array Oper} {y : List Oper} (h : OL P n ops Q y l C) : QL P n ops C (fun a' => ∀ w', C w' → wpList P ops Q y a' w') [] l := ⟨fun a hs w hc => h.run a w hs hc⟩
end
end Go.Eng
