/- Texts of the proof of SsaRuns, part 2: rules of a calculus for walking, plain laws, and walks of the functions that the law reaches. No condition. -/
import Derived.Test.YtehelljmaiophaaProg
import Derived.MapKept
import Derived.Maps.RangeRun
import Derived.Laws.StructEq
import Derived.Laws.Bits64b
import Derived.LaidEqlPtr
import Derived.Lib.Builder
import Derived.Laws.Pointers
import Derived.Test.YtehelljmaiophaaSsaRuns1
set_option linter.unusedVariables false
set_option linter.unusedSimpArgs false
/- The walks of ssa's checks of numbers and forms, and of the reference's. Conditions: none. (Printed by ssa.py.) -/
namespace Go.Ss
def opsP (i : In) : Int × Bool := if i.op = 22 then (i.n, decide (i.n = 2) || decide (i.n = 4)) else match opsN i with
 | none => (0, false)
 | some m => (m, true)
theorem opsN_of {i : In} {m : Int} {kn : Bool} (h : opsP i = (m, kn)) : opsN i = if kn then some m else none := by
 unfold opsP at h
 by_cases h22 : i.op = 22
 ·rw [if_pos h22] at h
  simp only [Prod.mk.injEq] at h
  obtain ⟨rfl, rfl⟩ := h
  unfold opsN
  simp [h22]
 ·rw [if_neg h22] at h
  cases hn : opsN i with
  | none =>
   rw [hn] at h
   simp only [Prod.mk.injEq] at h
   obtain ⟨_, rfl⟩ := h
   rfl
  | some z =>
   rw [hn] at h
   simp only [Prod.mk.injEq] at h
   obtain ⟨rfl, rfl⟩ := h
   rfl
def arityR (i : In) : Int := match opsN i with
 | none => -2
 | some m => m
theorem arity1 {i : In} (h : i.op = 10 ∨ i.op = 11 ∨ i.op = 12 ∨ i.op = 15 ∨ i.op = 17 ∨ i.op = 24) : arityR i = 1 := by
 rcases h with h | h | h | h | h | h <;> simp [arityR, opsN, h]
end Go.Ss
namespace Go.Proofs.Ytehelljmaiophaa.ss
open Go.RowKit Go.Eng Go.Ss
set_option maxRecDepth 100000
theorem within_calls (n lo hi : Int) (w : World) : Calls Try.prog 69 [.int .i64 n, .int .i64 lo, .int .i64 hi].toArray w fun e w' => e = .returned (.bool (decide (lo ≤ n) && decide (n ≤ hi))) ∧ Ext w w' := by
 refine enter Try.func69 rfl Try.ntmps69 rfl (Cls.start w) (zen ?_)
 refine zgs ?_
 (refine zfn ?_; intro w' hw')
 exact ⟨by simp, by (exact hw'.fr)⟩
theorem isWord_calls (n : Int) (w : World) : Calls Try.prog 148 [.int .i64 n].toArray w fun e w' => e = .returned (.bool (wordB n)) ∧ Ext w w' := by
 refine enter Try.func148 rfl Try.ntmps148 rfl (Cls.start w) (zen ?_)
 refine zgs ?_
 (((first | apply OL.op | apply QL.op); exact Guard.au; rfl; rfl); (exact Pev.call rfl (by exact Args.au) (fun _ w2 hw2 => (within_calls n (-1073741824) 1073741823 w2).mono (fun e w3 h => ⟨h.1, hw2.ext h.2⟩))))
 refine zgs ?_
 (refine zfn ?_; intro w' hw')
 exact ⟨rfl, by (exact hw'.fr)⟩
theorem operands_calls (i : In) (y : Sc) (w : World) :
  Calls Try.prog 145 [.agg (inC i y).toArray].toArray w fun e w' => e = .returned (.tuple #[.int .i64 (opsP i).1, .bool (opsP i).2]) ∧ Ext w w' := by
 refine enter Try.func145 rfl Try.ntmps145 rfl (Cls.start w) (zen ?_)
 simp only [inC]
 apply W.sr
 apply OL.box; rfl; rfl; exact CellsL.agg; (intro bk hbk; simp only [AllLe, and_true] at hbk)
 refine zgs ?_
 refine W.cnd ?_ ?_ <;> intro s1 <;> try exact zwx s1
 ·refine zgs ?_
  (refine zfn ?_; intro w' hw')
  have ho : opsP i = (0, true) := by unfold opsP opsN; grind
  exact ⟨by rw [ho], by (exact hw'.fr)⟩
 refine zgs ?_
 refine W.cnd ?_ ?_ <;> intro s2 <;> try exact zwx s2
 ·apply W.sk
  refine W.cnd ?_ ?_ <;> intro sb2 <;> try exact zwx sb2
  refine zgs ?_
  (refine zfn ?_; intro w' hw')
  have ho : opsP i = (2, true) := by unfold opsP opsN; grind
  exact ⟨by rw [ho], by (exact hw'.fr)⟩
 refine zgs ?_
 refine W.cnd ?_ ?_ <;> intro s3 <;> try exact zwx s3
 ·apply W.sk
  refine W.cnd ?_ ?_ <;> intro sb3 <;> try exact zwx sb3
  refine zgs ?_
  (refine zfn ?_; intro w' hw')
  have ho : opsP i = (2, true) := by unfold opsP opsN; grind
  exact ⟨by rw [ho], by (exact hw'.fr)⟩
 refine zgs ?_
 refine W.cnd ?_ ?_ <;> intro s4 <;> try exact zwx s4
 ·apply W.sk
  refine W.cnd ?_ ?_ <;> intro sb4 <;> try exact zwx sb4
  refine zgs ?_
  (refine zfn ?_; intro w' hw')
  have ho : opsP i = (2, true) := by unfold opsP opsN; grind
  exact ⟨by rw [ho], by (exact hw'.fr)⟩
 refine zgs ?_
 refine W.cnd ?_ ?_ <;> intro s5 <;> try exact zwx s5
 ·apply W.sk
  refine W.cnd ?_ ?_ <;> intro sb5 <;> try exact zwx sb5
  refine zgs ?_
  (refine zfn ?_; intro w' hw')
  have ho : opsP i = (2, true) := by unfold opsP opsN; grind
  exact ⟨by rw [ho], by (exact hw'.fr)⟩
 refine zgs ?_
 refine W.cnd ?_ ?_ <;> intro s6 <;> try exact zwx s6
 ·apply W.sk
  refine W.cnd ?_ ?_ <;> intro sb6 <;> try exact zwx sb6
  refine zgs ?_
  (refine zfn ?_; intro w' hw')
  have ho : opsP i = (2, true) := by unfold opsP opsN; grind
  exact ⟨by rw [ho], by (exact hw'.fr)⟩
 refine zgs ?_
 refine W.cnd ?_ ?_ <;> intro s7 <;> try exact zwx s7
 ·apply W.sk
  refine W.cnd ?_ ?_ <;> intro sb7 <;> try exact zwx sb7
  refine zgs ?_
  (refine zfn ?_; intro w' hw')
  have ho : opsP i = (2, true) := by unfold opsP opsN; grind
  exact ⟨by rw [ho], by (exact hw'.fr)⟩
 refine zgs ?_
 refine W.cnd ?_ ?_ <;> intro s8 <;> try exact zwx s8
 ·apply W.sk
  refine W.cnd ?_ ?_ <;> intro sb8 <;> try exact zwx sb8
  refine zgs ?_
  (refine zfn ?_; intro w' hw')
  have ho : opsP i = (2, true) := by unfold opsP opsN; grind
  exact ⟨by rw [ho], by (exact hw'.fr)⟩
 refine zgs ?_
 refine W.cnd ?_ ?_ <;> intro s9 <;> try exact zwx s9
 ·apply W.sk
  refine W.cnd ?_ ?_ <;> intro sb9 <;> try exact zwx sb9
  refine zgs ?_
  (refine zfn ?_; intro w' hw')
  have ho : opsP i = (2, true) := by unfold opsP opsN; grind
  exact ⟨by rw [ho], by (exact hw'.fr)⟩
 refine zgs ?_
 refine W.cnd ?_ ?_ <;> intro s10 <;> try exact zwx s10
 ·apply W.sk
  refine W.cnd ?_ ?_ <;> intro sb10 <;> try exact zwx sb10
  refine zgs ?_
  (refine zfn ?_; intro w' hw')
  have ho : opsP i = (2, true) := by unfold opsP opsN; grind
  exact ⟨by rw [ho], by (exact hw'.fr)⟩
 refine zgs ?_
 refine W.cnd ?_ ?_ <;> intro s11 <;> try exact zwx s11
 ·apply W.sk
  refine W.cnd ?_ ?_ <;> intro sb11 <;> try exact zwx sb11
  refine zgs ?_
  (refine zfn ?_; intro w' hw')
  have ho : opsP i = (2, true) := by unfold opsP opsN; grind
  exact ⟨by rw [ho], by (exact hw'.fr)⟩
 refine zgs ?_
 refine W.cnd ?_ ?_ <;> intro s12 <;> try exact zwx s12
 ·apply W.sk
  refine W.cnd ?_ ?_ <;> intro sb12 <;> try exact zwx sb12
  refine zgs ?_
  (refine zfn ?_; intro w' hw')
  have ho : opsP i = (2, true) := by unfold opsP opsN; grind
  exact ⟨by rw [ho], by (exact hw'.fr)⟩
 refine zgs ?_
 refine W.cnd ?_ ?_ <;> intro s13 <;> try exact zwx s13
 ·refine zgs ?_
  (refine zfn ?_; intro w' hw')
  have ho : opsP i = (2, true) := by unfold opsP opsN; grind
  exact ⟨by rw [ho], by (exact hw'.fr)⟩
 refine zgs ?_
 refine W.cnd ?_ ?_ <;> intro s14 <;> try exact zwx s14
 ·refine zgs ?_
  (refine zfn ?_; intro w' hw')
  have ho : opsP i = (3, true) := by unfold opsP opsN; grind
  exact ⟨by rw [ho], by (exact hw'.fr)⟩
 refine zgs ?_
 refine W.cnd ?_ ?_ <;> intro s15 <;> try exact zwx s15
 ·apply W.sk
  refine W.cnd ?_ ?_ <;> intro sb15 <;> try exact zwx sb15
  refine zgs ?_
  (refine zfn ?_; intro w' hw')
  have ho : opsP i = (1, true) := by unfold opsP opsN; grind
  exact ⟨by rw [ho], by (exact hw'.fr)⟩
 refine zgs ?_
 refine W.cnd ?_ ?_ <;> intro s16 <;> try exact zwx s16
 ·apply W.sk
  refine W.cnd ?_ ?_ <;> intro sb16 <;> try exact zwx sb16
  refine zgs ?_
  (refine zfn ?_; intro w' hw')
  have ho : opsP i = (1, true) := by unfold opsP opsN; grind
  exact ⟨by rw [ho], by (exact hw'.fr)⟩
 refine zgs ?_
 refine W.cnd ?_ ?_ <;> intro s17 <;> try exact zwx s17
 ·apply W.sk
  refine W.cnd ?_ ?_ <;> intro sb17 <;> try exact zwx sb17
  refine zgs ?_
  (refine zfn ?_; intro w' hw')
  have ho : opsP i = (1, true) := by unfold opsP opsN; grind
  exact ⟨by rw [ho], by (exact hw'.fr)⟩
 refine zgs ?_
 refine W.cnd ?_ ?_ <;> intro s18 <;> try exact zwx s18
 ·apply W.sk
  refine W.cnd ?_ ?_ <;> intro sb18 <;> try exact zwx sb18
  refine zgs ?_
  (refine zfn ?_; intro w' hw')
  have ho : opsP i = (1, true) := by unfold opsP opsN; grind
  exact ⟨by rw [ho], by (exact hw'.fr)⟩
 refine zgs ?_
 refine W.cnd ?_ ?_ <;> intro s19 <;> try exact zwx s19
 ·apply W.sk
  refine W.cnd ?_ ?_ <;> intro sb19 <;> try exact zwx sb19
  refine zgs ?_
  (refine zfn ?_; intro w' hw')
  have ho : opsP i = (1, true) := by unfold opsP opsN; grind
  exact ⟨by rw [ho], by (exact hw'.fr)⟩
 refine zgs ?_
 refine W.cnd ?_ ?_ <;> intro s20 <;> try exact zwx s20
 ·refine zgs ?_
  (refine zfn ?_; intro w' hw')
  have ho : opsP i = (1, true) := by unfold opsP opsN; grind
  exact ⟨by rw [ho], by (exact hw'.fr)⟩
 refine zgs ?_
 refine W.cnd ?_ ?_ <;> intro s21 <;> try exact zwx s21
 ·apply W.sk
  refine W.cnd ?_ ?_ <;> intro sb21 <;> try exact zwx sb21
  refine zgs ?_
  (refine zfn ?_; intro w' hw')
  have ho : opsP i = (-1, true) := by unfold opsP opsN; grind
  exact ⟨by rw [ho], by (exact hw'.fr)⟩
 refine zgs ?_
 refine W.cnd ?_ ?_ <;> intro s22 <;> try exact zwx s22
 ·apply W.sk
  refine W.cnd ?_ ?_ <;> intro sb22 <;> try exact zwx sb22
  refine zgs ?_
  (refine zfn ?_; intro w' hw')
  have ho : opsP i = (-1, true) := by unfold opsP opsN; grind
  exact ⟨by rw [ho], by (exact hw'.fr)⟩
 refine zgs ?_
 refine W.cnd ?_ ?_ <;> intro s23 <;> try exact zwx s23
 ·apply W.sk
  refine W.cnd ?_ ?_ <;> intro sb23 <;> try exact zwx sb23
  refine zgs ?_
  (refine zfn ?_; intro w' hw')
  have ho : opsP i = (-1, true) := by unfold opsP opsN; grind
  exact ⟨by rw [ho], by (exact hw'.fr)⟩
 refine zgs ?_
 refine W.cnd ?_ ?_ <;> intro s24 <;> try exact zwx s24
 ·refine zgs ?_
  (refine zfn ?_; intro w' hw')
  have ho : opsP i = (-1, true) := by unfold opsP opsN; grind
  exact ⟨by rw [ho], by (exact hw'.fr)⟩
 refine zgs ?_
 refine W.cnd ?_ ?_ <;> intro s25 <;> try exact zwx s25
 ·apply W.seq
  apply W.regd0; decide +kernel; kernel_rfl; decide +kernel; exact fun w hw => hw.drew
  refine zgs ?_
  (refine zfn ?_; intro w' hw')
  have ho : opsP i = (i.n, decide (i.n = 2) || decide (i.n = 4)) := by unfold opsP; rw [if_pos (by omega)]
  exact ⟨by rw [ho], by (exact hw'.fr)⟩
 refine zgs ?_
 (refine zfn ?_; intro w' hw')
 have ho : opsP i = (0, false) := by unfold opsP opsN; grind
 exact ⟨by rw [ho], by (exact hw'.fr)⟩
theorem number_calls (i : In) (y : Sc) (w : World) :
  Calls Try.prog 146 [.agg (inC i y).toArray].toArray w fun e w' => e = .returned (.bool (numB i)) ∧ Ext w w' := by
 refine enter Try.func146 rfl Try.ntmps146 rfl (Cls.start w) (zen ?_)
 simp only [inC]
 apply W.sr
 apply OL.box; rfl; rfl; exact CellsL.agg; (intro bk hbk; simp only [AllLe, and_true] at hbk)
 refine zgs ?_
 refine W.cnd ?_ ?_ <;> intro s1 <;> try exact zwx s1
 ·refine zgs ?_
  (((first | apply OL.op | apply QL.op); exact Guard.au; rfl; rfl); (exact Pev.call rfl (by exact Args.au) (fun _ w2 hw2 => (isWord_calls i.n w2).mono (fun e w3 h => ⟨h.1, hw2.ext h.2⟩))))
  refine zgs ?_
  (refine zfn ?_; intro w' hw')
  have ho : numB i = (wordB i.n) := by unfold numB; grind
  exact ⟨by rw [ho], by (exact hw'.fr)⟩
 refine zgs ?_
 refine W.cnd ?_ ?_ <;> intro s2 <;> try exact zwx s2
 ·refine zgs ?_
  (((first | apply OL.op | apply QL.op); exact Guard.au; rfl; rfl); (exact Pev.call rfl (by exact Args.au) (fun _ w2 hw2 => (within_calls i.n 0 255 w2).mono (fun e w3 h => ⟨h.1, hw2.ext h.2⟩))))
  refine zgs ?_
  (refine zfn ?_; intro w' hw')
  have ho : numB i = (decide ((0 : Int) ≤ i.n) && decide (i.n ≤ 255)) := by unfold numB; grind
  exact ⟨by rw [ho], by (exact hw'.fr)⟩
 refine zgs ?_
 refine W.cnd ?_ ?_ <;> intro s3 <;> try exact zwx s3
 ·refine zgs ?_
  (((first | apply OL.op | apply QL.op); exact Guard.au; rfl; rfl); (exact Pev.call rfl (by exact Args.au) (fun _ w2 hw2 => (within_calls i.n 0 15 w2).mono (fun e w3 h => ⟨h.1, hw2.ext h.2⟩))))
  refine zgs ?_
  (refine zfn ?_; intro w' hw')
  have ho : numB i = (decide ((0 : Int) ≤ i.n) && decide (i.n ≤ 15)) := by unfold numB; grind
  exact ⟨by rw [ho], by (exact hw'.fr)⟩
 refine zgs ?_
 refine W.cnd ?_ ?_ <;> intro s4 <;> try exact zwx s4
 ·apply W.sk
  refine W.cnd ?_ ?_ <;> intro sb4 <;> try exact zwx sb4
  refine zgs ?_
  (((first | apply OL.op | apply QL.op); exact Guard.au; rfl; rfl); (exact Pev.call rfl (by exact Args.au) (fun _ w2 hw2 => (within_calls i.n 0 255 w2).mono (fun e w3 h => ⟨h.1, hw2.ext h.2⟩))))
  refine zgs ?_
  (refine zfn ?_; intro w' hw')
  have ho : numB i = (decide ((0 : Int) ≤ i.n) && decide (i.n ≤ 255)) := by unfold numB; grind
  exact ⟨by rw [ho], by (exact hw'.fr)⟩
 refine zgs ?_
 refine W.cnd ?_ ?_ <;> intro s5 <;> try exact zwx s5
 ·refine zgs ?_
  (((first | apply OL.op | apply QL.op); exact Guard.au; rfl; rfl); (exact Pev.call rfl (by exact Args.au) (fun _ w2 hw2 => (within_calls i.n 0 255 w2).mono (fun e w3 h => ⟨h.1, hw2.ext h.2⟩))))
  refine zgs ?_
  (refine zfn ?_; intro w' hw')
  have ho : numB i = (decide ((0 : Int) ≤ i.n) && decide (i.n ≤ 255)) := by unfold numB; grind
  exact ⟨by rw [ho], by (exact hw'.fr)⟩
 refine zgs ?_
 refine W.cnd ?_ ?_ <;> intro s6 <;> try exact zwx s6
 ·refine zgs ?_
  (refine zfn ?_; intro w' hw')
  have ho : numB i = (decide (i.n = 1) || decide (i.n = 2) || decide (i.n = 3)) := by unfold numB; grind
  exact ⟨by rw [ho], by (exact hw'.fr)⟩
 refine zgs ?_
 refine W.cnd ?_ ?_ <;> intro s7 <;> try exact zwx s7
 ·refine zgs ?_
  (((first | apply OL.op | apply QL.op); exact Guard.au; rfl; rfl); (exact Pev.call rfl (by exact Args.au) (fun _ w2 hw2 => (within_calls i.n 0 3 w2).mono (fun e w3 h => ⟨h.1, hw2.ext h.2⟩))))
  refine zgs ?_
  (refine zfn ?_; intro w' hw')
  have ho : numB i = (decide ((0 : Int) ≤ i.n) && decide (i.n ≤ 3)) := by unfold numB; grind
  exact ⟨by rw [ho], by (exact hw'.fr)⟩
 refine zgs ?_
 refine W.cnd ?_ ?_ <;> intro s8 <;> try exact zwx s8
 ·refine zgs ?_
  (refine zfn ?_; intro w' hw')
  have ho : numB i = (true) := by unfold numB; grind
  exact ⟨by rw [ho], by (exact hw'.fr)⟩
 refine zgs ?_
 (refine zfn ?_; intro w' hw')
 have ho : numB i = (decide (i.n = 0)) := by unfold numB; grind
 exact ⟨by rw [ho], by (exact hw'.fr)⟩
theorem Form_calls (i : In) (y : Sc) (w : World) (hl : i.args.length ≤ 140737488355328) :
  Calls Try.prog 119 [.agg (inC i y).toArray].toArray w fun e w' => e = .returned (.int .i64 (formE i)) ∧ Ext w w' := by
 refine enter Try.func119 rfl Try.ntmps119 rfl (Cls.start w) (zen ?_)
 simp only [inC]
 apply W.sr
 apply OL.box; rfl; rfl; exact CellsL.agg; (intro bk hbk; simp only [AllLe, and_true] at hbk)
 refine zgs ?_
 (((first | apply OL.op | apply QL.op); exact Guard.au; rfl; rfl); (exact Pev.call rfl (by exact Args.au) (fun _ w2 hw2 => (operands_calls i y w2).mono (fun e w3 h => ⟨h.1, hw2.ext h.2⟩))))
 obtain ⟨m, kn, hm⟩ : ∃ m kn, opsP i = (m, kn) := ⟨_, _, rfl⟩
 rw [hm]
 simp only
 have hN := opsN_of hm
 have hF : formE i = if kn = false ∨ (0 ≤ m ∧ (i.args.length : Int) ≠ m) ∨ (i.op = 14 ∧ i.args.length = 0) then 3 else if ((i.op = 8 ∨ i.op = 9) ∧ 16 < i.args.length) ∨ ((i.op = 13 ∨ i.op = 14) ∧ 6 < i.args.length) then 2 else if numB i then 0 else 4 := by
  unfold formE
  rw [hN]
  cases kn <;> simp
 rw [hF]
 refine zgs ?_
 refine W.cond rfl (fun hb => ?_) (fun hb => ?_)
 ·refine zgs ?_
  (refine zfn ?_; intro w' hw')
  rw [if_pos (by simp at hb; cases kn <;> grind)]
  exact ⟨rfl, by (exact hw'.fr)⟩
 rw [if_neg (by simp at hb; cases kn <;> grind)]
 refine zgs ?_
 refine W.cond rfl (fun h1 => ?_) (fun h1 => ?_)
 ·apply W.sk
  refine W.cond rfl (fun _ => ?_) (fun h2 => by rw [h1] at h2; cases h2)
  refine zgs ?_
  (refine zfn ?_; intro w' hw')
  rw [if_pos (by simp at h1; omega)]
  exact ⟨rfl, by (exact hw'.fr)⟩
 refine zgs ?_
 refine W.cond rfl (fun h2 => ?_) (fun h2 => ?_)
 ·refine zgs ?_
  (refine zfn ?_; intro w' hw')
  rw [if_pos (by simp at h2; omega)]
  exact ⟨rfl, by (exact hw'.fr)⟩
 rw [if_neg (by simp at h1 h2; omega)]
 refine zgs ?_
 (((first | apply OL.op | apply QL.op); exact Guard.au; rfl; rfl); (exact Pev.call rfl (by exact Args.au) (fun _ w2 hw2 => (number_calls i y w2).mono (fun e w3 h => ⟨h.1, hw2.ext h.2⟩))))
 refine zgs ?_
 refine W.cnd ?_ ?_ <;> intro h3 <;> try exact zwx h3
 ·refine zgs ?_
  (refine zfn ?_; intro w' hw')
  rw [if_neg (by simp [h3])]
  exact ⟨rfl, by (exact hw'.fr)⟩
 ·refine zgs ?_
  (refine zfn ?_; intro w' hw')
  rw [if_pos h3]
  exact ⟨rfl, by (exact hw'.fr)⟩
theorem shape_calls (t : Tm) (y : TmY) (w : World) (hc : t.cases.length ≤ 140737488355328) (ht : t.to_.length ≤ 140737488355328) :
  Calls Try.prog 147 [.agg (tmC t y).toArray].toArray w fun e w' => e = .returned (.bool (shapeT t)) ∧ Ext w w' := by
 refine enter Try.func147 rfl Try.ntmps147 rfl (Cls.start w) (zen ?_)
 simp only [tmC]
 apply W.sr
 apply OL.box; rfl; rfl; exact CellsL.agg; (intro bk hbk; simp only [AllLe, and_true] at hbk)
 refine zgs ?_
 refine W.cnd ?_ ?_ <;> intro s1 <;> try exact zwx s1
 ·refine zgs ?_
  (refine zfn ?_; intro w' hw')
  refine ⟨congrArg (fun b => Ending.returned (Value.bool b)) ?_, by (exact hw'.fr)⟩
  unfold shapeT
  rw [Bool.eq_iff_iff]
  simp [s1]
  try omega
 refine zgs ?_
 refine W.cnd ?_ ?_ <;> intro s2 <;> try exact zwx s2
 ·refine zgs ?_
  (refine zfn ?_; intro w' hw')
  refine ⟨congrArg (fun b => Ending.returned (Value.bool b)) ?_, by (exact hw'.fr)⟩
  unfold shapeT
  rw [Bool.eq_iff_iff]
  simp [s1, s2]
  try omega
 refine zgs ?_
 refine W.cnd ?_ ?_ <;> intro s3 <;> try exact zwx s3
 ·refine zgs ?_
  (refine zfn ?_; intro w' hw')
  refine ⟨congrArg (fun b => Ending.returned (Value.bool b)) ?_, by (exact hw'.fr)⟩
  unfold shapeT
  rw [Bool.eq_iff_iff]
  simp [s1, s2, s3]
  try omega
 refine zgs ?_
 refine W.cnd ?_ ?_ <;> intro s4 <;> try exact zwx s4
 ·refine zgs ?_
  (refine zfn ?_; intro w' hw')
  refine ⟨congrArg (fun b => Ending.returned (Value.bool b)) ?_, by (exact hw'.fr)⟩
  unfold shapeT
  rw [Bool.eq_iff_iff]
  simp [s1, s2, s3, s4]
  try omega
 refine zgs ?_
 refine W.cnd ?_ ?_ <;> intro s5 <;> try exact zwx s5
 ·refine zgs ?_
  (refine zfn ?_; intro w' hw')
  refine ⟨congrArg (fun b => Ending.returned (Value.bool b)) ?_, by (exact hw'.fr)⟩
  unfold shapeT
  rw [Bool.eq_iff_iff]
  simp [s1, s2, s3, s4, s5]
  try omega
 refine zgs ?_
 (refine zfn ?_; intro w' hw')
 refine ⟨congrArg (fun b => Ending.returned (Value.bool b)) ?_, by (exact hw'.fr)⟩
 unfold shapeT
 simp [s1, s2, s3, s4, s5]
theorem Within_calls (n lo hi : Int) (w : World) : Calls Try.prog 56 [.int .i64 n, .int .i64 lo, .int .i64 hi].toArray w fun e w' => e = .returned (.bool (decide (lo ≤ n) && decide (n ≤ hi))) ∧ Ext w w' := by
 refine enter Try.func56 rfl Try.ntmps56 rfl (Cls.start w) (zen ?_)
 refine zgs ?_
 (refine zfn ?_; intro w' hw')
 exact ⟨by simp, by (exact hw'.fr)⟩
theorem word_calls (n : Int) (w : World) : Calls Try.prog 137 [.int .i64 n].toArray w fun e w' => e = .returned (.bool (wordB n)) ∧ Ext w w' := by
 refine enter Try.func137 rfl Try.ntmps137 rfl (Cls.start w) (zen ?_)
 refine zgs ?_
 (((first | apply OL.op | apply QL.op); exact Guard.au; rfl; rfl); (exact Pev.call rfl (by exact Args.au) (fun _ w2 hw2 => (Within_calls n (-1073741824) 1073741823 w2).mono (fun e w3 h => ⟨h.1, hw2.ext h.2⟩))))
 refine zgs ?_
 (refine zfn ?_; intro w' hw')
 exact ⟨rfl, by (exact hw'.fr)⟩
theorem arity_calls (i : In) (y : Sc) (w : World) :
  Calls Try.prog 136 [.agg (inC i y).toArray].toArray w fun e w' => e = .returned (.int .i64 (arityR i)) ∧ Ext w w' := by
 refine enter Try.func136 rfl Try.ntmps136 rfl (Cls.start w) (zen ?_)
 simp only [inC]
 apply W.sr
 apply OL.box; rfl; rfl; exact CellsL.agg; (intro bk hbk; simp only [AllLe, and_true] at hbk)
 refine zgs ?_
 refine W.cnd ?_ ?_ <;> intro s1 <;> try exact zwx s1
 ·refine zgs ?_
  (refine zfn ?_; intro w' hw')
  have ho : arityR i = 0 := by unfold arityR opsN; grind
  exact ⟨by rw [ho], by (exact hw'.fr)⟩
 refine zgs ?_
 refine W.cnd ?_ ?_ <;> intro s2 <;> try exact zwx s2
 ·apply W.sk
  refine W.cnd ?_ ?_ <;> intro sb2 <;> try exact zwx sb2
  refine zgs ?_
  (refine zfn ?_; intro w' hw')
  have ho : arityR i = 1 := arity1 (by omega)
  exact ⟨by rw [ho], by (exact hw'.fr)⟩
 refine zgs ?_
 refine W.cnd ?_ ?_ <;> intro s3 <;> try exact zwx s3
 ·apply W.sk
  refine W.cnd ?_ ?_ <;> intro sb3 <;> try exact zwx sb3
  refine zgs ?_
  (refine zfn ?_; intro w' hw')
  have ho : arityR i = 1 := arity1 (by omega)
  exact ⟨by rw [ho], by (exact hw'.fr)⟩
 refine zgs ?_
 refine W.cnd ?_ ?_ <;> intro s4 <;> try exact zwx s4
 ·apply W.sk
  refine W.cnd ?_ ?_ <;> intro sb4 <;> try exact zwx sb4
  refine zgs ?_
  (refine zfn ?_; intro w' hw')
  have ho : arityR i = 1 := arity1 (by omega)
  exact ⟨by rw [ho], by (exact hw'.fr)⟩
 refine zgs ?_
 refine W.cnd ?_ ?_ <;> intro s5 <;> try exact zwx s5
 ·apply W.sk
  refine W.cnd ?_ ?_ <;> intro sb5 <;> try exact zwx sb5
  refine zgs ?_
  (refine zfn ?_; intro w' hw')
  have ho : arityR i = 1 := arity1 (by omega)
  exact ⟨by rw [ho], by (exact hw'.fr)⟩
 refine zgs ?_
 refine W.cnd ?_ ?_ <;> intro s6 <;> try exact zwx s6
 ·apply W.sk
  refine W.cnd ?_ ?_ <;> intro sb6 <;> try exact zwx sb6
  refine zgs ?_
  (refine zfn ?_; intro w' hw')
  have ho : arityR i = 1 := arity1 (by omega)
  exact ⟨by rw [ho], by (exact hw'.fr)⟩
 refine zgs ?_
 refine W.cnd ?_ ?_ <;> intro s7 <;> try exact zwx s7
 ·refine zgs ?_
  (refine zfn ?_; intro w' hw')
  have ho : arityR i = 1 := arity1 (by omega)
  exact ⟨by rw [ho], by (exact hw'.fr)⟩
 refine zgs ?_
 refine W.cnd ?_ ?_ <;> intro s8 <;> try exact zwx s8
 ·apply W.sk
  refine W.cnd ?_ ?_ <;> intro sb8 <;> try exact zwx sb8
  refine zgs ?_
  (refine zfn ?_; intro w' hw')
  have ho : arityR i = 2 := by unfold arityR opsN; grind
  exact ⟨by rw [ho], by (exact hw'.fr)⟩
 refine zgs ?_
 refine W.cnd ?_ ?_ <;> intro s9 <;> try exact zwx s9
 ·apply W.sk
  refine W.cnd ?_ ?_ <;> intro sb9 <;> try exact zwx sb9
  refine zgs ?_
  (refine zfn ?_; intro w' hw')
  have ho : arityR i = 2 := by unfold arityR opsN; grind
  exact ⟨by rw [ho], by (exact hw'.fr)⟩
 refine zgs ?_
 refine W.cnd ?_ ?_ <;> intro s10 <;> try exact zwx s10
 ·apply W.sk
  refine W.cnd ?_ ?_ <;> intro sb10 <;> try exact zwx sb10
  refine zgs ?_
  (refine zfn ?_; intro w' hw')
  have ho : arityR i = 2 := by unfold arityR opsN; grind
  exact ⟨by rw [ho], by (exact hw'.fr)⟩
 refine zgs ?_
 refine W.cnd ?_ ?_ <;> intro s11 <;> try exact zwx s11
 ·apply W.sk
  refine W.cnd ?_ ?_ <;> intro sb11 <;> try exact zwx sb11
  refine zgs ?_
  (refine zfn ?_; intro w' hw')
  have ho : arityR i = 2 := by unfold arityR opsN; grind
  exact ⟨by rw [ho], by (exact hw'.fr)⟩
 refine zgs ?_
 refine W.cnd ?_ ?_ <;> intro s12 <;> try exact zwx s12
 ·apply W.sk
  refine W.cnd ?_ ?_ <;> intro sb12 <;> try exact zwx sb12
  refine zgs ?_
  (refine zfn ?_; intro w' hw')
  have ho : arityR i = 2 := by unfold arityR opsN; grind
  exact ⟨by rw [ho], by (exact hw'.fr)⟩
 refine zgs ?_
 refine W.cnd ?_ ?_ <;> intro s13 <;> try exact zwx s13
 ·apply W.sk
  refine W.cnd ?_ ?_ <;> intro sb13 <;> try exact zwx sb13
  refine zgs ?_
  (refine zfn ?_; intro w' hw')
  have ho : arityR i = 2 := by unfold arityR opsN; grind
  exact ⟨by rw [ho], by (exact hw'.fr)⟩
 refine zgs ?_
 refine W.cnd ?_ ?_ <;> intro s14 <;> try exact zwx s14
 ·apply W.sk
  refine W.cnd ?_ ?_ <;> intro sb14 <;> try exact zwx sb14
  refine zgs ?_
  (refine zfn ?_; intro w' hw')
  have ho : arityR i = 2 := by unfold arityR opsN; grind
  exact ⟨by rw [ho], by (exact hw'.fr)⟩
 refine zgs ?_
 refine W.cnd ?_ ?_ <;> intro s15 <;> try exact zwx s15
 ·apply W.sk
  refine W.cnd ?_ ?_ <;> intro sb15 <;> try exact zwx sb15
  refine zgs ?_
  (refine zfn ?_; intro w' hw')
  have ho : arityR i = 2 := by unfold arityR opsN; grind
  exact ⟨by rw [ho], by (exact hw'.fr)⟩
 refine zgs ?_
 refine W.cnd ?_ ?_ <;> intro s16 <;> try exact zwx s16
 ·apply W.sk
  refine W.cnd ?_ ?_ <;> intro sb16 <;> try exact zwx sb16
  refine zgs ?_
  (refine zfn ?_; intro w' hw')
  have ho : arityR i = 2 := by unfold arityR opsN; grind
  exact ⟨by rw [ho], by (exact hw'.fr)⟩
 refine zgs ?_
 refine W.cnd ?_ ?_ <;> intro s17 <;> try exact zwx s17
 ·apply W.sk
  refine W.cnd ?_ ?_ <;> intro sb17 <;> try exact zwx sb17
  refine zgs ?_
  (refine zfn ?_; intro w' hw')
  have ho : arityR i = 2 := by unfold arityR opsN; grind
  exact ⟨by rw [ho], by (exact hw'.fr)⟩
 refine zgs ?_
 refine W.cnd ?_ ?_ <;> intro s18 <;> try exact zwx s18
 ·apply W.sk
  refine W.cnd ?_ ?_ <;> intro sb18 <;> try exact zwx sb18
  refine zgs ?_
  (refine zfn ?_; intro w' hw')
  have ho : arityR i = 2 := by unfold arityR opsN; grind
  exact ⟨by rw [ho], by (exact hw'.fr)⟩
 refine zgs ?_
 refine W.cnd ?_ ?_ <;> intro s19 <;> try exact zwx s19
 ·refine zgs ?_
  (refine zfn ?_; intro w' hw')
  have ho : arityR i = 2 := by unfold arityR opsN; grind
  exact ⟨by rw [ho], by (exact hw'.fr)⟩
 refine zgs ?_
 refine W.cnd ?_ ?_ <;> intro s20 <;> try exact zwx s20
 ·refine zgs ?_
  (refine zfn ?_; intro w' hw')
  have ho : arityR i = 3 := by unfold arityR opsN; grind
  exact ⟨by rw [ho], by (exact hw'.fr)⟩
 refine zgs ?_
 refine W.cnd ?_ ?_ <;> intro s21 <;> try exact zwx s21
 ·apply W.sk
  refine W.cnd ?_ ?_ <;> intro sb21 <;> try exact zwx sb21
  refine zgs ?_
  (refine zfn ?_; intro w' hw')
  have ho : arityR i = (-1) := by unfold arityR opsN; grind
  exact ⟨by rw [ho], by (exact hw'.fr)⟩
 refine zgs ?_
 refine W.cnd ?_ ?_ <;> intro s22 <;> try exact zwx s22
 ·apply W.sk
  refine W.cnd ?_ ?_ <;> intro sb22 <;> try exact zwx sb22
  refine zgs ?_
  (refine zfn ?_; intro w' hw')
  have ho : arityR i = (-1) := by unfold arityR opsN; grind
  exact ⟨by rw [ho], by (exact hw'.fr)⟩
 refine zgs ?_
 refine W.cnd ?_ ?_ <;> intro s23 <;> try exact zwx s23
 ·apply W.sk
  refine W.cnd ?_ ?_ <;> intro sb23 <;> try exact zwx sb23
  refine zgs ?_
  (refine zfn ?_; intro w' hw')
  have ho : arityR i = (-1) := by unfold arityR opsN; grind
  exact ⟨by rw [ho], by (exact hw'.fr)⟩
 refine zgs ?_
 refine W.cnd ?_ ?_ <;> intro s24 <;> try exact zwx s24
 ·refine zgs ?_
  (refine zfn ?_; intro w' hw')
  have ho : arityR i = (-1) := by unfold arityR opsN; grind
  exact ⟨by rw [ho], by (exact hw'.fr)⟩
 refine zgs ?_
 refine W.cnd ?_ ?_ <;> intro s25 <;> try exact zwx s25
 ·refine zgs ?_
  refine W.cnd ?_ ?_ <;> intro p1 <;> try exact zwx p1
  ·refine zgs ?_
   (refine zfn ?_; intro w' hw')
   have ho : arityR i = i.n := by unfold arityR opsN; grind
   exact ⟨by rw [ho], by (exact hw'.fr)⟩
  ·refine zgs ?_
   (refine zfn ?_; intro w' hw')
   have ho : arityR i = -2 := by unfold arityR opsN; grind
   exact ⟨by rw [ho], by (exact hw'.fr)⟩
 refine zgs ?_
 (refine zfn ?_; intro w' hw')
 have ho : arityR i = (-2) := by unfold arityR opsN; grind
 exact ⟨by rw [ho], by (exact hw'.fr)⟩
theorem insErr_calls (i : In) (y : Sc) (w : World) (hl : i.args.length ≤ 140737488355328) :
  Calls Try.prog 100 [.agg (inC i y).toArray].toArray w fun e w' => e = .returned (.int .i64 (formE i)) ∧ Ext w w' := by
 refine enter Try.func100 rfl Try.ntmps100 rfl (Cls.start w) (zen ?_)
 simp only [inC]
 apply W.sr
 apply OL.box; rfl; rfl; exact CellsL.agg; (intro bk hbk; simp only [AllLe, and_true] at hbk)
 refine zgs ?_
 (((first | apply OL.op | apply QL.op); exact Guard.au; rfl; rfl); (exact Pev.call rfl (by exact Args.au) (fun _ w2 hw2 => (arity_calls i y w2).mono (fun e w3 h => ⟨h.1, hw2.ext h.2⟩))))
 have hF : formE i = if arityR i = -2 ∨ (0 ≤ arityR i ∧ (i.args.length : Int) ≠ arityR i) ∨ (i.op = 14 ∧ i.args.length = 0) then 3 else if ((i.op = 8 ∨ i.op = 9) ∧ 16 < i.args.length) ∨ ((i.op = 13 ∨ i.op = 14) ∧ 6 < i.args.length) then 2 else if numB i then 0 else 4 := by
  unfold formE arityR
  cases hn : opsN i with
  | none => simp
  | some m =>
   have : ¬ m = -2 := by unfold opsN at hn; grind
   simp [this]
 rw [hF]
 generalize arityR i = ar
 refine zgs ?_
 refine W.cond rfl (fun hb => ?_) (fun hb => ?_)
 ·refine zgs ?_
  (refine zfn ?_; intro w' hw')
  rw [if_pos (by simp at hb; omega)]
  exact ⟨rfl, by (exact hw'.fr)⟩
 rw [if_neg (by simp at hb; omega)]
 refine zgs ?_
 refine W.cond rfl (fun hb2 => ?_) (fun hb2 => ?_)
 ·refine zgs ?_
  (refine zfn ?_; intro w' hw')
  rw [if_pos (by simp at hb2; omega)]
  exact ⟨rfl, by (exact hw'.fr)⟩
 rw [if_neg (by simp at hb2; omega)]
 apply W.sk
 apply W.sr
 apply ofa; rfl; rfl; rfl
 apply old; rfl; rfl; exact .head _; rfl; rfl
 apply obn; rfl; rfl; rfl; apply Bin.eql
 apply oas; rfl; rfl
 apply OL.nx
 apply W.seq
 apply W.sr
 apply ofa; rfl; rfl; rfl
 apply old; rfl; rfl; exact .head _; rfl; rfl
 apply OL.nx
 refine W.joinx (G := Bool) (fun b => b = numB i) (fun b => [(4, true, .bool b)]) (fun _ => Cls [blk bk 85 [.int .i64 i.to_, .int .i64 i.op, .int .i64 i.n, .slice y.1 i.args.length y.2]] [w]) ?_ ?_
 ·skip
  refine zgs ?_
  refine W.cnd ?_ ?_ <;> intro s1 <;> try exact zwx s1
  ·refine zgs ?_
   (((first | apply OL.op | apply QL.op); exact Guard.au; rfl; rfl); (exact Pev.call rfl (by exact Args.au) (fun _ w2 hw2 => (word_calls i.n w2).mono (fun e w3 h => ⟨h.1, hw2.ext h.2⟩))))
   refine zgs ?_
   exact At.joinedx (numB i) rfl (by rw [show numB i = (wordB i.n) by unfold numB; grind]; exact Sub.au) (fun w' hw' => hw')
  refine zgs ?_
  refine W.cnd ?_ ?_ <;> intro s2 <;> try exact zwx s2
  ·apply W.sk
   refine W.cnd ?_ ?_ <;> intro sb2 <;> try exact zwx sb2
   refine zgs ?_
   (((first | apply OL.op | apply QL.op); exact Guard.au; rfl; rfl); (exact Pev.call rfl (by exact Args.au) (fun _ w2 hw2 => (Within_calls i.n 0 255 w2).mono (fun e w3 h => ⟨h.1, hw2.ext h.2⟩))))
   refine zgs ?_
   exact At.joinedx (numB i) rfl (by rw [show numB i = (decide ((0 : Int) ≤ i.n) && decide (i.n ≤ 255)) by unfold numB; grind]; exact Sub.au) (fun w' hw' => hw')
  refine zgs ?_
  refine W.cnd ?_ ?_ <;> intro s3 <;> try exact zwx s3
  ·apply W.sk
   refine W.cnd ?_ ?_ <;> intro sb3 <;> try exact zwx sb3
   refine zgs ?_
   (((first | apply OL.op | apply QL.op); exact Guard.au; rfl; rfl); (exact Pev.call rfl (by exact Args.au) (fun _ w2 hw2 => (Within_calls i.n 0 255 w2).mono (fun e w3 h => ⟨h.1, hw2.ext h.2⟩))))
   refine zgs ?_
   exact At.joinedx (numB i) rfl (by rw [show numB i = (decide ((0 : Int) ≤ i.n) && decide (i.n ≤ 255)) by unfold numB; grind]; exact Sub.au) (fun w' hw' => hw')
  refine zgs ?_
  refine W.cnd ?_ ?_ <;> intro s4 <;> try exact zwx s4
  ·refine zgs ?_
   (((first | apply OL.op | apply QL.op); exact Guard.au; rfl; rfl); (exact Pev.call rfl (by exact Args.au) (fun _ w2 hw2 => (Within_calls i.n 0 255 w2).mono (fun e w3 h => ⟨h.1, hw2.ext h.2⟩))))
   refine zgs ?_
   exact At.joinedx (numB i) rfl (by rw [show numB i = (decide ((0 : Int) ≤ i.n) && decide (i.n ≤ 255)) by unfold numB; grind]; exact Sub.au) (fun w' hw' => hw')
  refine zgs ?_
  refine W.cnd ?_ ?_ <;> intro s5 <;> try exact zwx s5
  ·refine zgs ?_
   (((first | apply OL.op | apply QL.op); exact Guard.au; rfl; rfl); (exact Pev.call rfl (by exact Args.au) (fun _ w2 hw2 => (Within_calls i.n 0 15 w2).mono (fun e w3 h => ⟨h.1, hw2.ext h.2⟩))))
   refine zgs ?_
   exact At.joinedx (numB i) rfl (by rw [show numB i = (decide ((0 : Int) ≤ i.n) && decide (i.n ≤ 15)) by unfold numB; grind]; exact Sub.au) (fun w' hw' => hw')
  refine zgs ?_
  refine W.cnd ?_ ?_ <;> intro s6 <;> try exact zwx s6
  ·refine zgs ?_
   exact At.joinedx (numB i) rfl (by rw [show numB i = (decide (i.n = 1) || decide (i.n = 2) || decide (i.n = 3)) by unfold numB; grind]; exact Sub.au) (fun w' hw' => hw')
  refine zgs ?_
  refine W.cnd ?_ ?_ <;> intro s7 <;> try exact zwx s7
  ·refine zgs ?_
   (((first | apply OL.op | apply QL.op); exact Guard.au; rfl; rfl); (exact Pev.call rfl (by exact Args.au) (fun _ w2 hw2 => (Within_calls i.n 0 3 w2).mono (fun e w3 h => ⟨h.1, hw2.ext h.2⟩))))
   refine zgs ?_
   exact At.joinedx (numB i) rfl (by rw [show numB i = (decide ((0 : Int) ≤ i.n) && decide (i.n ≤ 3)) by unfold numB; grind]; exact Sub.au) (fun w' hw' => hw')
  refine zgs ?_
  refine W.cnd ?_ ?_ <;> intro s8 <;> try exact zwx s8
  ·refine zgs ?_
   exact At.joinedx (numB i) rfl (by rw [show numB i = (true) by unfold numB; grind]; exact Sub.au) (fun w' hw' => hw')
  refine zgs ?_
  exact At.joinedx (numB i) rfl (by rw [show numB i = (decide (i.n = 0)) by unfold numB; grind]; exact Sub.au) (fun w' hw' => hw')
 rintro b rfl
 refine zgs ?_
 refine W.cnd ?_ ?_ <;> intro h3 <;> try exact zwx h3
 ·refine zgs ?_
  (refine zfn ?_; intro w' hw')
  rw [if_neg (by simp [h3])]
  exact ⟨rfl, by (exact hw'.fr)⟩
 ·refine zgs ?_
  (refine zfn ?_; intro w' hw')
  rw [if_pos h3]
  exact ⟨rfl, by (exact hw'.fr)⟩
end Go.Proofs.Ytehelljmaiophaa.ss

/- Maps whose keys are strings, of the call's own: an item for the list of keys and values; make, look up, put a new key, delete. General. No condition. -/
namespace Go.Eng
open Go.RowKit Go.MapKept
abbrev MP := List (ByteArray × Value)
def mget : MP → ByteArray → Option Value
 | [], _ => none
 | p :: r, k => if p.1 = k then some p.2 else mget r k
def mdel : MP → ByteArray → MP
 | [], _ => []
 | p :: r, k => if p.1 = k then r else p :: mdel r k
def mcells (m : MP) : List (Value × Value) := m.map fun p => (.string p.1, p.2)
def mapS (b : Nat) (m : MP) : Item :=
 ⟨fun k => k = b, fun w => ∃ es clock, w.heap[b]? = some (.map es clock) ∧ es.toList.map (fun e => (e.key, e.val)) = mcells m, fun w w' hk ⟨es, c, h, h2⟩ => ⟨es, c, (hk b rfl).trans h, h2⟩⟩
theorem NotOwned.mapS {H : List Item} {b : Nat} {m : MP} {k : Nat} (h : k ≠ b) (r : NotOwned H k) : NotOwned (Eng.mapS b m :: H) k := NotOwned.any (fun hm => h hm) r
theorem now_str : ∀ (es : List MapEntry) (m : MP) (i : Nat) (k : ByteArray), es.map (fun e => (e.key, e.val)) = mcells m →
  (Instr.findNow .string (.string k) es i = some none ∧ mget m k = none) ∨ ∃ j v, Instr.findNow .string (.string k) es i = some (some (i + j, v)) ∧ mget m k = some v ∧ es.eraseIdx j = es.eraseIdx j ∧ (es.eraseIdx j).map (fun e => (e.key, e.val)) = mcells (mdel m k) ∧ j < es.length
 | [], m, i, k, h => by
  cases m with
  | nil => exact .inl ⟨rfl, rfl⟩
  | cons p r => simp [mcells] at h
 | e :: es, m, i, k, h => by
  cases m with
  | nil => simp [mcells] at h
  | cons p r =>
   simp only [mcells, List.map_cons, List.cons.injEq, Prod.mk.injEq] at h
   obtain ⟨⟨h1, h2⟩, h3⟩ := h
   by_cases hk : p.1 = k
   ·refine .inr ⟨0, e.val, ?_, by simp [mget, hk, h2], rfl, ?_, by simp⟩
    ·simp [Instr.findNow, Instr.sameNow, h1, (Go.MapKept.bytes_beq k p.1).2 hk.symm]
    ·simp only [List.eraseIdx_cons_zero, mdel, hk, if_true]
     exact h3
   ·have hb : (k == p.1) = false := by
     rw [Bool.eq_false_iff]
     exact fun hh => hk ((Go.MapKept.bytes_beq k p.1).1 hh).symm
    rcases now_str es r (i + 1) k h3 with ⟨h4, h5⟩ | ⟨j, v, h4, h5, _, h6, h7⟩
    ·exact .inl ⟨by simp [Instr.findNow, Instr.sameNow, h1, hb, h4], by simp [mget, hk, h5]⟩
    ·refine .inr ⟨j + 1, v, by simp [Instr.findNow, Instr.sameNow, h1, hb, h4]; omega, by simp [mget, hk, h5], rfl, ?_, by simp; omega⟩
     simp only [List.eraseIdx_cons_succ, List.map_cons, mdel, hk, if_false, mcells, h1, h2]
     rw [h6]; rfl
section
variable {P : Program} {n : Nat} {l : Env} {H : List Item} {S : List World} {C : World → Prop} {c : Bool} {d : Option Nat} {ty : TypeId} {pos : String} {af : Array Edge} {g : Option (Nat × Bool)}
variable {ops : Array Oper} {rest : List Oper} {Q : Exit → Act → World → Prop} {t : TypeId} {x y z : Operand} {cx cy cz : Bool}
def mapT (P : Program) (t : TypeId) : Option (TypeId × TypeId) := match P.underlying t with
 | some (.map k e) => match P.underlying k with
  | some .string => some (k, e)
  | _ => none
 | _ => none
theorem mapT_spec {k e : TypeId} (h : mapT P t = some (k, e)) : P.underlying t = some (.map k e) ∧ P.underlying k = some .string := by
 unfold mapT at h
 split at h
 ·split at h
  ·simp only [Option.some.injEq, Prod.mk.injEq] at h
   obtain ⟨rfl, rfl⟩ := h
   rename_i h1 _ h2
   exact ⟨h1, h2⟩
  ·cases h
 ·cases h
theorem isKey_str (s : ByteArray) : IsKey .string (.string s) := by simp [IsKey]
theorem Pev.lookup {k e : TypeId} {b : Nat} {m : MP} {s : ByteArray} {zv : Value} (hx : evl l x = some (cx, .map (some b))) (hcx : c = true → cx = true) (hy : evl l y = some (cy, .string s)) (hcy : c = true → cy = true) (ht : mapT P t = some (k, e)) (hz : zeroV P e = some zv) (hm : mapS b m ∈ H) :
  Pev P n l (Cls H S) ⟨d, .lookup t x y false, ty, pos, af, g⟩ c ((mget m s).getD zv) :=
 .of_run fun h a w hs hw => by
  obtain ⟨h1, h2⟩ := mapT_spec ht
  obtain ⟨es, clock, hb, hes⟩ := hw.item hm
  have hr : (Instr.lookup t (.map (some b)) (.string s) false).run P w = .ok ((mget m s).getD zv) w := by
   simp only [Instr.lookup, Sem.run_bind, run_underlying h1, Result.andThen_ok, Go.MapKept.run_getObj_map (P := P) hb, Sem.run_pure, run_checkKey h2 (isKey_str s)]
   rcases now_str es.toList m 0 s hes with ⟨h3, h4⟩ | ⟨j, v, h3, h4, _⟩
   ·rw [run_findKey h2 h3]
    simp [run_zeroV hz, h4]
   ·rw [run_findKey h2 h3]
    simp [h4]
  simp only [execOp, hs.eval hx (hcx h), hs.eval hy (hcy h), Sem.run_bind, hr, Result.andThen_ok]
  rfl
theorem OL.makeMap {dd : Nat} {k e : TypeId} (hn : Nat.ble (dd + 1) n = true) (ht : mapT P t = some (k, e)) (kk : ∀ b, AllLe S b → OL P n ops Q rest ((dd, true, .map (some b)) :: l) (Cls (mapS b [] :: H) S)) :
  OL P n ops Q (⟨some dd, .makeMap t none, ty, pos, af, none⟩ :: rest) l (Cls H S) :=
 OL.new (C' := fun b w => AllLe S b ∧ Cls (mapS b [] :: H) S w) rfl rfl hn (fun b => .map (some b))
  (fun a w hs hc => ⟨w.heap.size, w.alloc (.map #[] 0), rfl, AllLe.mk hc, hc.add (ext_alloc w _) _ ⟨#[], 0, heap_alloc_new w _, rfl⟩ (fun k hk => by
   have hk' : k = w.heap.size := hk
   subst hk'; simp)⟩)
  (fun b => ⟨fun a w hs hc => (kk b hc.1).run a w hs hc.2⟩)
theorem set_heap {w : World} {b : Nat} {o o' : Obj} (hb : w.heap[b]? = some o) : ({ w with heap := w.heap.setIfInBounds b o' } : World).heap[b]? = some o' ∧ Keep (fun k => k = b) w { w with heap := w.heap.setIfInBounds b o' } := by
 have hlt := (Array.getElem?_eq_some_iff.1 hb).1
 refine ⟨by simp [Array.getElem?_setIfInBounds, hlt], rfl, rfl, rfl, by simp, fun k hk hne => ?_⟩
 have : ¬ b = k := fun e => hne e.symm
 simp [Array.getElem?_setIfInBounds, this]
end
end Go.Eng

/- Maps whose keys are ints: an item for the list of keys and values; make, look up, put, delete; range over a map. General. No condition. -/
namespace Go.Eng
open Go.RowKit Go.MapKept
abbrev MI := List (Int × Value)
def iget : MI → Int → Option Value
 | [], _ => none
 | p :: r, k => if p.1 = k then some p.2 else iget r k
def idel : MI → Int → MI
 | [], _ => []
 | p :: r, k => if p.1 = k then r else p :: idel r k
def iput : MI → Int → Value → MI
 | [], k, v => [(k, v)]
 | p :: r, k, v => if p.1 = k then (k, v) :: r else p :: iput r k v
theorem iput_new : ∀ {m : MI} {k : Int} {v : Value}, iget m k = none → iput m k v = m ++ [(k, v)]
 | [], k, v, _ => rfl
 | p :: r, k, v, h => by
  rw [iget] at h
  by_cases e : p.1 = k
  ·rw [if_pos e] at h; cases h
  ·rw [if_neg e] at h
   rw [iput, if_neg e, iput_new h]; rfl
def icells (m : MI) : List (Value × Value) := m.map fun p => (.int .i64 p.1, p.2)
structure MapIs (es : Array MapEntry) (clock : Nat) (m : MI) : Prop where
 es_ : es.toList.map (fun e => (e.key, e.val)) = icells m
 lt : ∀ x ∈ es.toList, x.born < clock
 nd : (es.toList.map (·.born)).Nodup
def mapI (b : Nat) (m : MI) : Item :=
 ⟨fun k => k = b, fun w => ∃ es clock, w.heap[b]? = some (.map es clock) ∧ MapIs es clock m, fun w w' hk ⟨es, c, h, h2⟩ => ⟨es, c, (hk b rfl).trans h, h2⟩⟩
theorem NotOwned.mapI {H : List Item} {b : Nat} {m : MI} {k : Nat} (h : k ≠ b) (r : NotOwned H k) : NotOwned (Eng.mapI b m :: H) k := NotOwned.any (fun hm => h hm) r
theorem now_int : ∀ (es : List MapEntry) (m : MI) (i : Nat) (k : Int), es.map (fun e => (e.key, e.val)) = icells m →
  (Instr.findNow (.int .i64) (.int .i64 k) es i = some none ∧ iget m k = none) ∨ ∃ j v e0, Instr.findNow (.int .i64) (.int .i64 k) es i = some (some (i + j, v)) ∧ iget m k = some v ∧ es[j]? = some e0 ∧ e0.key = .int .i64 k ∧ (es.eraseIdx j).map (fun e => (e.key, e.val)) = icells (idel m k) ∧ ∀ v', (es.modify j (fun e => { e with key := .int .i64 k, val := v' })).map (fun e => (e.key, e.val)) = icells (iput m k v')
 | [], m, i, k, h => by
  cases m with
  | nil => exact .inl ⟨rfl, rfl⟩
  | cons p r => simp [icells] at h
 | e :: es, m, i, k, h => by
  cases m with
  | nil => simp [icells] at h
  | cons p r =>
   simp only [icells, List.map_cons, List.cons.injEq, Prod.mk.injEq] at h
   obtain ⟨⟨h1, h2⟩, h3⟩ := h
   by_cases hk : p.1 = k
   ·refine .inr ⟨0, e.val, e, ?_, by simp [iget, hk, h2], rfl, by rw [h1, hk], ?_, fun v' => ?_⟩
    ·simp [Instr.findNow, Instr.sameNow, h1, hk]
    ·simp only [List.eraseIdx_cons_zero, idel, hk, if_true]
     exact h3
    ·rw [List.modify_zero_cons]
     simp only [List.map_cons, iput, hk, if_true, icells]
     rw [h3]
     first | done | rfl
   ·have hb : (k == p.1) = false := by
     rw [Bool.eq_false_iff]
     exact fun hh => hk (show k = p.1 by simpa using hh).symm
    rcases now_int es r (i + 1) k h3 with ⟨h4, h5⟩ | ⟨j, v, e0, h4, h5, h6, h7, h8, h9⟩
    ·exact .inl ⟨by simp [Instr.findNow, Instr.sameNow, h1, hb, h4], by simp [iget, hk, h5]⟩
    ·refine .inr ⟨j + 1, v, e0, by simp [Instr.findNow, Instr.sameNow, h1, hb, h4]; omega, by simp [iget, hk, h5], by simpa using h6, h7, ?_, fun v' => ?_⟩
     ·simp only [List.eraseIdx_cons_succ, List.map_cons, idel, hk, if_false, icells, h1, h2]
      rw [h8]; rfl
     ·rw [List.modify_succ_cons]
      simp only [List.map_cons, iput, hk, if_false, icells, h1, h2]
      rw [h9]; rfl
theorem isKey_int (s : Int) : IsKey (.int .i64) (.int .i64 s) := by simp [IsKey]
section
variable {P : Program} {n : Nat} {l : Env} {H : List Item} {S : List World} {C : World → Prop} {c : Bool} {d : Option Nat} {ty : TypeId} {pos : String} {af : Array Edge} {g : Option (Nat × Bool)}
variable {ops : Array Oper} {rest : List Oper} {Q : Exit → Act → World → Prop} {t : TypeId} {x y z : Operand} {cx cy cz : Bool}
def mapTi (P : Program) (t : TypeId) : Option (TypeId × TypeId) := match P.underlying t with
 | some (.map k e) => match P.underlying k with
  | some (.int .i64) => some (k, e)
  | _ => none
 | _ => none
theorem mapTi_spec {k e : TypeId} (h : mapTi P t = some (k, e)) : P.underlying t = some (.map k e) ∧ P.underlying k = some (.int .i64) := by
 unfold mapTi at h
 split at h
 ·split at h
  ·simp only [Option.some.injEq, Prod.mk.injEq] at h
   obtain ⟨rfl, rfl⟩ := h
   rename_i h1 _ h2
   exact ⟨h1, h2⟩
  ·cases h
 ·cases h
theorem run_ilookup {w : World} {k e : TypeId} {b clock : Nat} {es : Array MapEntry} {m : MI} {s : Int} {zv : Value} (ht : mapTi P t = some (k, e)) (hz : zeroV P e = some zv) (hb : w.heap[b]? = some (.map es clock)) (hm : MapIs es clock m) (co : Bool) :
  (Instr.lookup t (.map (some b)) (.int .i64 s) co).run P w = .ok (if co then .tuple #[(iget m s).getD zv, .bool (iget m s).isSome] else (iget m s).getD zv) w := by
 obtain ⟨h1, h2⟩ := mapTi_spec ht
 simp only [Instr.lookup, Sem.run_bind, run_underlying h1, Result.andThen_ok, Go.MapKept.run_getObj_map (P := P) hb, Sem.run_pure, run_checkKey h2 (isKey_int s)]
 rcases now_int es.toList m 0 s hm.es_ with ⟨h3, h4⟩ | ⟨j, v, _, h3, h4, _⟩
 ·rw [run_findKey h2 h3]
  simp [run_zeroV hz, h4]
 ·rw [run_findKey h2 h3]
  simp [h4]
theorem Pev.ilookup {k e : TypeId} {b : Nat} {m : MI} {s : Int} {zv : Value} (hx : evl l x = some (cx, .map (some b))) (hcx : c = true → cx = true) (hy : evl l y = some (cy, .int .i64 s)) (hcy : c = true → cy = true) (ht : mapTi P t = some (k, e)) (hz : zeroV P e = some zv) (hm : ∀ w, C w → (mapI b m).holds w) :
  Pev P n l C ⟨d, .lookup t x y false, ty, pos, af, g⟩ c ((iget m s).getD zv) :=
 .of_run fun h a w hs hw => by
  obtain ⟨es, clock, hb, hes⟩ := hm w hw
  have hr := run_ilookup (s := s) ht hz hb hes false
  simp only [execOp, hs.eval hx (hcx h), hs.eval hy (hcy h), Sem.run_bind, hr, Result.andThen_ok]
  rfl
theorem Pev.ilookup2 {k e : TypeId} {b : Nat} {m : MI} {s : Int} {zv : Value} (hx : evl l x = some (cx, .map (some b))) (hcx : c = true → cx = true) (hy : evl l y = some (cy, .int .i64 s)) (hcy : c = true → cy = true) (ht : mapTi P t = some (k, e)) (hz : zeroV P e = some zv) (hm : ∀ w, C w → (mapI b m).holds w) :
  Pev P n l C ⟨d, .lookup t x y true, ty, pos, af, g⟩ c (.tuple #[(iget m s).getD zv, .bool (iget m s).isSome]) :=
 .of_run fun h a w hs hw => by
  obtain ⟨es, clock, hb, hes⟩ := hm w hw
  have hr := run_ilookup (s := s) ht hz hb hes true
  simp only [execOp, hs.eval hx (hcx h), hs.eval hy (hcy h), Sem.run_bind, hr, Result.andThen_ok]
  rfl
theorem OL.imakeMap {dd : Nat} {k e : TypeId} (hn : Nat.ble (dd + 1) n = true) (ht : mapTi P t = some (k, e)) (kk : ∀ b, AllLe S b → OL P n ops Q rest ((dd, true, .map (some b)) :: l) (Cls (mapI b [] :: H) S)) :
  OL P n ops Q (⟨some dd, .makeMap t none, ty, pos, af, none⟩ :: rest) l (Cls H S) :=
 OL.new (C' := fun b w => AllLe S b ∧ Cls (mapI b [] :: H) S w) rfl rfl hn (fun b => .map (some b))
  (fun a w hs hc => ⟨w.heap.size, w.alloc (.map #[] 0), rfl, AllLe.mk hc, hc.add (ext_alloc w _) _ ⟨#[], 0, heap_alloc_new w _, ⟨rfl, by simp, by simp⟩⟩ (fun k hk => by
   have hk' : k = w.heap.size := hk
   subst hk'; simp)⟩)
  (fun b => ⟨fun a w hs hc => (kk b hc.1).run a w hs hc.2⟩)
theorem OL.iput {k e : TypeId} {b p : Nat} {m : MI} {s : Int} {v : Value} {F : Item → List Item} (hx : evl l x = some (true, .map (some b))) (hy : evl l y = some (true, .int .i64 s)) (hz : evl l z = some (true, v)) (ht : mapTi P t = some (k, e)) (hH : Hole p H (mapI b m) F)
  (kk : OL P n ops Q rest l (Cls (F (mapI b (iput m s v))) S)) : OL P n ops Q (⟨none, .mapUpdate t x y z, ty, pos, af, none⟩ :: rest) l (Cls H S) := by
 obtain ⟨hp, hF⟩ := hH.eq
 rw [hF] at kk
 obtain ⟨h1, h2⟩ := mapTi_spec ht
 refine OL.store_ (C' := Cls (H.set p (mapI b (Eng.iput m s v))) S) rfl rfl (fun a w hs hc => ?_) kk
 obtain ⟨es, clock, hb, hes⟩ := hc.item (List.mem_of_getElem? hp)
 have fin : ∀ (es' : Array MapEntry) (clock' : Nat), (Instr.mapUpdate t (.map (some b)) (.int .i64 s) v).run P w = .ok () { w with heap := w.heap.setIfInBounds b (.map es' clock') } → MapIs es' clock' (Eng.iput m s v) → ∃ w', (execOp a.eval ⟨none, .mapUpdate t x y z, ty, pos, af, none⟩).run P w = .ok .skip w' ∧ Cls (H.set p (mapI b (Eng.iput m s v))) S w' := fun es' clock' hr hm => by
  obtain ⟨hh, hk⟩ := set_heap (o' := .map es' clock') hb
  refine ⟨_, ?_, hc.turn p hp (j := mapI b (Eng.iput m s v)) hk ⟨_, _, hh, hm⟩ (fun q hq => ?_) (fun q hq => hq)⟩
  ·simp only [execOp, hs.eval hx rfl, hs.eval hy rfl, hs.eval hz rfl, Sem.run_bind, hr, Result.andThen_ok]
   rfl
  ·have hq' : q = b := hq
   subst hq'
   exact ⟨.inl rfl, Nat.lt_of_lt_of_le (hc.lt _ (List.mem_of_getElem? hp) q rfl) hk.size⟩
 rcases now_int es.toList m 0 s hes.es_ with ⟨h3, h4⟩ | ⟨j, v', e0, h3, h4, h5, h6, _, h7⟩
 ·refine fin (es.push { key := .int .i64 s, val := v, born := clock }) (clock + 1) ?_ ⟨?_, fun x hx => ?_, ?_⟩
  ·simp only [Instr.mapUpdate, Sem.run_bind, run_underlying h1, Result.andThen_ok, Go.MapKept.run_getObj_map (P := P) hb, run_checkKey h2 (isKey_int s), run_findKey h2 h3, run_setObj_map _ hb]
  ·rw [iput_new h4]
   simp [hes.es_, icells]
  ·simp only [Array.toList_push, List.mem_append, List.mem_singleton] at hx
   rcases hx with hx | rfl
   ·exact Nat.lt_succ_of_lt (hes.lt x hx)
   ·exact Nat.lt_succ_self _
  ·simp only [Array.toList_push, List.map_append, List.map_cons, List.map_nil]
   refine List.nodup_append.2 ⟨hes.nd, by simp, ?_⟩
   intro a ha b hb
   simp only [List.mem_singleton] at hb
   subst hb
   obtain ⟨x, hx, rfl⟩ := List.mem_map.1 ha
   exact Nat.ne_of_lt (hes.lt x hx)
 ·rw [Nat.zero_add] at h3
  have hj : es[j]? = some e0 := by simpa using h5
  have hml : (es.modify j fun e => { e with key := .int .i64 s, val := v }).toList = es.toList.modify j fun e => { e with key := .int .i64 s, val := v } := by simp
  have hborn : (es.toList.modify j fun e => { e with key := .int .i64 s, val := v }).map (·.born) = es.toList.map (·.born) := by
   apply List.ext_getElem?
   intro i
   simp only [List.getElem?_map, List.getElem?_modify]
   by_cases hij : j = i
   ·subst hij
    cases he : es.toList[j]? <;> simp
   ·cases he : es.toList[i]? <;> simp [hij]
  refine fin (es.modify j fun e => { e with key := .int .i64 s, val := v }) clock ?_ ⟨by rw [hml]; exact h7 v, fun x hx => ?_, by rw [hml, hborn]; exact hes.nd⟩
  ·simp [Instr.mapUpdate, run_underlying h1, Go.MapKept.run_getObj_map (P := P) hb, run_checkKey h2 (isKey_int s), run_findKey h2 h3, hj, h6, run_keyThatStays (isKey_int s), run_setObj_map _ hb, Result.andThen]
  ·have : x.born ∈ (es.toList.modify j fun e => { e with key := .int .i64 s, val := v }).map (·.born) := List.mem_map.2 ⟨x, by rw [← hml]; exact hx, rfl⟩
   rw [hborn] at this
   obtain ⟨y, hy, e⟩ := List.mem_map.1 this
   rw [← e]; exact hes.lt y hy
/-! ### range over a map -/
def itI (r b since : Nat) (seen : Array Nat) (c0 : Nat) : Item :=
 ⟨fun k => k = r, fun w => w.heap[r]? = some (.mapIter (some b) since seen c0), fun w w' hk h => (hk r rfl).trans h⟩
theorem NotOwned.itI {H : List Item} {r b since c0 : Nat} {seen : Array Nat} {k : Nat} (h : k ≠ r) (rr : NotOwned H k) : NotOwned (Eng.itI r b since seen c0 :: H) k := NotOwned.any (fun hm => h hm) rr
def mapX (b : Nat) (es : Array MapEntry) (clock : Nat) : Item :=
 ⟨fun k => k = b, fun w => w.heap[b]? = some (.map es clock), fun w w' hk h => (hk b rfl).trans h⟩
theorem NotOwned.mapX {H : List Item} {b clock : Nat} {es : Array MapEntry} {k : Nat} (h : k ≠ b) (rr : NotOwned H k) : NotOwned (Eng.mapX b es clock :: H) k := NotOwned.any (fun hm => h hm) rr
theorem Cls.mapX_of {w : World} {b p : Nat} {m : MI} {F : Item → List Item} (hh : Hole p H (mapI b m) F) (h : Cls H S w) : ∃ x : Array MapEntry × Nat, MapIs x.1 x.2 m ∧ Cls (F (mapX b x.1 x.2)) S w := by
 obtain ⟨h1, h2⟩ := hh.eq
 have hm := List.mem_of_getElem? h1
 obtain ⟨es, clock, hb, hes⟩ := h.item hm
 refine ⟨(es, clock), hes, ?_⟩
 rw [h2]
 exact h.turn p h1 (Keep.refl _ _) hb (fun k hk => ⟨.inl hk, h.lt _ hm k hk⟩) (fun k hk => hk)
end
end Go.Eng

/- Blocks of elements of several cells: make, load, store at a place that is reckoned; a result beside one in a cell. General. No condition. -/
namespace Go.Eng
open Go.RowKit
theorem run_equalIn_arr2 {P : Program} {d : Nat} {t e : TypeId} {xs ys : Array Value} {x0 x1 y0 y1 : Value} {c0 c1 : Bool} (w : World) (hu : P.underlying t = some (.array 2 e)) (hz : ∀ w, (sizeOf e).run P w = .ok 1 w)
  (hx0 : ∀ w, (part e xs 0).run P w = .ok x0 w) (hy0 : ∀ w, (part e ys 0).run P w = .ok y0 w) (hx1 : ∀ w, (part e xs 1).run P w = .ok x1 w) (hy1 : ∀ w, (part e ys 1).run P w = .ok y1 w)
  (e0 : ∀ w, (Op.equalIn d e x0 y0).run P w = .ok c0 w) (e1 : ∀ w, (Op.equalIn d e x1 y1).run P w = .ok c1 w) : (Op.equalIn (d + 1) t (.agg xs) (.agg ys)).run P w = .ok (c0 && c1) w := by
 simp only [Op.equalIn, Sem.run_bind, run_underlying hu, Result.andThen_ok, hz]
 rw [Std.Legacy.Range.forIn_eq_forIn_range']
 simp only [Std.Legacy.Range.size, Nat.sub_zero, Nat.add_sub_cancel, Nat.div_one]
 rw [show List.range' 0 2 1 = [0, 1] from rfl]
 simp only [List.forIn_cons, List.forIn_nil, Sem.run_bind, Nat.zero_mul, Nat.one_mul, hx0, hy0, hx1, hy1, e0, e1, Result.andThen_ok, Sem.run_ite, Sem.run_pure]
 cases c0 <;> cases c1 <;> simp [hx1, hy1, e1]
section
variable {α : Type} {f : α → List Value} {sz : Nat}
theorem putL_get : ∀ (vs cs : List Value) (o j : Nat), o + vs.length ≤ cs.length → (putL cs o vs)[j]? = if o ≤ j ∧ j < o + vs.length then vs[j - o]? else cs[j]?
 | [], cs, o, j, _ => by
  rw [putL, if_neg]
  simp
 | v :: r, cs, o, j, h => by
  simp only [List.length_cons] at h
  rw [putL, putL_get r (cs.set o v) (o + 1) j (by rw [List.length_set]; omega)]
  by_cases h1 : o + 1 ≤ j ∧ j < o + 1 + r.length
  ·rw [if_pos h1, if_pos (by simp only [List.length_cons]; omega), show j - o = (j - (o + 1)) + 1 by omega, List.getElem?_cons_succ]
  ·rw [if_neg h1, List.getElem?_set]
   by_cases h2 : o = j
   ·subst h2
    rw [if_pos rfl, if_pos (by omega), if_pos (by simp only [List.length_cons]; omega)]
    simp
   ·rw [if_neg h2, if_neg (by simp only [List.length_cons]; omega)]
theorem cat_set (hf : ∀ x, (f x).length = sz) (hsz : 0 < sz) {l : List α} {i : Nat} {x : α} (hi : i < l.length) : putL (cat f l) (i * sz) (f x) = cat f (l.set i x) := by
 apply List.ext_getElem?
 intro j
 have hle : i * sz + sz ≤ l.length * sz := by rw [← Nat.succ_mul]; exact Nat.mul_le_mul_right _ hi
 rw [putL_get _ _ _ _ (by rw [hf, cat_length hf]; exact hle), hf]
 by_cases hj : j < l.length * sz
 ·have hq : j / sz < l.length := Nat.div_lt_of_lt_mul (by rwa [Nat.mul_comm] at hj)
  have hm : j % sz < sz := Nat.mod_lt _ hsz
  have ej : j / sz * sz + j % sz = j := by rw [Nat.mul_comm]; exact Nat.div_add_mod j sz
  have hget : ∀ (L : List α) (y : α), L[j / sz]? = some y → (cat f L)[j]? = (f y)[j % sz]? := fun L y hy => by
   have hm2 : j % sz < (f y).length := by rw [hf]; exact hm
   have h1 : (f y)[j % sz]? = some (f y)[j % sz] := List.getElem?_eq_getElem hm2
   have h2 := cat_get hf hy (j % sz) _ h1
   rw [ej] at h2
   rw [h2, h1]
  by_cases hc : i * sz ≤ j ∧ j < i * sz + sz
  ·have hji : j / sz = i := Nat.div_eq_of_lt_le hc.1 (by rw [Nat.succ_mul]; exact hc.2)
   rw [if_pos hc, hget (l.set i x) x (by rw [hji, List.getElem?_set, if_pos rfl, if_pos hi])]
   congr 1
   rw [hji] at ej
   omega
  ·have hji : i ≠ j / sz := fun e => hc (by
    rw [e]
    omega)
   have hy : l[j / sz]? = some l[j / sz] := List.getElem?_eq_getElem hq
   rw [if_neg hc, hget l _ hy, hget (l.set i x) _ (by rw [List.getElem?_set_ne hji]; exact hy)]
 ·rw [if_neg (by omega), List.getElem?_eq_none (by rw [cat_length hf]; omega), List.getElem?_eq_none (by rw [cat_length hf, List.length_set]; omega)]
end
section
variable {P : Program} {n : Nat} {l : Env} {H : List Item} {S : List World} {C : World → Prop} {c : Bool} {d : Option Nat} {ty : TypeId} {pos : String} {af : Array Edge} {g : Option (Nat × Bool)}
variable {ops : Array Oper} {rest : List Oper} {Q : Exit → Act → World → Prop} {t : TypeId} {x y : Operand} {cx cy : Bool}
theorem Bin.shrW {k : IntKind} {yk : IntKind} {a b : Int} (hk : k.bits = 64) (h : 0 ≤ b ∧ b ≤ 64) : Bin P .shr t (.int k a) (.int yk b) (.int k (a / 2 ^ b.toNat)) := Bin.shr ⟨h.1, by rw [hk]; exact h.2⟩
theorem Bin.shlW {k : IntKind} {yk : IntKind} {a b : Int} (hk : k.bits = 64) (h : 0 ≤ b ∧ b ≤ 64) : Bin P .shl t (.int k a) (.int yk b) (.int k (k.wrap (a * 2 ^ b.toNat))) := Bin.shl ⟨h.1, by rw [hk]; exact h.2⟩
theorem Pev.load_blkE {b o k : Nat} {t' : TypeId} {cs vs : List Value} (hx : evl l x = some (cx, .pointer (some ⟨b, o, none⟩))) (hcx : c = true → cx = true)
  (hp : blk b t' cs ∈ H) (hs : aggN P t = some k) (hk : vs.length = k) (hv : c = true → ∀ j v, vs[j]? = some v → cs[o + j]? = some v) : Pev P n l (Cls H S) ⟨d, .load t x, ty, pos, af, g⟩ c (.agg vs.toArray) :=
 .load_of hx hcx fun h w hw => run_loadVar_agg (by rw [hk]; exact hs) fun j v hj => by
  rw [add_mid, blk_cell (hw.item hp)]
  exact hv h j v hj
def zeroCells (P : Program) (e : TypeId) : Option (List Value) := match P.info? e with
 | some i => match i.zero with
  | some z => some z.cells.toList
  | none => none
 | none => none
theorem madeCells_cat {α : Type} {f : α → List Value} {x0 : α} {zs : Array Value} {sz : Nat} (hz : f x0 = zs.toList) (hl : zs.size = sz) (hsz : 0 < sz) (m : Nat) : madeCells zs (m * sz) = (cat f (List.replicate m x0)).toArray := by
 have hlen : ∀ m, (cat f (List.replicate m x0)).length = m * sz := by
  intro m
  induction m with
  | zero => simp [cat]
  | succ m ih => rw [List.replicate_succ, cat, List.length_append, ih, hz, Array.length_toList, hl, Nat.succ_mul, Nat.add_comm]
 have hget : ∀ (m i : Nat), i < m * sz → (cat f (List.replicate m x0))[i]? = zs[i % sz]? := by
  intro m
  induction m with
  | zero => intro i hi; omega
  | succ m ih =>
   intro i hi
   rw [List.replicate_succ, cat]
   by_cases h : i < sz
   ·rw [List.getElem?_append_left (by rw [hz, Array.length_toList, hl]; exact h), hz, Array.getElem?_toList, Nat.mod_eq_of_lt h]
   ·rw [List.getElem?_append_right (by rw [hz, Array.length_toList, hl]; omega), hz, Array.length_toList, hl, ih (i - sz) (by rw [Nat.succ_mul] at hi; omega)]
    rw [← Nat.mod_eq_sub_mod (by omega)]
 apply Array.ext
 ·simp [madeCells, hlen]
 ·intro i h1 h2
  have hi : i < m * sz := by simpa [madeCells] using h1
  have hm : i % sz < zs.size := by rw [hl]; exact Nat.mod_lt _ hsz
  have h3 := hget m i hi
  rw [List.getElem?_eq_getElem (by rw [hlen]; exact hi), Array.getElem?_eq_getElem hm] at h3
  simp only [List.getElem_toArray]
  rw [Option.some.inj h3]
  simp [madeCells, hl]
  exact getElem!_pos zs _ hm
theorem OL.makeSliceK {α : Type} {f : α → List Value} {x0 : α} {e : TypeId} {dd m sz bb : Nat} {k1 k2 : IntKind} {a1 a2 : Int} (hx : evl l x = some (true, .int k1 a1)) (hy : evl l y = some (true, .int k2 a2)) (hn : Nat.ble (dd + 1) n = true)
  (hu : rowElem P t = some (e, sz, bb)) (hz : zeroCells P e = some (f x0)) (hl : (f x0).length = sz) (h1 : a1 = (m : Int)) (h2 : a2 = (m : Int)) (hlim : m ≤ 9223372036854775807 ∧ m * bb ≤ 140737488355328)
  (k : ∀ b, AllLe S b → OL P n ops Q rest ((dd, true, .slice (some ⟨b, 0, none⟩) m m) :: l) (Cls (blk b e (cat f (List.replicate m x0)) :: H) S)) :
  OL P n ops Q (⟨some dd, .makeSlice t x y, ty, pos, af, none⟩ :: rest) l (Cls H S) := by
 obtain ⟨i, z, g1, g2, g3, g4, g5, g6, g7⟩ := rowElem_spec hu
 subst h1
 subst h2
 have hcell : f x0 = z.cells.toList := by
  unfold zeroCells at hz
  rw [g2] at hz
  simp only [g3, Option.some.injEq] at hz
  exact hz.symm
 refine OL.new (C' := fun b w => AllLe S b ∧ Cls (blk b e (cat f (List.replicate m x0)) :: H) S w) rfl rfl hn (fun b => .slice (some ⟨b, 0, none⟩) m m) (fun a w hs hc => ⟨w.heap.size, w.alloc (.cells (cat f (List.replicate m x0)).toArray e), ?_, AllLe.mk hc, hc.alloc e (cat f (List.replicate m x0))⟩) (fun b => ⟨fun a w hs hc => (k b hc.1).run a w hs hc.2⟩)
 have hb : (i.bytes : Int) * (m : Int) ≤ 281474976710656 := by
  have h3 := hlim.2
  rw [← g5, Nat.mul_comm] at h3
  have h5 : ((i.bytes * m : Nat) : Int) ≤ ((140737488355328 : Nat) : Int) := Int.ofNat_le.2 h3
  rw [Int.natCast_mul] at h5
  exact Int.le_trans h5 (by decide)
 have hr := run_make (P := P) w t e i z g1 g2 g3 k1 k2 (m : Int) (m : Int) (by omega) (by omega) hb (by omega)
 have hzs : z.cells.size = sz := by rw [← hl, hcell, Array.length_toList]
 rw [g4, Int.toNat_natCast, madeCells_cat hcell hzs g7] at hr
 simp only [execOp, hs.eval hx rfl, hs.eval hy rfl, Sem.run_bind, hr, Result.andThen_ok]
 rfl
theorem At.fin1C {fn : Func} {R : Ending → World → Prop} {t1 tt b k : Nat} {v : Value} {t' : TypeId} {cs : List Value} (hr : fn.results = #[.tmp t1, .cell tt ty]) (h1 : look l t1 = some (true, v)) (ht : look l tt = some (true, .pointer (some ⟨b, 0, none⟩))) (hp : blk b t' cs ∈ H) (hs : aggN P ty = some k) (hk : cs.length = k)
  (h : ∀ w, Cls H S w → R (.returned (.tuple #[v, .agg cs.toArray])) w) : At n (bodyPost P fn R) .ret l (Cls H S) :=
 ⟨fun a w hs' hc => ⟨hs'.df, .tuple #[v, .agg cs.toArray], by
  have h0 := hs'.at_ t1 true _ h1
  have h1 := hs'.at_ tt true _ ht
  have h2 := run_loadVar_agg (P := P) (t := ty) (vs := cs) (a := ⟨b, 0, none⟩) (w := w) (by rw [hk]; exact hs) (fun j v hj => by rw [add_mid, Nat.zero_add, blk_cell (hc.item hp)]; exact hj)
  simp [results, hr, Array.getD_eq_getD_getElem?, h0, h1, asAddr, h2], h w hc⟩⟩
end
end Go.Eng

/- The walks of ssa's End, define and block, and of searches in lists of ints. Conditions: none. -/
namespace Go.Ss
open Go.Eng Go.RowKit
def idxN (v : Int) : List Int → Nat → Int
 | [], _ => -1
 | s :: l, i => if v = s then i else idxN v l (i + 1)
theorem idxN_get {v : Int} {l : List Int} {i k : Nat} {s : Int} (h : l[i]? = some s) : idxN v (l.drop i) k = if v = s then (k : Int) else idxN v (l.drop (i + 1)) (k + 1) := by
 obtain ⟨hi, rfl⟩ := List.getElem?_eq_some_iff.1 h
 rw [List.drop_eq_getElem_cons hi, idxN]
theorem idxN_end {v : Int} {l : List Int} {i k : Nat} (h : l.length ≤ i) : idxN v (l.drop i) k = -1 := by
 rw [List.drop_eq_nil_of_le h]; rfl
theorem idxN_mem (v : Int) : ∀ (l : List Int) (k : Nat), 0 ≤ idxN v l k ↔ v ∈ l
 | [], k => by simp [idxN]
 | s :: l, k => by
  rw [idxN, List.mem_cons]
  by_cases h : v = s
  ·rw [if_pos h]
   simp [h]
  ·rw [if_neg h, idxN_mem v l (k + 1)]
   simp [h]
theorem IntsO.take {w : World} {O : Nat → Prop} {l : List Int} {q : Option Addr} (h : IntsO w O l q) (n : Nat) : IntsO w O (l.take n) q := fun hl => by
 obtain ⟨a, h1, h2, h3⟩ := h (by simp at hl; omega)
 refine ⟨a, h1, h2, fun j v hj => h3 j v ?_⟩
 have hjl := (List.getElem?_eq_some_iff.1 hj).1
 rw [ints_length, List.length_take] at hjl
 rw [show ints (l.take n) = (ints l).take n by simp [ints, List.map_take], List.getElem?_take_of_lt (by omega)] at hj
 exact hj
theorem firstE_at {α : Type} {f : α → Int} : ∀ {l : List α} {i : Nat} {x : α}, l[i]? = some x → (∀ (j : Nat) y, j < i → l[j]? = some y → f y = 0) → f x ≠ 0 → firstE f l = f x
 | [], i, x, h, _, _ => by simp at h
 | y :: l, 0, x, h, _, hx => by
  simp at h
  subst h
  rw [firstE, if_neg hx]
 | y :: l, i + 1, x, h, h0, hx => by
  rw [firstE, if_pos (h0 0 y (by omega) rfl)]
  exact firstE_at (by simpa using h) (fun j z hj hz => h0 (j + 1) z (by omega) (by simpa using hz)) hx
theorem firstE_all {α : Type} {f : α → Int} {l : List α} (h : ∀ (j : Nat) y, l[j]? = some y → f y = 0) : firstE f l = 0 := firstE_zero.2 fun x hx => by
 obtain ⟨j, hj⟩ := List.getElem?_of_mem hx
 exact h j x hj
/-! ### places of definitions -/
abbrev PL := List (Int × (Nat × Nat))
def plV (p : Nat × Nat) : Value := .agg #[.int .i64 (p.1 : Int), .int .i64 (p.2 : Int)]
def plM (l : PL) : MI := l.map fun p => (p.1, plV p.2)
def plget : PL → Int → Option (Nat × Nat)
 | [], _ => none
 | p :: r, k => if p.1 = k then some p.2 else plget r k
theorem iget_plM (l : PL) (k : Int) : iget (plM l) k = (plget l k).map plV := by
 induction l with
 | nil => rfl
 | cons p r ih =>
  show (if p.1 = k then some (plV p.2) else iget (plM r) k) = _
  rw [plget]
  split
  ·rfl
  ·exact ih
theorem plget_none {l : PL} {k : Int} : plget l k = none ↔ ¬ k ∈ l.map Prod.fst := by
 induction l with
 | nil => simp [plget]
 | cons p r ih =>
  rw [plget]
  by_cases h : p.1 = k
  ·simp [h]
  ·rw [if_neg h, ih]
   have : ¬ k = p.1 := fun e => h e.symm
   simp [this]
theorem plget_mem {l : PL} {k : Int} {x : Nat × Nat} (h : plget l k = some x) : (k, x) ∈ l := by
 induction l with
 | nil => simp [plget] at h
 | cons p r ih =>
  rw [plget] at h
  by_cases e : p.1 = k
  ·rw [if_pos e] at h
   obtain rfl := Option.some.inj h
   subst e
   exact .head _
  ·rw [if_neg e] at h
   exact .tail _ (ih h)
theorem plget_of {l : PL} (hn : (l.map Prod.fst).Nodup) {k : Int} {x : Nat × Nat} (h : (k, x) ∈ l) : plget l k = some x := by
 induction l with
 | nil => cases h
 | cons p r ih =>
  rw [List.map_cons, List.nodup_cons] at hn
  rw [plget]
  rcases List.mem_cons.1 h with rfl | h
  ·rw [if_pos rfl]
  ·have hk := List.mem_map_of_mem (f := Prod.fst) h
   rw [if_neg (fun e => hn.1 (by rw [e]; exact hk))]
   exact ih hn.2 h
theorem iput_plM {l : PL} {k : Int} {x : Nat × Nat} (h : ¬ k ∈ l.map Prod.fst) : iput (plM l) k (plV x) = plM (l ++ [(k, x)]) := by
 rw [iput_new (by rw [iget_plM, plget_none.2 h]; rfl)]
 simp [plM]
def plI (k : Nat) : List In → Nat → PL
 | [], _ => []
 | i :: r, j => (i.to_, (k, j + 1)) :: plI k r (j + 1)
theorem plI_snoc (k : Nat) : ∀ (l : List In) (i : In) (j : Nat), plI k (l ++ [i]) j = plI k l j ++ [(i.to_, (k, j + l.length + 1))]
 | [], i, j => by simp [plI]
 | x :: l, i, j => by
  rw [List.cons_append, plI, plI_snoc k l i (j + 1), plI, List.cons_append, List.length_cons]
  rw [show j + 1 + l.length + 1 = j + (l.length + 1) + 1 by omega]
theorem plI_keys (k : Nat) : ∀ (l : List In) (j : Nat), (plI k l j).map Prod.fst = l.map In.to_
 | [], _ => rfl
 | i :: l, j => by rw [plI, List.map_cons, List.map_cons, plI_keys k l]
theorem plI_mem {k : Nat} {v : Int} {b a : Nat} : ∀ {l : List In} {j : Nat}, (v, (b, a)) ∈ plI k l j ↔ b = k ∧ ∃ m i, a = j + m + 1 ∧ l[m]? = some i ∧ i.to_ = v
 | [], j => by simp [plI]
 | x :: l, j => by
  rw [plI, List.mem_cons, plI_mem]
  constructor
  ·rintro (h | ⟨h1, m, i, h2, h3, h4⟩)
   ·simp only [Prod.mk.injEq] at h
    exact ⟨h.2.1, 0, x, by omega, rfl, h.1.symm⟩
   ·exact ⟨h1, m + 1, i, by omega, by simpa using h3, h4⟩
  ·rintro ⟨h1, m, i, h2, h3, h4⟩
   cases m with
   | zero =>
    simp at h3
    subst h3
    left
    rw [h1, h2, h4]
   | succ m => exact .inr ⟨h1, m, i, by omega, by simpa using h3, h4⟩
def plB (k : Nat) (b : Bk) : PL := b.params.map (fun v => (v, (k, 0))) ++ plI k b.ins 0
theorem plB_keys (k : Nat) (b : Bk) : (plB k b).map Prod.fst = defsB b := by
 unfold plB defsB
 rw [List.map_append, plI_keys, List.map_map]
 congr 1
 exact List.map_id _
def plF : List Bk → Nat → PL
 | [], _ => []
 | b :: r, k => plB k b ++ plF r (k + 1)
theorem plF_snoc : ∀ (l : List Bk) (b : Bk) (k : Nat), plF (l ++ [b]) k = plF l k ++ plB (k + l.length) b
 | [], b, k => by simp [plF]
 | x :: l, b, k => by
  rw [List.cons_append, plF, plF_snoc l b (k + 1), plF, List.append_assoc, List.length_cons, show k + 1 + l.length = k + (l.length + 1) by omega]
theorem plF_keys : ∀ (l : List Bk) (k : Nat), (plF l k).map Prod.fst = defsF l
 | [], _ => rfl
 | b :: l, k => by rw [plF, List.map_append, plB_keys, plF_keys l]; rfl
theorem plF_mem {v : Int} {b a : Nat} : ∀ {l : List Bk} {k : Nat}, (v, (b, a)) ∈ plF l k ↔ ∃ m, b = k + m ∧ DefAt l v m a
 | [], k => by
  simp only [plF]
  constructor
  ·intro h; cases h
  ·rintro ⟨m, _, x, hx, _⟩
   simp at hx
 | x :: l, k => by
  rw [plF, List.mem_append, plF_mem]
  unfold plB
  rw [List.mem_append, plI_mem]
  constructor
  ·rintro ((h | ⟨h1, m, i, h2, h3, h4⟩) | ⟨m, h1, h2⟩)
   ·obtain ⟨v', hv', e⟩ := List.mem_map.1 h
    simp only [Prod.mk.injEq] at e
    obtain ⟨rfl, rfl, rfl⟩ := e
    exact ⟨0, by omega, x, rfl, .inl ⟨rfl, hv'⟩⟩
   ·exact ⟨0, by omega, x, rfl, .inr ⟨m, i, by omega, h3, h4⟩⟩
   ·obtain ⟨y, hy, h3⟩ := h2
    exact ⟨m + 1, by omega, y, by simpa using hy, h3⟩
  ·rintro ⟨m, h1, y, hy, h3⟩
   cases m with
   | zero =>
    simp at hy
    subst hy
    left
    rcases h3 with ⟨rfl, h4⟩ | ⟨j, i, h4, h5, h6⟩
    ·left
     exact List.mem_map.2 ⟨v, h4, by rw [h1]; rfl⟩
    ·exact .inr ⟨by omega, j, i, by omega, h5, h6⟩
   | succ m => exact .inr ⟨m, by omega, y, by simpa using hy, h3⟩
end Go.Ss
namespace Go.Proofs.Ytehelljmaiophaa.ss
open Go.RowKit Go.Eng Go.Ss
set_option maxRecDepth 100000
theorem HasInt_calls (q : Option Addr) (cap : Nat) (l : List Int) (s : Int) (w : World) (hlen : l.length ≤ 9223372036854775807) (h : IntsO w (low w) l q) :
  Calls Try.prog 32 [.slice q l.length cap, .int .i64 s].toArray w fun e w' => e = .returned (.bool (decide (s ∈ l))) ∧ Ext w w' := by
 refine enter Try.func32 rfl Try.ntmps32 rfl (Cls.start w) (zen ?_)
 refine zgs ?_
 refine W.loop (G := Nat) (fun i => i ≤ l.length ∧ (s ∈ l ↔ s ∈ l.drop i)) (fun i => l.length - i)
  (fun i => [(1, true, .int .i64 s), (7, true, .slice q l.length cap), (8, true, .int .i64 (l.length : Int)), (9, true, .int .i64 (i : Int))])
  (fun i => Cls [] [w]) 0 ⟨by omega, by simp⟩ (by exact Sub.au) (fun w' hw' => hw') ?_
 rintro i ⟨hi, hrest⟩
 refine zgs ?_
 refine W.cnd ?_ ?_ <;> intro hlt <;> try exact zwx hlt
 ·obtain ⟨a, u, rfl, hab, hu, hcell⟩ := h.get (show i < l.length by omega)
  have hab : a.block < w.heap.size := hab
  have hil : i < l.length := by omega
  have hui : l[i] = u := by rw [List.getElem?_eq_getElem hil] at hu; exact Option.some.inj hu
  rw [List.drop_eq_getElem_cons hil, hui, List.mem_cons] at hrest
  refine zgs ?_
  refine W.cnd ?_ ?_ <;> intro heq <;> try exact zwx heq
  ·refine zgs ?_
   (refine zfn ?_; intro w' hw')
   exact ⟨by rw [decide_eq_true (hrest.2 (.inl heq.symm))], by (exact hw'.fr)⟩
  ·refine zgs ?_
   exact At.again (i + 1) ⟨by omega, by rw [hrest]; exact or_iff_right (fun e => heq e.symm)⟩ (by omega) (by exact Sub.au) (fun w' hw' => hw')
 ·obtain rfl : i = l.length := by omega
  rw [List.drop_length] at hrest
  have hno : ¬ s ∈ l := fun h => by have := hrest.1 h; cases this
  refine zgs ?_
  (refine zfn ?_; intro w' hw')
  exact ⟨by rw [decide_eq_false hno], by (exact hw'.fr)⟩
theorem IIndex_calls (q : Option Addr) (cap : Nat) (l : List Int) (s : Int) (w : World) (hlen : l.length ≤ 9223372036854775807) (h : IntsO w (low w) l q) :
  Calls Try.prog 127 #[.slice q l.length cap, .int .i64 s] w fun e w' => e = .returned (.int .i64 (idxN s l 0)) ∧ Ext w w' := by
 refine enter Try.func127 rfl Try.ntmps127 rfl (Cls.start w) (zen ?_)
 refine zgs ?_
 refine W.loop (G := Nat) (fun i => i ≤ l.length ∧ idxN s (l.drop i) i = idxN s l 0) (fun i => l.length - i)
  (fun i => [(8, true, .int .i64 (i : Int)), (7, true, .int .i64 (l.length : Int)), (0, true, .slice q l.length cap), (1, true, .int .i64 s)])
  (fun i => Cls [] [w]) 0 ⟨by omega, rfl⟩ (by exact Sub.au) (fun w' hw' => hw') ?_
 rintro i ⟨hi, hrest⟩
 refine zgs ?_
 refine W.cnd ?_ ?_ <;> intro hlt <;> try exact zwx hlt
 ·obtain ⟨a, u, rfl, hab, hu, hcell⟩ := h.get (show i < l.length by omega)
  have hab : a.block < w.heap.size := hab
  rw [idxN_get hu] at hrest
  refine zgs ?_
  refine W.cnd ?_ ?_ <;> intro heq <;> try exact zwx heq
  ·refine zgs ?_
   (refine zfn ?_; intro w' hw')
   rw [if_pos (by simpa using heq)] at hrest
   exact ⟨by rw [hrest], by (exact hw'.fr)⟩
  ·refine zgs ?_
   rw [if_neg (by simpa using heq)] at hrest
   exact At.again (i + 1) ⟨by omega, hrest⟩ (by omega) (by exact Sub.au) (fun w' hw' => hw')
 ·refine zgs ?_
  (refine zfn ?_; intro w' hw')
  rw [idxN_end (by omega)] at hrest
  exact ⟨by rw [hrest], by (exact hw'.fr)⟩
theorem IContains_calls (q : Option Addr) (cap : Nat) (l : List Int) (s : Int) (w : World) (hlen : l.length ≤ 9223372036854775807) (h : IntsO w (low w) l q) :
  Calls Try.prog 91 #[.slice q l.length cap, .int .i64 s] w fun e w' => e = .returned (.bool (decide (s ∈ l))) ∧ Ext w w' := by
 refine enter Try.func91 rfl Try.ntmps91 rfl (Cls.start w) (zen ?_)
 refine zgs ?_
 (((first | apply OL.op | apply QL.op); exact Guard.au; rfl; rfl); (exact Pev.call rfl (by exact Args.au) (fun _ w2 hw2 => (IIndex_calls q cap l s w2 hlen (h.at hw2 (by exact mau) (fun k hk => by exact NotOwned.au))).mono (fun e w3 h => ⟨h.1, hw2.ext h.2⟩))))
 refine zgs ?_
 (refine zfn ?_; intro w' hw')
 exact ⟨by simp only [idxN_mem], by (exact hw'.fr)⟩
theorem End_calls (es : List (Bk × BkY)) (q : Option Addr) (cap : Nat) (nm : Int) (t : Tm) (y : TmY) (w : World) (he : Arr bkR w (low w) es q) (hlen : es.length ≤ 140737488355328) (ht : TmOk w (low w) t y) :
  Calls Try.prog 120 [.agg #[.int .i64 nm, .slice q es.length cap], .agg (tmC t y).toArray].toArray w fun e w' => e = .returned (.int .i64 (termE (es.map Prod.fst) t)) ∧ Ext w w' := by
 obtain ⟨bs, hbs⟩ : ∃ bs, es.map Prod.fst = bs := ⟨_, rfl⟩
 have hbl : bs.length = es.length := by rw [← hbs, List.length_map]
 obtain ⟨ts, hts, harr⟩ := ht.t
 have htl := ht.tl
 have hcl := ht.cl
 have htl2 : t.to_.length = ts.length := by rw [← hts, List.length_map]
 rw [hbs]
 refine enter Try.func120 rfl Try.ntmps120 rfl (Cls.start w) (zen ?_)
 simp only [tmC]
 apply W.sr
 apply OL.box; rfl; rfl; exact CellsL.agg; (intro bk hbk; simp only [AllLe, and_true] at hbk)
 apply OL.box; rfl; rfl; exact CellsL.agg; (intro bk hbk; simp only [AllLe, and_true] at hbk)
 refine zgs ?_
 rename_i bF hbF
 (((first | apply OL.op | apply QL.op); exact Guard.au; rfl; rfl); (exact Pev.call (v := .bool (shapeT t)) rfl (by exact Args.au) (fun _ w2 hw2 => (shape_calls t y w2 hcl htl).mono (fun e w3 h => ⟨h.1, hw2.ext h.2⟩))))
 refine zgs ?_
 refine W.cnd ?_ ?_ <;> intro h1 <;> try exact zwx h1
 ·refine zgs ?_
  (refine zfn ?_; intro w' hw')
  unfold termE
  rw [if_pos h1]
  exact ⟨rfl, by (exact hw'.fr)⟩
 have h1' : shapeT t = true := by simpa using h1
 refine zgs ?_
 refine W.cnd ?_ ?_ <;> intro h2 <;> try exact zwx h2
 ·refine zgs ?_
  (refine zfn ?_; intro w' hw')
  unfold termE
  rw [if_neg (by simp [h1']), if_pos (by omega)]
  exact ⟨rfl, by (exact hw'.fr)⟩
 refine zgs ?_
 (((first | apply OL.op | apply QL.op); exact Guard.au; rfl; rfl); (exact Pev.call (v := .bool (decide (1 ≤ t.n) && decide (t.n ≤ 6))) rfl (by exact Args.au) (fun _ w2 hw2 => (within_calls t.n 1 6 w2).mono (fun e w3 h => ⟨h.1, hw2.ext h.2⟩))))
 refine zgs ?_
 refine W.cond rfl (fun h3 => ?_) (fun h3 => ?_)
 ·refine zgs ?_
  (refine zfn ?_; intro w' hw')
  unfold termE
  rw [if_neg (by simp [h1']), if_neg (by omega), if_pos (by simp at h3; omega)]
  exact ⟨rfl, by (exact hw'.fr)⟩
 have hT : termE bs t = if ¬ firstR (caseE t.cases) t.cases.length = 0 then firstR (caseE t.cases) t.cases.length else firstE (edgeE bs) t.to_ := by
  unfold termE
  rw [if_neg (by simp [h1']), if_neg (by omega), if_neg (by simp at h3; omega)]
 rw [hT]
 refine zgs ?_
 revert bk
 intro bT hbT
 refine W.loop (G := Nat) (fun k => k ≤ t.cases.length ∧ firstR (caseE t.cases) k = 0) (fun k => t.cases.length - k)
  (fun k => [(2, true, .pointer (some ⟨bF, 0, none⟩)), (3, true, .pointer (some ⟨bT, 0, none⟩)), (29, true, .slice y.c.1 t.cases.length y.c.2), (30, true, .int .i64 (t.cases.length : Int)), (31, true, .int .i64 (k : Int))])
  (fun _ => Cls [blk bT 39 [.int .i64 t.kind, .int .i64 t.arg, .int .i64 t.n, .slice y.c.1 t.cases.length y.c.2, .slice y.t.1 t.to_.length y.t.2], blk bF 24 [.int .i64 nm, .slice q es.length cap]] [w]) 0 ⟨by omega, rfl⟩ (by exact Sub.au) (fun w' hw' => hw') ?_
 rintro k ⟨hk, hk0⟩
 refine zgs ?_
 refine W.cnd ?_ ?_ <;> intro hlt <;> try exact zwx hlt
 ·have hkl : k < t.cases.length := by omega
  obtain ⟨a, v, hqa, hab, hv, hcell⟩ := ht.c.get hkl
  have hab : a.block < w.heap.size := hab
  have hcc := ht.cc
  have hE : caseE t.cases k = if wordB v = false then 4 else if v ∈ t.cases.take k then 7 else 0 := by
   unfold caseE
   rw [List.getD_eq_getElem?_getD, hv, Option.getD_some]
  have herr : caseE t.cases k ≠ 0 → (if ¬ firstR (caseE t.cases) t.cases.length = 0 then firstR (caseE t.cases) t.cases.length else firstE (edgeE bs) t.to_) = caseE t.cases k := fun h => by
   have h5 := firstR_at hkl hk0 h
   rw [h5, if_pos h]
  have hIC : ∀ w2, Cls [blk bT 39 [.int .i64 t.kind, .int .i64 t.arg, .int .i64 t.n, .slice y.c.1 t.cases.length y.c.2, .slice y.t.1 t.to_.length y.t.2], blk bF 24 [.int .i64 nm, .slice q es.length cap]] [w] w2 → Calls Try.prog 91 #[.slice (some a) k y.c.2, .int .i64 v] w2 fun e w' => e = .returned (.bool (decide (v ∈ t.cases.take k))) ∧ Ext w2 w' := fun w2 hw2 => by
   have h6 := ht.c.at hw2 (by exact mau) (fun k hk => by exact NotOwned.au)
   have h7 := IContains_calls y.c.1 y.c.2 (t.cases.take k) v w2 (by rw [List.length_take]; omega) (IntsO.take h6 k)
   rw [List.length_take, Nat.min_eq_left (by omega), hqa] at h7
   exact h7
  rw [hqa]
  rw [hqa] at hIC
  refine zgs ?_
  (((first | apply OL.op | apply QL.op); exact Guard.au; rfl; rfl); (exact Pev.call (v := .bool (wordB v)) rfl (by exact Args.au) (fun _ w2 hw2 => (isWord_calls v w2).mono (fun e w3 h => ⟨h.1, hw2.ext h.2⟩))))
  refine zgs ?_
  refine W.cnd ?_ ?_ <;> intro h4 <;> try exact zwx h4
  ·have h5 : caseE t.cases k = 4 := by rw [hE, if_pos (by simpa using h4)]
   rw [herr (by rw [h5]; decide), h5]
   refine zgs ?_
   (refine zfn ?_; intro w' hw')
   exact ⟨rfl, by (exact hw'.fr)⟩
  have h4' : ¬ wordB v = false := by simpa using h4
  refine zgs ?_
  (((first | apply OL.op | apply QL.op); exact Guard.au; rfl; rfl); (exact Pev.call (v := .bool (decide (v ∈ t.cases.take k))) rfl (by exact Args.au) (fun _ w2 hw2 => (hIC w2 hw2).mono (fun e w3 h => ⟨h.1, hw2.ext h.2⟩))))
  refine zgs ?_
  refine W.cnd ?_ ?_ <;> intro h5 <;> try exact zwx h5
  ·have h6 : caseE t.cases k = 7 := by rw [hE, if_neg h4', if_pos (by simpa using h5)]
   rw [herr (by rw [h6]; decide), h6]
   refine zgs ?_
   (refine zfn ?_; intro w' hw')
   exact ⟨rfl, by (exact hw'.fr)⟩
  ·have h6 : caseE t.cases k = 0 := by rw [hE, if_neg h4', if_neg (by simpa using h5)]
   refine zgs ?_
   exact At.again (k + 1) ⟨by omega, firstR_next hk0 h6⟩ (by omega) (by exact Sub.au) (fun w' hw' => hw')
 obtain rfl : k = t.cases.length := by omega
 rw [if_neg (fun h => h hk0), htl2]
 refine zgs ?_
 refine W.loop (G := Nat) (fun j => j ≤ ts.length ∧ ∀ (m : Nat) e, m < j → t.to_[m]? = some e → edgeE bs e = 0) (fun j => ts.length - j)
  (fun j => [(2, true, .pointer (some ⟨bF, 0, none⟩)), (49, true, .slice y.t.1 ts.length y.t.2), (50, true, .int .i64 (ts.length : Int)), (51, true, .int .i64 (j : Int))])
  (fun _ => Cls [blk bT 39 [.int .i64 t.kind, .int .i64 t.arg, .int .i64 t.n, .slice y.c.1 t.cases.length y.c.2, .slice y.t.1 ts.length y.t.2], blk bF 24 [.int .i64 nm, .slice q es.length cap]] [w]) 0 ⟨by omega, fun m e hm => by omega⟩ (by exact Sub.au) (fun w' hw' => hw') ?_
 rintro j ⟨hj, hj0⟩
 refine zgs ?_
 refine W.cnd ?_ ?_ <;> intro hlt2 <;> try exact zwx hlt2
 ·obtain ⟨ae, u, hqt, hatb, hu, hcu, hoku⟩ := harr.get (show j < ts.length by omega)
  have hatb : ae.block < w.heap.size := hatb
  have hcu : CellsAt w (ae.add (j * 2)) [.int .i64 u.1.block, .slice u.2.1 u.1.args.length u.2.2] := hcu
  have hue : t.to_[j]? = some u.1 := by rw [← hts, List.getElem?_map, hu]; rfl
  have hul := hoku.2.1.1
  have herr : edgeE bs u.1 ≠ 0 → firstE (edgeE bs) t.to_ = edgeE bs u.1 := fun h => firstE_at hue hj0 h
  rw [hqt]
  refine zgs ?_
  apply OL.alloc; rfl; rfl; exact CellsL.agg; (intro bk hbk; simp only [AllLe, and_true] at hbk)
  refine zgs ?_
  (((first | apply OL.op | apply QL.op); exact Guard.au; rfl; rfl); (exact Pev.call (v := .bool (decide (1 ≤ u.1.block) && decide (u.1.block ≤ (es.length : Int) - 1))) rfl (by exact Args.au) (fun _ w2 hw2 => (within_calls u.1.block 1 ((es.length : Int) - 1) w2).mono (fun e w3 h => ⟨h.1, hw2.ext h.2⟩))))
  refine zgs ?_
  refine W.cond rfl (fun h4 => ?_) (fun h4 => ?_)
  ·have h5 : edgeE bs u.1 = 4 := by
    unfold edgeE
    rw [if_pos (by simp at h4; omega)]
   rw [herr (by rw [h5]; decide), h5]
   refine zgs ?_
   (refine zfn ?_; intro w' hw')
   exact ⟨rfl, by (exact hw'.fr)⟩
  have h4' : 1 ≤ u.1.block ∧ u.1.block < (es.length : Int) := by simp at h4; omega
  obtain ⟨b, hbb⟩ : ∃ b : Nat, u.1.block = (b : Int) := ⟨u.1.block.toNat, by omega⟩
  have hbe : b < es.length := by omega
  obtain ⟨a2, p2, rfl, hab2, hp2, hcell2, hok2⟩ := he.get hbe
  have hab2 : a2.block < w.heap.size := hab2
  have hcell2 : CellsAt w (a2.add (b * 7)) [.slice p2.2.p.1 p2.1.params.length p2.2.p.2, .slice p2.2.i.1 p2.1.ins.length p2.2.i.2, .int .i64 p2.1.term.kind, .int .i64 p2.1.term.arg, .int .i64 p2.1.term.n, .slice p2.2.t.c.1 p2.1.term.cases.length p2.2.t.c.2, .slice p2.2.t.t.1 p2.1.term.to_.length p2.2.t.t.2] := hcell2
  have hgd : (bs.getD u.1.block.toNat ⟨[], [], ⟨0, 0, 0, [], []⟩⟩) = p2.1 := by
   rw [hbb, Int.toNat_natCast, List.getD_eq_getElem?_getD, ← hbs, List.getElem?_map, hp2]
   rfl
  have hE2 : edgeE bs u.1 = if u.1.args.length ≠ p2.1.params.length then 3 else 0 := by
   unfold edgeE
   rw [if_neg (by omega), hgd]
  rw [hbb]
  apply W.seq
  apply W.regd0; decide +kernel; kernel_rfl; decide +kernel; exact fun w hw => hw.drew
  refine zgs ?_
  refine W.cnd ?_ ?_ <;> intro h6 <;> try exact zwx h6
  ·have h7 : edgeE bs u.1 = 3 := by rw [hE2, if_pos (by omega)]
   rw [herr (by rw [h7]; decide), h7]
   refine zgs ?_
   (refine zfn ?_; intro w' hw')
   exact ⟨rfl, by (exact hw'.fr)⟩
  ·have h7 : edgeE bs u.1 = 0 := by rw [hE2, if_neg (by omega)]
   refine zgs ?_
   refine At.again (j + 1) ⟨by omega, fun m e hm he2 => ?_⟩ (by omega) (by exact Sub.au) (fun w' hw' => hw'.thin (by exact Thin.au))
   by_cases em : m = j
   ·subst em
    rw [hue] at he2
    obtain rfl := Option.some.inj he2
    exact h7
   ·exact hj0 m e (by omega) he2
 ·have h0 : firstE (edgeE bs) t.to_ = 0 := firstE_all fun m e he2 => hj0 m e (by have := (List.getElem?_eq_some_iff.1 he2).1; omega) he2
  rw [h0]
  refine zgs ?_
  (refine zfn ?_; intro w' hw')
  exact ⟨rfl, by (exact hw'.fr)⟩
end Go.Proofs.Ytehelljmaiophaa.ss

/- The walks of ssa's define and block. Conditions: none. -/
namespace Go.Ss
open Go.Eng Go.RowKit
def plDef (mp : PL) (v : Int) (x : Nat × Nat) : PL := if defE v (mp.map Prod.fst) = 0 then mp ++ [(v, x)] else mp
structure SG where
 mp : PL
theorem TmOk.at {w w' : World} {x : Tm} {y : TmY} {H : List Eng.Item} {S : List World} (h : TmOk w (low w) x y) (hw : Cls H S w') (hs : w ∈ S) (hno : ∀ k, k < w.heap.size → NotOwned H k) : TmOk w' (low w') x y :=
 TmOk.mono (hw.up hs) (TmOk.stab (hw.same hs hno) h)
theorem paramE_at {seen ps : List Int} {j : Nat} {v : Int} (h : ps[j]? = some v) : paramE seen ps j = defE v (seen ++ ps.take j) := by
 unfold paramE
 rw [List.getD_eq_getElem?_getD, h]
 rfl
theorem insE_at {seen : List Int} {is : List In} {j : Nat} {i : In} (h : is[j]? = some i) : insE seen is j = if defE i.to_ (seen ++ (is.take j).map In.to_) ≠ 0 then defE i.to_ (seen ++ (is.take j).map In.to_) else formE i := by
 unfold insE
 rw [List.getD_eq_getElem?_getD, h]
 rfl
end Go.Ss
namespace Go.Eng
open Go.Ss Go.RowKit
theorem Cls.back22 {H : List Item} {S : List World} {w : World} {i j k m : Item} (h : Cls (i :: j :: k :: m :: H) S w) : Cls (k :: m :: i :: j :: H) S w := h.perm (List.Perm.append_right H (List.perm_append_comm (l₁ := [i, j]) (l₂ := [k, m])))
section
variable {P : Program} {n : Nat} {l : Env} {H : List Item} {S : List World} {c : Bool} {d : Option Nat} {ty : TypeId} {pos : String} {af : Array Edge} {g : Option (Nat × Bool)} {t : TypeId} {x y : Operand} {cx cy : Bool}
theorem Pev.plookup2 {k e : TypeId} {b : Nat} {m : PL} {s : Int} (hx : evl l x = some (cx, .map (some b))) (hcx : c = true → cx = true) (hy : evl l y = some (cy, .int .i64 s)) (hcy : c = true → cy = true) (ht : mapTi P t = some (k, e)) (hz : zeroV P e = some (.agg #[.int .i64 0, .int .i64 0])) (hm : mapI b (plM m) ∈ H) :
  Pev P n l (Cls H S) ⟨d, .lookup t x y true, ty, pos, af, g⟩ c (.tuple #[.agg #[.int .i64 (((plget m s).getD (0, 0)).1 : Int), .int .i64 (((plget m s).getD (0, 0)).2 : Int)], .bool (plget m s).isSome]) := by
 have h1 := Pev.ilookup2 (P := P) (n := n) (C := Cls H S) (d := d) (ty := ty) (pos := pos) (af := af) (g := g) hx hcx hy hcy ht hz (fun w hw => hw.item hm)
 rw [iget_plM] at h1
 cases hp : plget m s with
 | none => rw [hp] at h1; exact h1
 | some p => rw [hp] at h1; exact h1
end
end Go.Eng
namespace Go.Proofs.Ytehelljmaiophaa.ss
open Go.RowKit Go.Eng Go.Ss
set_option maxRecDepth 100000
theorem define_calls (bc bm : Nat) (nm : Int) (q : Option Addr) (len cap : Nat) (mp : PL) (v : Int) (x : Nat × Nat) (H : List Eng.Item) (S : List World) (w : World)
  (hc : Cls (blk bc 124 [.int .i64 nm, .slice q len cap, .map (some bm)] :: mapI bm (plM mp) :: H) S w) :
  Calls Try.prog 118 [.pointer (some ⟨bc, 0, none⟩), .int .i64 v, .agg #[.int .i64 (x.1 : Int), .int .i64 (x.2 : Int)]].toArray w fun e w' => e = .returned (.int .i64 (defE v (mp.map Prod.fst))) ∧ Cls (blk bc 124 [.int .i64 nm, .slice q len cap, .map (some bm)] :: mapI bm (plM (plDef mp v x)) :: H) S w' := by
 refine enter Try.func118 rfl Try.ntmps118 rfl hc (zen ?_)
 apply W.sr
 apply OL.box; rfl; rfl; exact CellsL.agg; intro bk hbk
 refine zgs ?_
 (((first | apply OL.op | apply QL.op); exact Guard.au; rfl; rfl); (exact Pev.call (v := .bool (decide (0 ≤ v) && decide (v ≤ 4095))) rfl (by exact Args.au) (fun _ w2 hw2 => (within_calls v 0 4095 w2).mono (fun e w3 h => ⟨h.1, hw2.ext h.2⟩))))
 refine zgs ?_
 have hthin : ∀ (mp : PL) w', Cls (blk bk 170 [.int .i64 (x.1 : Int), .int .i64 (x.2 : Int)] :: blk bc 124 [.int .i64 nm, .slice q len cap, .map (some bm)] :: mapI bm (plM mp) :: H) S w' → Cls (blk bc 124 [.int .i64 nm, .slice q len cap, .map (some bm)] :: mapI bm (plM mp) :: H) S w' := fun mp w' hw' => hw'.thin (.any (fun k hk => by rw [show k = bk from hk]; exact hbk) Thin.same)
 refine W.cond rfl (fun h1 => ?_) (fun h1 => ?_)
 ·have hd : defE v (mp.map Prod.fst) = 4 := by
   unfold defE
   rw [if_pos (by simp at h1; omega)]
  refine zgs ?_
  (refine zfn ?_; intro w' hw')
  rw [hd]
  refine ⟨rfl, ?_⟩
  unfold plDef
  rw [if_neg (by rw [hd]; decide)]
  exact hthin mp w' hw'
 have hd : defE v (mp.map Prod.fst) = if v ∈ mp.map Prod.fst then 7 else 0 := by
  unfold defE
  rw [if_neg (by simp at h1; omega)]
 refine zgs ?_
 (((first | (with_reducible apply OL.op) | (with_reducible apply QL.op)); (exact Guard.au); rfl; rfl); (refine Pev.plookup2 (m := mp) rfl g_c rfl g_c rfl rfl (by exact mau)))
 generalize hpg : (plget mp v).getD (0, 0) = pg
 obtain ⟨p1, p2⟩ := pg
 simp only
 refine zgs ?_
 apply OL.alloc; rfl; rfl; exact CellsL.agg; intro bk hbk
 refine zgs ?_
 refine W.cnd ?_ ?_ <;> intro h2 <;> try exact zwx h2
 ·have hin : v ∈ mp.map Prod.fst := by
   apply Classical.byContradiction
   intro hno
   rw [plget_none.2 hno] at h2
   cases h2
  refine zgs ?_
  (refine zfn ?_; intro w' hw')
  rw [hd, if_pos hin]
  refine ⟨rfl, ?_⟩
  unfold plDef
  rw [hd, if_pos hin, if_neg (by decide)]
  refine hthin mp w' (hw'.thin (.any (fun k hk => ?_) Thin.same))
  rw [show k = bk from hk]
  assumption
 ·have hno : ¬ v ∈ mp.map Prod.fst := by
   refine plget_none.1 ?_
   cases hp : plget mp v with
   | none => rfl
   | some z => rw [hp] at h2; simp at h2
  refine zgs ?_
  apply W.regq; apply Split.s rfl; apply Split.s rfl; apply Split.s rfl; apply Split.s rfl; apply Split.s rfl; apply Split.s rfl; exact Split.z rfl; kernel_rfl; decide +kernel; exact fun w hw => hw.drew
  refine zgs ?_
  rw [show iput (plM mp) v (.agg #[.int .i64 (x.1 : Int), .int .i64 (x.2 : Int)]) = plM (mp ++ [(v, x)]) from iput_plM hno]
  skip
  (refine zfn ?_; intro w' hw')
  rw [hd, if_neg hno]
  refine ⟨rfl, ?_⟩
  unfold plDef
  rw [hd, if_neg hno, if_pos rfl]
  refine hthin _ w' (hw'.thin (.any (fun k hk => ?_) Thin.same))
  rw [show k = bk from hk]
  assumption
theorem block_calls (s0 : World) (bc bm : Nat) (nm : Int) (es : List (Bk × BkY)) (q : Option Addr) (cap : Nat) (he : Arr bkR s0 (low s0) es q) (hlen : es.length ≤ 140737488355328) (k : Nat) (hk : k < es.length) (H : List Eng.Item) (w : World) (hno : ∀ k, k < s0.heap.size → NotOwned H k) (hbc : s0.heap.size ≤ bc) (hbm : s0.heap.size ≤ bm)
  (hc : Cls (blk bc 124 [.int .i64 nm, .slice q es.length cap, .map (some bm)] :: mapI bm (plM (plF ((es.map Prod.fst).take k) 0)) :: H) [s0] w) :
  Calls Try.prog 79 [.pointer (some ⟨bc, 0, none⟩), .int .i64 (k : Int)].toArray w fun e w' => ∃ mp : PL, e = .returned (.int .i64 (blockE (es.map Prod.fst) (defsF ((es.map Prod.fst).take k)) ((es.map Prod.fst).getD k noB))) ∧ (blockE (es.map Prod.fst) (defsF ((es.map Prod.fst).take k)) ((es.map Prod.fst).getD k noB) = 0 → mp = plF ((es.map Prod.fst).take (k + 1)) 0) ∧ Cls (blk bc 124 [.int .i64 nm, .slice q es.length cap, .map (some bm)] :: mapI bm (plM mp) :: H) [s0] w' := by
 obtain ⟨bs, hbs⟩ : ∃ bs, es.map Prod.fst = bs := ⟨_, rfl⟩
 have hbl : bs.length = es.length := by rw [← hbs, List.length_map]
 rw [hbs] at hc ⊢
 obtain ⟨a, p, hqa, hab, hp, hcell, hok⟩ := he.get hk
 have hab : a.block < s0.heap.size := hab
 have hcell : CellsAt s0 (a.add (k * 7)) [.slice p.2.p.1 p.1.params.length p.2.p.2, .slice p.2.i.1 p.1.ins.length p.2.i.2, .int .i64 p.1.term.kind, .int .i64 p.1.term.arg, .int .i64 p.1.term.n, .slice p.2.t.c.1 p.1.term.cases.length p.2.t.c.2, .slice p.2.t.t.1 p.1.term.to_.length p.2.t.t.2] := hcell
 have hbk : bs[k]? = some p.1 := by rw [← hbs, List.getElem?_map, hp]; rfl
 have hgd : bs.getD k noB = p.1 := by rw [List.getD_eq_getElem?_getD, hbk]; rfl
 have hpl := hok.pl
 have hil := hok.il
 have hkl : (bs.take k).length = k := by rw [List.length_take]; omega
 have hnext : plF (bs.take (k + 1)) 0 = plF (bs.take k) 0 ++ plB k p.1 := by
  rw [List.take_add_one, hbk, Option.toList_some, plF_snoc, hkl, Nat.zero_add]
 have hkeys := plF_keys (bs.take k) 0
 rw [hgd, hnext]
 generalize defsF (bs.take k) = seen at *
 generalize plF (bs.take k) 0 = mp0 at *
 obtain ⟨pi, hpi, hiarr⟩ := hok.i
 have hpil : p.1.ins.length = pi.length := by rw [← hpi, List.length_map]
 subst hqa
 refine enter Try.func79 rfl Try.ntmps79 rfl hc (zen ?_)
 refine zgs ?_
 apply OL.alloc; rfl; rfl; exact CellsL.agg; (intro bk hbk; simp only [AllLe, and_true] at hbk)
 refine zgs ?_
 revert bk
 intro bB hbB
 have hbB1 : s0.heap.size ≤ bB := by first | exact hbB | exact hbB.1
 refine W.loop (G := Nat) (fun j => j ≤ p.1.params.length ∧ firstR (paramE seen p.1.params) j = 0) (fun j => p.1.params.length - j)
  (fun j => [(0, true, .pointer (some ⟨bc, 0, none⟩)), (1, true, .int .i64 (k : Int)), (5, true, .pointer (some ⟨bB, 0, none⟩)), (22, true, .slice p.2.p.1 p.1.params.length p.2.p.2), (23, true, .int .i64 (p.1.params.length : Int)), (24, true, .int .i64 (j : Int))])
  (fun j => Cls (blk bB 41 [.slice p.2.p.1 p.1.params.length p.2.p.2, .slice p.2.i.1 p.1.ins.length p.2.i.2, .int .i64 p.1.term.kind, .int .i64 p.1.term.arg, .int .i64 p.1.term.n, .slice p.2.t.c.1 p.1.term.cases.length p.2.t.c.2, .slice p.2.t.t.1 p.1.term.to_.length p.2.t.t.2] :: blk bc 124 [.int .i64 nm, .slice (some a) es.length cap, .map (some bm)] :: mapI bm (plM (mp0 ++ (p.1.params.take j).map fun v => (v, (k, 0)))) :: H) [s0]) 0 ⟨by omega, rfl⟩ (by exact Sub.au) (fun w' hw' => by simpa using hw') ?_
 rintro j ⟨hj, hj0⟩
 refine zgs ?_
 refine W.cnd ?_ ?_ <;> intro hlt <;> try exact zwx hlt
 ·have hjl : j < p.1.params.length := by omega
  obtain ⟨av, v, hqv, habv, hv, hcv⟩ := hok.p.get hjl
  have habv : av.block < s0.heap.size := habv
  have hpe := paramE_at (seen := seen) hv
  have hky : (mp0 ++ (p.1.params.take j).map fun v => (v, (k, 0))).map Prod.fst = seen ++ p.1.params.take j := by
   rw [List.map_append, hkeys, List.map_map]
   congr 1
   exact List.map_id _
  have htk : p.1.params.take (j + 1) = p.1.params.take j ++ [v] := by rw [List.take_add_one, hv]; rfl
  rw [hqv]
  refine zgs ?_
  refine OL.callE (α := Unit) (fun _ => .int .i64 (paramE seen p.1.params j)) (fun _ => True) (fun _ => Cls (blk bB 41 [.slice (some av) p.1.params.length p.2.p.2, .slice p.2.i.1 p.1.ins.length p.2.i.2, .int .i64 p.1.term.kind, .int .i64 p.1.term.arg, .int .i64 p.1.term.n, .slice p.2.t.c.1 p.1.term.cases.length p.2.t.c.2, .slice p.2.t.t.1 p.1.term.to_.length p.2.t.t.2] :: blk bc 124 [.int .i64 nm, .slice (some a) es.length cap, .map (some bm)] :: mapI bm (plM (plDef (mp0 ++ (p.1.params.take j).map fun v => (v, (k, 0))) v (k, 0))) :: H) [s0]) rfl rfl (by exact Args.au) (fun w2 hw2 => (define_calls bc bm nm _ _ _ _ v (k, 0) _ _ w2 hw2.back2).mono fun e w3 ⟨h1, h2⟩ => ⟨(), by rw [h1, hky, hpe], trivial, h2.back2.back2⟩) ?_
  rintro _ _
  have hpd : paramE seen p.1.params j = 0 → plDef (mp0 ++ (p.1.params.take j).map fun v => (v, (k, 0))) v (k, 0) = mp0 ++ (p.1.params.take (j + 1)).map fun v => (v, (k, 0)) := fun h => by
   unfold plDef
   rw [hky, ← hpe, if_pos h, htk, List.map_append, List.append_assoc]
   rfl
  refine zgs ?_
  refine W.cnd ?_ ?_ <;> intro hne <;> try exact zwx hne
  ·have herr : blockE bs seen p.1 = paramE seen p.1.params j := by
    unfold blockE
    rw [firstR_at hjl hj0 hne, if_pos hne]
   refine zgs ?_
   (refine zfn ?_; intro w' hw')
   refine ⟨_, by rw [herr], fun h => absurd (herr ▸ h) hne, hw'.thin (.any (fun k hk => by rw [show k = bB from hk]; exact ⟨hbB1, trivial⟩) Thin.same)⟩
  ·have h0 : paramE seen p.1.params j = 0 := by simpa using hne
   rw [hpd h0]
   refine zgs ?_
   exact At.again (j + 1) ⟨by omega, firstR_next hj0 h0⟩ (by omega) (by exact Sub.au) (fun w' hw' => hw')
 obtain rfl : j = p.1.params.length := by omega
 have hkp : (mp0 ++ p.1.params.map fun v => (v, (k, 0))).map Prod.fst = seen ++ p.1.params := by
  rw [List.map_append, hkeys, List.map_map]
  congr 1
  exact List.map_id _
 rw [List.take_length]
 have hplB : plF (bs.take k) 0 = plF (bs.take k) 0 := rfl
 have hmpB : mp0 ++ plB k p.1 = (mp0 ++ p.1.params.map fun v => (v, (k, 0))) ++ plI k p.1.ins 0 := by unfold plB; rw [List.append_assoc]
 have hbE : blockE bs seen p.1 = if ¬ firstR (insE (seen ++ p.1.params) p.1.ins) p.1.ins.length = 0 then firstR (insE (seen ++ p.1.params) p.1.ins) p.1.ins.length else termE bs p.1.term := by
  unfold blockE
  rw [if_neg (fun h => h hj0)]
 rw [hmpB, hbE]
 generalize (mp0 ++ p.1.params.map fun v => (v, (k, 0))) = mp1 at *
 generalize hseen : seen ++ p.1.params = seen1 at *
 refine zgs ?_
 refine W.loop (G := Nat) (fun j => j ≤ pi.length ∧ firstR (insE seen1 p.1.ins) j = 0) (fun j => pi.length - j)
  (fun j => [(0, true, .pointer (some ⟨bc, 0, none⟩)), (1, true, .int .i64 (k : Int)), (5, true, .pointer (some ⟨bB, 0, none⟩)), (38, true, .slice p.2.i.1 pi.length p.2.i.2), (39, true, .int .i64 (pi.length : Int)), (40, true, .int .i64 (j : Int))])
  (fun j => Cls (blk bB 41 [.slice p.2.p.1 p.1.params.length p.2.p.2, .slice p.2.i.1 pi.length p.2.i.2, .int .i64 p.1.term.kind, .int .i64 p.1.term.arg, .int .i64 p.1.term.n, .slice p.2.t.c.1 p.1.term.cases.length p.2.t.c.2, .slice p.2.t.t.1 p.1.term.to_.length p.2.t.t.2] :: blk bc 124 [.int .i64 nm, .slice (some a) es.length cap, .map (some bm)] :: mapI bm (plM (mp1 ++ plI k (p.1.ins.take j) 0)) :: H) [s0]) 0 ⟨by omega, rfl⟩ (by rw [← hpil]; exact Sub.au) (fun w' hw' => by rw [← hpil]; simpa [plI] using hw') ?_
 rintro j ⟨hj, hj0⟩
 refine zgs ?_
 refine W.cnd ?_ ?_ <;> intro hlt2 <;> try exact zwx hlt2
 ·have hjl : j < p.1.ins.length := by omega
  obtain ⟨ai, u, hqi, haib, hu, hcu, hoku⟩ := hiarr.get (show j < pi.length by omega)
  have haib : ai.block < s0.heap.size := haib
  have hcu : CellsAt s0 (ai.add (j * 4)) [.int .i64 u.1.to_, .int .i64 u.1.op, .int .i64 u.1.n, .slice u.2.1 u.1.args.length u.2.2] := hcu
  have hui : p.1.ins[j]? = some u.1 := by rw [← hpi, List.getElem?_map, hu]; rfl
  have hie := insE_at (seen := seen1) hui
  have hky : (mp1 ++ plI k (p.1.ins.take j) 0).map Prod.fst = seen1 ++ (p.1.ins.take j).map In.to_ := by
   rw [List.map_append, hkp, plI_keys]
  have htk : p.1.ins.take (j + 1) = p.1.ins.take j ++ [u.1] := by rw [List.take_add_one, hui]; rfl
  have hual := hoku.al
  generalize hdd : defE u.1.to_ (seen1 ++ (p.1.ins.take j).map In.to_) = dd at *
  rw [hqi]
  refine zgs ?_
  apply OL.alloc; rfl; rfl; exact CellsL.agg; (intro bk hbk; simp only [AllLe, and_true] at hbk)
  refine zgs ?_
  revert bk
  intro bI hbI
  have hbI1 : s0.heap.size ≤ bI := by first | exact hbI | exact hbI.1
  refine OL.callE (α := Unit) (fun _ => .int .i64 dd) (fun _ => True) (fun _ => Cls (blk bI 85 [.int .i64 u.1.to_, .int .i64 u.1.op, .int .i64 u.1.n, .slice u.2.1 u.1.args.length u.2.2] :: blk bB 41 [.slice p.2.p.1 p.1.params.length p.2.p.2, .slice (some ai) pi.length p.2.i.2, .int .i64 p.1.term.kind, .int .i64 p.1.term.arg, .int .i64 p.1.term.n, .slice p.2.t.c.1 p.1.term.cases.length p.2.t.c.2, .slice p.2.t.t.1 p.1.term.to_.length p.2.t.t.2] :: blk bc 124 [.int .i64 nm, .slice (some a) es.length cap, .map (some bm)] :: mapI bm (plM (plDef (mp1 ++ plI k (p.1.ins.take j) 0) u.1.to_ (k, j + 1))) :: H) [s0]) rfl rfl (by exact Args.au) (fun w2 hw2 => (define_calls bc bm nm _ _ _ _ u.1.to_ (k, j + 1) _ _ w2 hw2.back22).mono fun e w3 ⟨h1, h2⟩ => ⟨(), by rw [h1, hky, hdd], trivial, h2.back22⟩) ?_
  rintro _ _
  have hpd : dd = 0 → plDef (mp1 ++ plI k (p.1.ins.take j) 0) u.1.to_ (k, j + 1) = mp1 ++ plI k (p.1.ins.take (j + 1)) 0 := fun h => by
   unfold plDef
   rw [hky, hdd, if_pos h, htk, plI_snoc, List.append_assoc, Nat.zero_add, List.length_take, Nat.min_eq_left (by omega)]
  refine zgs ?_
  refine W.cnd ?_ ?_ <;> intro hne <;> try exact zwx hne
  ·have h1 : insE seen1 p.1.ins j = dd := by rw [hie, if_pos hne]
   have h2 : firstR (insE seen1 p.1.ins) p.1.ins.length = dd := by rw [firstR_at hjl hj0 (by rw [h1]; exact hne), h1]
   refine zgs ?_
   (refine zfn ?_; intro w' hw')
   rw [h2, if_pos hne]
   exact ⟨_, rfl, fun h => absurd h hne, hw'.thin (.any (fun k hk => by rw [show k = bI from hk]; exact ⟨hbI1, trivial⟩) (.any (fun k hk => by rw [show k = bB from hk]; exact ⟨hbB1, trivial⟩) Thin.same))⟩
  have h0 : dd = 0 := by simpa using hne
  have hie2 : insE seen1 p.1.ins j = formE u.1 := by rw [hie, if_neg (fun h => h h0)]
  rw [hpd h0]
  refine zgs ?_
  (((first | apply OL.op | apply QL.op); exact Guard.au; rfl; rfl); (exact Pev.call (v := .int .i64 (formE u.1)) rfl (by exact Args.au) (fun _ w2 hw2 => (Form_calls u.1 u.2 w2 hual).mono (fun e w3 h => ⟨h.1, hw2.ext h.2⟩))))
  refine zgs ?_
  refine W.cnd ?_ ?_ <;> intro hne2 <;> try exact zwx hne2
  ·have h2 : firstR (insE seen1 p.1.ins) p.1.ins.length = formE u.1 := by rw [firstR_at hjl hj0 (by rw [hie2]; exact hne2), hie2]
   refine zgs ?_
   (refine zfn ?_; intro w' hw')
   rw [h2, if_pos hne2]
   exact ⟨_, rfl, fun h => absurd h hne2, hw'.thin (.any (fun k hk => by rw [show k = bI from hk]; exact ⟨hbI1, trivial⟩) (.any (fun k hk => by rw [show k = bB from hk]; exact ⟨hbB1, trivial⟩) Thin.same))⟩
  ·have h3 : insE seen1 p.1.ins j = 0 := by rw [hie2]; simpa using hne2
   refine zgs ?_
   exact At.again (j + 1) ⟨by omega, firstR_next hj0 h3⟩ (by omega) (by exact Sub.au) (fun w' hw' => hw'.thin (.any (fun k hk => by rw [show k = bI from hk]; exact ⟨hbI1, trivial⟩) Thin.same))
 obtain rfl : j = pi.length := by omega
 rw [← hpil] at hj0 ⊢
 rw [List.take_length, if_neg (fun h => h hj0)]
 refine zgs ?_
 apply W.regd0; decide +kernel; kernel_rfl; decide +kernel; exact fun w hw => hw.drew
 refine zgs ?_
 (((first | apply OL.op | apply QL.op); exact Guard.au; rfl; rfl); (exact Pev.call (v := .int .i64 (termE bs p.1.term)) rfl (by exact Args.au) (fun _ w2 hw2 => (End_calls es (some a) cap nm p.1.term p.2.t w2 (he.at hw2 (by exact mau) (fun k hk => by exact NotOwned.au)) hlen (TmOk.at hok.t hw2 (by exact mau) (fun k hk => by exact NotOwned.au))).mono (fun e w3 h => ⟨by rw [h.1, hbs], hw2.ext h.2⟩))))
 refine zgs ?_
 (refine zfn ?_; intro w' hw')
 exact ⟨mp1 ++ plI k p.1.ins 0, rfl, fun _ => rfl, hw'.thin (.any (fun k hk => by rw [show k = bB from hk]; exact ⟨hbB1, trivial⟩) Thin.same)⟩
end Go.Proofs.Ytehelljmaiophaa.ss

/- Plain: sets of blocks as two words of bits, and what the dominators' iteration keeps. No program in sight. No condition. -/
namespace Go.Ss
abbrev BS := Nat × Nat
def BS.ok (s : BS) : Prop := s.1 < 2 ^ 64 ∧ s.2 < 2 ^ 64
def hasS (s : BS) (k : Nat) : Bool := if k < 64 then s.1.testBit k else s.2.testBit (k - 64)
def withS (s : BS) (k : Nat) : BS := if k < 64 then (s.1 ||| 2 ^ k, s.2) else (s.1, s.2 ||| 2 ^ (k - 64))
def bothS (s t : BS) : BS := (s.1 &&& t.1, s.2 &&& t.2)
theorem bit_pow (k j : Nat) : (2 ^ k).testBit j = decide (k = j) := by
 rw [Nat.testBit_two_pow]
theorem has_with {s : BS} {k j : Nat} (hk : k < 128) (hj : j < 128) : hasS (withS s k) j = (decide (j = k) || hasS s j) := by
 unfold hasS withS
 by_cases h1 : k < 64
 ·rw [if_pos h1]
  by_cases h2 : j < 64
  ·simp only [if_pos h2, Nat.testBit_or, bit_pow]
   by_cases e : j = k
   ·subst e; simp
   ·simp [e, Ne.symm e]
  ·simp only [if_neg h2]
   have : ¬ j = k := by omega
   simp [this]
 ·rw [if_neg h1]
  by_cases h2 : j < 64
  ·simp only [if_pos h2]
   have : ¬ j = k := by omega
   simp [this]
  ·simp only [if_neg h2, Nat.testBit_or, bit_pow]
   by_cases e : j = k
   ·subst e; simp
   ·have h3 : ¬ k - 64 = j - 64 := by omega
    simp [e, h3]
theorem has_both (s t : BS) (j : Nat) : hasS (bothS s t) j = (hasS s j && hasS t j) := by
 unfold hasS bothS
 split <;> simp [Nat.testBit_and]
theorem ok_zero : BS.ok (0, 0) := ⟨by decide, by decide⟩
theorem ok_with {s : BS} (h : s.ok) {k : Nat} (hk : k < 128) : (withS s k).ok := by
 unfold withS
 split
 ·exact ⟨Nat.or_lt_two_pow h.1 (Nat.pow_lt_pow_right (by omega) (by omega)), h.2⟩
 ·exact ⟨h.1, Nat.or_lt_two_pow h.2 (Nat.pow_lt_pow_right (by omega) (by omega))⟩
theorem ok_both {s t : BS} (h : s.ok) : (bothS s t).ok := ⟨Nat.lt_of_le_of_lt Nat.and_le_left h.1, Nat.lt_of_le_of_lt Nat.and_le_left h.2⟩
theorem ext_S {s t : BS} (hs : s.ok) (ht : t.ok) (h : ∀ j, j < 128 → hasS s j = hasS t j) : s = t := by
 obtain ⟨a, b⟩ := s
 obtain ⟨c, d⟩ := t
 have h1 : a = c := Nat.eq_of_testBit_eq fun j => by
  by_cases hj : j < 64
  ·have := h j (by omega)
   unfold hasS at this
   simpa [hj] using this
  ·rw [Nat.testBit_lt_two_pow (Nat.lt_of_lt_of_le hs.1 (Nat.pow_le_pow_right (by omega) (by omega))), Nat.testBit_lt_two_pow (Nat.lt_of_lt_of_le ht.1 (Nat.pow_le_pow_right (by omega) (by omega)))]
 have h2 : b = d := Nat.eq_of_testBit_eq fun j => by
  by_cases hj : j < 64
  ·have := h (j + 64) (by omega)
   unfold hasS at this
   rw [if_neg (by omega), if_neg (by omega), Nat.add_sub_cancel] at this
   exact this
  ·rw [Nat.testBit_lt_two_pow (Nat.lt_of_lt_of_le hs.2 (Nat.pow_le_pow_right (by omega) (by omega))), Nat.testBit_lt_two_pow (Nat.lt_of_lt_of_le ht.2 (Nat.pow_le_pow_right (by omega) (by omega)))]
 rw [h1, h2]
def allS : Nat → BS
 | 0 => (0, 0)
 | n + 1 => withS (allS n) n
theorem ok_all : ∀ {n : Nat}, n ≤ 128 → (allS n).ok
 | 0, _ => ok_zero
 | n + 1, h => ok_with (ok_all (by omega)) (by omega)
theorem has_all : ∀ {n j : Nat}, n ≤ 128 → j < 128 → hasS (allS n) j = decide (j < n)
 | 0, j, _, _ => by simp [allS, hasS]
 | n + 1, j, h, hj => by
  rw [allS, has_with (by omega) hj, has_all (by omega) hj]
  by_cases e : j = n
  ·subst e; simp
  ·have : (j < n) = (j < n + 1) := by simp; omega
   simp [e, this]
def cntS (s : BS) : Nat := (List.range 128).countP (hasS s)
theorem cntS_le (s : BS) : cntS s ≤ 128 := by
 have := List.countP_le_length (p := hasS s) (l := List.range 128)
 simpa [cntS] using this
theorem countP_lt {p q : Nat → Bool} : ∀ {l : List Nat}, (∀ x ∈ l, p x = true → q x = true) → l.countP p ≤ l.countP q ∧ ((∃ x ∈ l, q x = true ∧ p x = false) → l.countP p < l.countP q)
 | [], _ => ⟨Nat.le_refl _, fun ⟨x, hx, _⟩ => by cases hx⟩
 | a :: l, h => by
  obtain ⟨h1, h2⟩ := countP_lt (l := l) (p := p) (q := q) fun x hx => h x (.tail _ hx)
  have h3 := h a (.head _)
  rw [List.countP_cons, List.countP_cons]
  refine ⟨?_, ?_⟩
  ·cases hp : p a <;> cases hq : q a <;> simp_all
   omega
  ·rintro ⟨x, hx, hq, hp⟩
   rcases List.mem_cons.1 hx with rfl | hx
   ·simp [hq, hp]; omega
   ·have := h2 ⟨x, hx, hq, hp⟩
    cases hpa : p a <;> cases hqa : q a <;> simp_all
    omega
theorem cnt_sub {s t : BS} (h : ∀ j, j < 128 → hasS s j = true → hasS t j = true) : cntS s ≤ cntS t := (countP_lt fun x hx => h x (List.mem_range.1 hx)).1
theorem cnt_lt {s t : BS} (hs : s.ok) (ht : t.ok) (h : ∀ j, j < 128 → hasS s j = true → hasS t j = true) (hne : s ≠ t) : cntS s < cntS t := by
 refine (countP_lt fun x hx => h x (List.mem_range.1 hx)).2 ?_
 apply Classical.byContradiction
 intro hno
 refine hne (ext_S hs ht fun j hj => ?_)
 cases h1 : hasS s j
 ·cases h2 : hasS t j
  ·rfl
  ·exact absurd ⟨j, List.mem_range.2 hj, h2, h1⟩ hno
 ·rw [h j hj h1]
def sumS (O : List BS) : Nat := (O.map cntS).sum
theorem sumS_set : ∀ {O : List BS} {b : Nat} {s t : BS}, O[b]? = some s → sumS (O.set b t) + cntS s = sumS O + cntS t
 | [], b, s, t, h => by simp at h
 | x :: O, 0, s, t, h => by
  simp at h
  subst h
  simp [sumS]; omega
 | x :: O, b + 1, s, t, h => by
  have := sumS_set (O := O) (b := b) (s := s) (t := t) (by simpa using h)
  simp [sumS] at this ⊢
  omega
structure DI (G : List (List Int)) (O : List BS) (S : BS) : Prop where
 len : O.length = G.length
 n : G.length ≤ 128
 ok : ∀ s ∈ O, s.ok
 sok : S.ok
 z : O[0]? = some (withS (0, 0) 0)
 s0 : hasS S 0 = true
 snd : ∀ b, b < 128 → hasS S b = true → Rc G (-1) b
 dom : ∀ b s, O[b]? = some s → ∀ a, a < G.length → (Rc G (-1) b → Ovr G a b) → (a = b ∨ Rc G (-1) b) → hasS s a = true
def muS (O : List BS) (S : BS) : Nat := sumS O + (128 - cntS S)
theorem DI.start {G : List (List Int)} (hn : G.length ≤ 128) (h0 : 0 < G.length) : DI G ((List.replicate G.length (allS G.length)).set 0 (withS (0, 0) 0)) (withS (0, 0) 0) where
 len := by simp
 n := hn
 ok := fun s hs => by
  rcases List.mem_or_eq_of_mem_set hs with h | h
  ·rw [(List.mem_replicate.1 h).2]; exact ok_all hn
  ·rw [h]; exact ok_with ok_zero (by decide)
 sok := ok_with ok_zero (by decide)
 z := by rw [List.getElem?_set]; simp [h0]
 s0 := by decide
 snd := fun b hb h => by
  rw [has_with (by decide) hb] at h
  have : b = 0 := by simpa [hasS] using h
  subst this
  exact .zero (by decide) h0
 dom := fun b s hs a ha hov hc => by
  rw [List.getElem?_set] at hs
  by_cases e : 0 = b
  ·subst e
   rw [if_pos rfl, if_pos (by simpa using h0)] at hs
   obtain rfl := Option.some.inj hs
   rw [has_with (by decide) (by omega)]
   have h1 : a = 0 := by
    rcases hc with h | h
    ·exact h
    ·rcases hov h with h2 | h2
     ·exact h2
     ·by_cases ea : a = 0
      ·exact ea
      ·exact absurd (Rc.zero (by omega) h0) h2
   simp [h1]
  ·rw [if_neg e, List.getElem?_replicate] at hs
   split at hs
   ·obtain rfl := Option.some.inj hs
    rw [has_all hn (by omega)]
    simpa using ha
   ·cases hs
def nextS (s t : BS) (b : Nat) : BS := withS (bothS s t) b
theorem DI.sub {G : List (List Int)} {O : List BS} {S : BS} (h : DI G O S) {b : Nat} {s t : BS} (hb : O[b]? = some s) : ∀ j, j < 128 → hasS (nextS s t b) j = true → hasS s j = true := fun j hj hh => by
 have hbl : b < G.length := by have := (List.getElem?_eq_some_iff.1 hb).1; rw [h.len] at this; exact this
 have hn := h.n
 unfold nextS at hh
 rw [has_with (by omega) hj, has_both] at hh
 by_cases e : j = b
 ·subst e
  exact h.dom j s hb j hbl (fun _ => .refl G j) (.inl rfl)
 ·simp [e] at hh
  exact hh.1
theorem DI.step {G : List (List Int)} {O : List BS} {S : BS} (h : DI G O S) {k b : Nat} {s t : BS} (hk : O[k]? = some t) (hb : O[b]? = some s) (he : Edge G k b) (hS : hasS S k = true) (hb0 : b ≠ 0) :
  DI G (O.set b (nextS s t b)) (withS S b) := by
 have hbl : b < G.length := by have := (List.getElem?_eq_some_iff.1 hb).1; rw [h.len] at this; exact this
 have hkl : k < G.length := by have := (List.getElem?_eq_some_iff.1 hk).1; rw [h.len] at this; exact this
 have hn := h.n
 have hRk : Rc G (-1) k := h.snd k (by omega) hS
 have hRb : Rc G (-1) b := .step hRk he (by omega) hbl
 refine ⟨by rw [List.length_set, h.len], hn, fun x hx => ?_, ok_with h.sok (by omega), ?_, ?_, fun c hc hh => ?_, fun c x hx a ha hov hcc => ?_⟩
 ·rcases List.mem_or_eq_of_mem_set hx with hx | hx
  ·exact h.ok x hx
  ·rw [hx]
   exact ok_with (ok_both (h.ok s (List.mem_of_getElem? hb))) (by omega)
 ·rw [List.getElem?_set_ne hb0]; exact h.z
 ·rw [has_with (by omega) (by decide), h.s0]; simp
 ·rw [has_with (by omega) hc] at hh
  by_cases e : c = b
  ·subst e; exact hRb
  ·simp [e] at hh
   exact h.snd c hc hh
 ·rw [List.getElem?_set] at hx
  by_cases e : b = c
  ·subst e
   rw [if_pos rfl, if_pos (by rw [h.len]; exact hbl)] at hx
   obtain rfl := Option.some.inj hx
   unfold nextS
   rw [has_with (by omega) (by omega), has_both]
   by_cases ea : a = b
   ·simp [ea]
   ·have ho := hov hRb
    have h1 := h.dom b s hb a ha hov (.inr hRb)
    have h2 := h.dom k t hk a ha (fun _ => ho.pred he hbl ea) (.inr hRk)
    simp [h1, h2]
  ·rw [if_neg e] at hx
   exact h.dom c x hx a ha hov hcc
theorem DI.mu {G : List (List Int)} {O : List BS} {S : BS} (h : DI G O S) {b : Nat} {s t : BS} (hb : O[b]? = some s) (hc : nextS s t b ≠ s ∨ hasS S b = false) : muS (O.set b (nextS s t b)) (withS S b) < muS O S := by
 have hbl : b < G.length := by have := (List.getElem?_eq_some_iff.1 hb).1; rw [h.len] at this; exact this
 have hn := h.n
 have h1 := sumS_set (t := nextS s t b) hb
 have hso := h.ok s (List.mem_of_getElem? hb)
 have hno : (nextS s t b).ok := ok_with (ok_both hso) (by omega)
 have h2 := cnt_sub (h.sub (t := t) hb)
 have h3 : ∀ j, j < 128 → hasS S j = true → hasS (withS S b) j = true := fun j hj hh => by
  rw [has_with (by omega) hj, hh]; simp
 have h4 := cnt_sub h3
 have h5 := cntS_le (withS S b)
 unfold muS
 rcases hc with hc | hc
 ·have := cnt_lt hno hso (h.sub (t := t) hb) hc
  omega
 ·have : cntS S < cntS (withS S b) := cnt_lt h.sok (ok_with h.sok (by omega)) h3 (fun e => by
   have h6 : hasS (withS S b) b = true := by rw [has_with (by omega) (by omega)]; simp
   rw [← e, hc] at h6
   cases h6)
  omega
structure DFix (G : List (List Int)) (O : List BS) (S : BS) : Prop where
 seen : ∀ k b, Edge G k b → b < G.length → hasS S k = true → hasS S b = true
 over : ∀ k b s t, Edge G k b → hasS S k = true → O[k]? = some t → O[b]? = some s → nextS s t b = s
theorem DI.seen {G : List (List Int)} {O : List BS} {S : BS} (h : DI G O S) (hf : DFix G O S) {b : Nat} (hb : b < G.length) : hasS S b = true ↔ Rc G (-1) b := by
 refine ⟨h.snd b (by have := h.n; omega), fun hr => ?_⟩
 clear hb
 induction hr with
 | zero _ _ => exact h.s0
 | step hr he hv hl ih => exact hf.seen _ _ he hl ih
theorem DI.over {G : List (List Int)} {O : List BS} {S : BS} (h : DI G O S) (hf : DFix G O S) {a b : Nat} {s : BS} (ha : a < G.length) (hs : O[b]? = some s) (hr : Rc G (-1) b) : hasS s a = true ↔ Ovr G a b := by
 refine ⟨fun hh => ?_, fun ho => h.dom b s hs a ha (fun _ => ho) (.inr hr)⟩
 by_cases e : a = b
 ·exact .inl e
 ·refine .inr fun hav => ?_
  have hn := h.n
  have key : ∀ c, Rc G (a : Int) c → ∀ x, O[c]? = some x → hasS x a = false := by
   intro c hc
   induction hc with
   | zero h0 _ =>
    intro x hx
    rw [h.z] at hx
    obtain rfl := Option.some.inj hx
    rw [has_with (by decide) (by omega)]
    have : ¬ a = 0 := fun e => h0 (by rw [e]; rfl)
    simp [this, hasS]
   | @step c d hc he hv hl ih =>
    intro x hx
    have hcl := hc.lt
    have hcl2 : c < O.length := by rw [h.len]; exact hcl
    have ht : O[c]? = some O[c] := List.getElem?_eq_getElem hcl2
    have h1 := ih _ ht
    have h2 := hf.over c d x _ he ((h.seen hf hcl).2 hc.all) ht hx
    cases hv2 : hasS x a
    ·rfl
    ·rw [← h2] at hv2
     unfold nextS at hv2
     rw [has_with (by omega) (by omega), has_both, h1] at hv2
     have : ¬ a = d := fun e => hv (by rw [e])
     simp [this] at hv2
  rw [key b hav s hs] at hh
  cases hh
structure RInv (G : List (List Int)) (O : List BS) (S : BS) (O' : List BS) (S' : BS) (ag : Bool) (i j : Nat) : Prop where
 di : DI G O' S'
 mu : muS O' S' ≤ muS O S
 lt : ag = true → muS O' S' < muS O S
 same : ag = false → O' = O ∧ S' = S ∧ ∀ (a m : Nat) (l : List Int) (b : Nat), G[a]? = some l → l[m]? = some (b : Int) → (a < i ∨ (a = i ∧ m < j)) → hasS S a = true → hasS S b = true ∧ ∀ s t, O[a]? = some t → O[b]? = some s → nextS s t b = s
theorem RInv.start {G : List (List Int)} {O : List BS} {S : BS} (h : DI G O S) : RInv G O S O S false 0 0 := ⟨h, Nat.le_refl _, fun h => (by cases h), fun _ => ⟨rfl, rfl, fun a m l b _ _ h => by omega⟩⟩
theorem RInv.skip {G : List (List Int)} {O O' : List BS} {S S' : BS} {ag : Bool} {i : Nat} (h : RInv G O S O' S' ag i 0) (hs : hasS S' i = false) : RInv G O S O' S' ag (i + 1) 0 :=
 ⟨h.di, h.mu, h.lt, fun hag => by
  obtain ⟨h1, h2, h3⟩ := h.same hag
  refine ⟨h1, h2, fun a m l b e1 e2 e3 e4 => ?_⟩
  by_cases e : a = i
  ·subst e
   rw [← h2, hs] at e4
   cases e4
  ·exact h3 a m l b e1 e2 (by omega) e4⟩
theorem RInv.keep {G : List (List Int)} {O O' : List BS} {S S' : BS} {ag : Bool} {i j b : Nat} {l : List Int} {s t : BS} (h : RInv G O S O' S' ag i j) (hl : G[i]? = some l) (hj : l[j]? = some (b : Int)) (ht : O'[i]? = some t) (hs : O'[b]? = some s) (h1 : nextS s t b = s) (h2 : hasS S' b = true) : RInv G O S O' S' ag i (j + 1) :=
 ⟨h.di, h.mu, h.lt, fun hag => by
  obtain ⟨g1, g2, g3⟩ := h.same hag
  refine ⟨g1, g2, fun a m l' b' e1 e2 e3 e4 => ?_⟩
  by_cases e : a = i ∧ m = j
  ·obtain ⟨rfl, rfl⟩ := e
   rw [hl] at e1
   obtain rfl := Option.some.inj e1
   rw [hj] at e2
   have e5 : b = b' := by have := Option.some.inj e2; omega
   subst e5
   refine ⟨by rw [← g2]; exact h2, fun s' t' k1 k2 => ?_⟩
   rw [← g1, ht] at k1
   rw [← g1, hs] at k2
   rw [← Option.some.inj k1, ← Option.some.inj k2]
   exact h1
  ·exact g3 a m l' b' e1 e2 (by omega) e4⟩
theorem RInv.turn {G : List (List Int)} {O O' : List BS} {S S' : BS} {ag : Bool} {i j b : Nat} {l : List Int} {s t : BS} (h : RInv G O S O' S' ag i j) (hl : G[i]? = some l) (hj : l[j]? = some (b : Int)) (ht : O'[i]? = some t) (hs : O'[b]? = some s) (hS : hasS S' i = true) (hb0 : b ≠ 0) (hc : nextS s t b ≠ s ∨ hasS S' b = false) : RInv G O S (O'.set b (nextS s t b)) (withS S' b) true i (j + 1) := by
 have h1 := h.di.step ht hs ⟨l, hl, List.mem_of_getElem? hj⟩ hS hb0
 have h2 := h.di.mu (t := t) hs hc
 have h3 := h.mu
 exact ⟨h1, by omega, fun _ => by omega, fun h => (by cases h)⟩
theorem RInv.next {G : List (List Int)} {O O' : List BS} {S S' : BS} {ag : Bool} {i : Nat} {l : List Int} (h : RInv G O S O' S' ag i l.length) (hl : G[i]? = some l) : RInv G O S O' S' ag (i + 1) 0 :=
 ⟨h.di, h.mu, h.lt, fun hag => by
  obtain ⟨g1, g2, g3⟩ := h.same hag
  refine ⟨g1, g2, fun a m l' b' e1 e2 e3 e4 => g3 a m l' b' e1 e2 ?_ e4⟩
  by_cases e : a = i
  ·subst e
   rw [hl] at e1
   obtain rfl := Option.some.inj e1
   have := (List.getElem?_eq_some_iff.1 e2).1
   omega
  ·omega⟩
theorem RInv.done {G : List (List Int)} {O O' : List BS} {S S' : BS} (hG : ∀ l ∈ G, ∀ x ∈ l, 0 ≤ x) (h : RInv G O S O' S' false G.length 0) : DFix G O' S' := by
 obtain ⟨rfl, rfl, h3⟩ := h.same rfl
 have key : ∀ k b, Edge G k b → hasS S' k = true → hasS S' b = true ∧ ∀ s t, O'[k]? = some t → O'[b]? = some s → nextS s t b = s := fun k b he hk => by
  obtain ⟨l, hl, hb⟩ := he
  obtain ⟨m, hm⟩ := List.getElem?_of_mem hb
  exact h3 k m l b hl hm (.inl (List.getElem?_eq_some_iff.1 hl).1) hk
 exact ⟨fun k b he _ hk => (key k b he hk).1, fun k b s t he hk ht hs => (key k b he hk).2 s t ht hs⟩
end Go.Ss

/- The walks of ssa's set.has, with, both, and of dominators. Conditions: none. -/
namespace Go.Ss
open Go.Eng Go.RowKit
def setC (s : BS) : List Value := [.int .u64 (s.1 : Int), .int .u64 (s.2 : Int)]
theorem setC_len (s : BS) : (setC s).length = 2 := rfl
def half (s : BS) (k : Nat) : Nat := if k < 64 then s.1 else s.2
theorem half_get (s : BS) {k : Nat} (hk : k < 128) : ([.int .u64 (s.1 : Int), .int .u64 (s.2 : Int)] : List Value)[0 + ((k : Int) / 64).toNat * 1]? = some (.int .u64 (half s k : Int)) := by
 unfold half
 by_cases h : k < 64
 ·rw [if_pos h, show 0 + ((k : Int) / 64).toNat * 1 = 0 by omega]; rfl
 ·rw [if_neg h, show 0 + ((k : Int) / 64).toNat * 1 = 1 by omega]; rfl
theorem half_ok {s : BS} (h : s.ok) (k : Nat) : half s k < 18446744073709551616 := by
 have h1 := h.1
 have h2 := h.2
 unfold half
 split <;> omega
theorem has_half (s : BS) {k : Nat} (hk : k < 128) : hasS s k = (half s k).testBit (k % 64) := by
 unfold hasS half
 split
 ·rw [Nat.mod_eq_of_lt (by omega)]
 ·rw [show k % 64 = k - 64 by omega]
theorem bit_of {x m : Nat} (hx : x < 18446744073709551616) : decide (bits .and .u64 ((x : Int) / 2 ^ m) 1 = 1) = x.testBit m := by
 have e1 : ((x : Int) / 2 ^ m) = ((x / 2 ^ m : Nat) : Int) := by rw [Int.natCast_ediv, Int.natCast_pow]; rfl
 have e2 : (1 : Int) = ((1 : Nat) : Int) := rfl
 rw [e1, e2, bits_and_u64_nat _ _ (Nat.lt_of_le_of_lt (Nat.div_le_self _ _) hx) (by decide), Nat.and_one_is_mod, Nat.testBit_eq_decide_div_mod_eq]
 congr 1
 simp only [eq_iff_iff]
 omega
theorem with_set {s : BS} (h : s.ok) {k : Nat} (hk : k < 128) : ([.int .u64 (s.1 : Int), .int .u64 (s.2 : Int)] : List Value).set (0 + ((k : Int) / 64).toNat * 1) (.int .u64 (bits .or .u64 (half s k : Int) (IntKind.u64.wrap (1 * 2 ^ ((k : Int) % 64).toNat)))) = setC (withS s k) := by
 have e0 : ((k : Int) % 64).toNat = k % 64 := by omega
 have hp : 2 ^ (k % 64) < 18446744073709551616 := Nat.lt_of_lt_of_le (Nat.pow_lt_pow_right (by omega) (show k % 64 < 64 by omega)) (by decide)
 have e1 : IntKind.u64.wrap (1 * 2 ^ (k % 64)) = ((2 ^ (k % 64) : Nat) : Int) := by
  have h2 : ((2 : Int) ^ (k % 64)) = ((2 ^ (k % 64) : Nat) : Int) := by rw [Int.natCast_pow]; rfl
  rw [Int.one_mul, h2]
  generalize 2 ^ (k % 64) = p at hp
  simp [IntKind.wrap, IntKind.signed, IntKind.bits]
  omega
 rw [e0, e1, bits_or_u64_nat _ _ (half_ok h k) hp]
 unfold withS half setC
 by_cases h6 : k < 64
 ·rw [if_pos h6, if_pos h6, show 0 + ((k : Int) / 64).toNat * 1 = 0 by omega, Nat.mod_eq_of_lt h6]; rfl
 ·rw [if_neg h6, if_neg h6, show 0 + ((k : Int) / 64).toNat * 1 = 1 by omega, show k % 64 = k - 64 by omega]; rfl
structure XB (w : World) where
 bN : Nat
 hbN : w.heap.size ≤ bN
 old : Nat → Value
end Go.Ss
namespace Go.Proofs.Ytehelljmaiophaa.ss
open Go.RowKit Go.Eng Go.Ss
set_option maxRecDepth 100000
theorem has_calls (s : BS) (k : Nat) (w : World) (hs : s.ok) (hk : k < 128) :
  Calls Try.prog 123 [.agg (setC s).toArray, .int .i64 (k : Int)].toArray w fun e w' => e = .returned (.bool (hasS s k)) ∧ Ext w w' := by
 have hcell := half_get s hk
 have hb := bit_of (m := k % 64) (half_ok hs k)
 rw [← has_half s hk] at hb
 have e0 : ((k : Int) % 64).toNat = k % 64 := by omega
 refine enter Try.func123 rfl Try.ntmps123 rfl (Cls.start w) (zen ?_)
 simp only [setC]
 apply W.sr
 apply OL.box; rfl; rfl; exact CellsL.agg; (intro bk hbk; simp only [AllLe, and_true] at hbk)
 refine zgs ?_
 (refine zfn ?_; intro w' hw')
 rw [e0]
 exact ⟨by rw [hb], by (exact hw'.fr)⟩
theorem with_calls (s : BS) (k : Nat) (w : World) (hs : s.ok) (hk : k < 128) :
  Calls Try.prog 149 [.agg (setC s).toArray, .int .i64 (k : Int)].toArray w fun e w' => e = .returned (.agg (setC (withS s k)).toArray) ∧ Ext w w' := by
 have hcell := half_get s hk
 have hset := with_set hs hk
 refine enter Try.func149 rfl Try.ntmps149 rfl (Cls.start w) (zen ?_)
 simp only [setC]
 apply W.sr
 apply OL.box; rfl; rfl; exact CellsL.agg; (intro bk hbk; simp only [AllLe, and_true] at hbk)
 apply OL.alloc; rfl; rfl; exact CellsL.agg; (intro bk hbk; simp only [AllLe, and_true] at hbk)
 refine zgs ?_
 apply W.regq; apply Split.s rfl; apply Split.s rfl; apply Split.s rfl; apply Split.s rfl; apply Split.s rfl; apply Split.s rfl; apply Split.s rfl; apply Split.s rfl; apply Split.s rfl; exact Split.z rfl; kernel_rfl; decide +kernel; exact fun w hw => hw.drew
 refine zgs ?_
 (apply OL.storeI); rfl; rfl; rfl; rfl; rfl; (exact Swap.au); (simp only [List.length_cons, List.length_nil]; omega)
 rw [hset]
 simp only [setC]
 refine zgs ?_
 refine At.finC (b := bk) (cs := [.int .u64 ((withS s k).1 : Int), .int .u64 ((withS s k).2 : Int)]) rfl rfl (by exact mau) rfl rfl (fun w' hw' => ⟨rfl, by (exact hw'.fr)⟩)
theorem both_calls (s t : BS) (w : World) (hs : s.ok) (ht : t.ok) :
  Calls Try.prog 150 [.agg (setC s).toArray, .agg (setC t).toArray].toArray w fun e w' => e = .returned (.agg (setC (bothS s t)).toArray) ∧ Ext w w' := by
 have h1 : bits .and .u64 (s.1 : Int) (t.1 : Int) = ((bothS s t).1 : Int) := bits_and_u64_nat _ _ (by have := hs.1; omega) (by have := ht.1; omega)
 have h2 : bits .and .u64 (s.2 : Int) (t.2 : Int) = ((bothS s t).2 : Int) := bits_and_u64_nat _ _ (by have := hs.2; omega) (by have := ht.2; omega)
 refine enter Try.func150 rfl Try.ntmps150 rfl (Cls.start w) (zen ?_)
 simp only [setC]
 apply W.sr
 apply OL.box; rfl; rfl; exact CellsL.agg; (intro bk hbk; simp only [AllLe, and_true] at hbk)
 apply OL.box; rfl; rfl; exact CellsL.agg; (intro bk hbk; simp only [AllLe, and_true] at hbk)
 apply OL.alloc; rfl; rfl; exact CellsL.agg; (intro bk hbk; simp only [AllLe, and_true] at hbk)
 refine zgs ?_
 refine At.finC (b := bk) (cs := [.int .u64 (bits .and .u64 (s.1 : Int) (t.1 : Int)), .int .u64 (bits .and .u64 (s.2 : Int) (t.2 : Int))]) rfl rfl (by exact mau) rfl rfl (fun w' hw' => ⟨by rw [h1, h2], by (exact hw'.fr)⟩)
theorem neqS (s t : BS) : Bin Try.prog .neq 174 (.agg (setC s).toArray) (.agg (setC t).toArray) (.bool (!decide (s = t))) := ⟨fun x y w => by
 have h1 := run_eqGuard_agg (P := Try.prog) w .neq 174 x y (setC s).toArray (setC t).toArray (by kernel_rfl)
 rw [Sem.run_bind, h1, Result.andThen_ok, run_neq_struct]
 have p1 : ∀ (w : World) (i : Nat) (v : Value) (cs : Array Value) (t : TypeId), cs[i]? = some v → scalB Try.prog t = true → (part t cs i).run Try.prog w = .ok v w := fun w i v cs t hv ht => by
  simp [part, Sem.run_bind, run_isAgg_scal ht, hv]
 have q0 := fun (w : World) (s : BS) => p1 w 0 (.int .u64 (s.1 : Int)) (setC s).toArray 172 rfl rfl
 have q1 := fun (w : World) (s : BS) => p1 w 1 (.int .u64 (s.2 : Int)) (setC s).toArray 172 rfl rfl
 have e1 := fun w a b => run_equalIn_int (P := Try.prog) w 9998 172 .u64 .u64 a b Try.underlying172
 have he := run_equalIn_arr2 (P := Try.prog) (d := 9999) (t := 174) (e := 172) w (by kernel_rfl) (fun w => by kernel_rfl) (fun w => q0 w s) (fun w => q0 w t) (fun w => q1 w s) (fun w => q1 w t) (fun w => e1 w _ _) (fun w => e1 w _ _)
 rw [he]
 simp only [Result.andThen_ok]
 obtain ⟨a, b⟩ := s
 obtain ⟨c, d⟩ := t
 congr 2
 simp only [Prod.mk.injEq]
 by_cases h1 : a = c
 ·by_cases h2 : b = d
  ·simp [h1, h2]
  ·simp [h1, h2]
   omega
 ·simp [h1]
  omega⟩
theorem dominators_calls (es : List (Bk × BkY)) (q : Option Addr) (cap : Nat) (nm : Int) (w : World) (he : Arr bkR w (low w) es q) (h0 : 0 < es.length) (hn : es.length ≤ 128) (hE : ∀ p ∈ es, ∀ e ∈ p.1.term.to_, 1 ≤ e.block ∧ e.block < (es.length : Int)) :
  Calls Try.prog 121 [.agg #[.int .i64 nm, .slice q es.length cap]].toArray w fun e w' => ∃ (bO : Nat) (O : List BS) (S : BS), e = .returned (.tuple #[.slice (some ⟨bO, 0, none⟩) es.length es.length, .agg (setC S).toArray]) ∧ Ext w w' ∧ DI (graphB (es.map Prod.fst)) O S ∧ DFix (graphB (es.map Prod.fst)) O S ∧ w.heap.size ≤ bO ∧ (blk bO 174 (cat setC O)).holds w' := by
 obtain ⟨G, hG⟩ : ∃ G, graphB (es.map Prod.fst) = G := ⟨_, rfl⟩
 have hGl : G.length = es.length := by rw [← hG]; simp [graphB]
 rw [hG]
 refine enter Try.func121 rfl Try.ntmps121 rfl (Cls.start w) (zen ?_)
 apply W.sr
 apply OL.box; rfl; rfl; exact CellsL.agg; (intro bk hbk; simp only [AllLe, and_true] at hbk)
 refine zgs ?_
 apply OL.alloc; rfl; rfl; exact CellsL.agg; (intro bk hbk; simp only [AllLe, and_true] at hbk)
 apply OL.nsr
 apply OL.alloc; rfl; rfl; exact CellsL.agg; (intro bk hbk; simp only [AllLe, and_true] at hbk)
 refine zgs ?_
 rename_i bF hbF bR hbR
 revert bk
 intro bA hbA
 refine W.loop (G := Nat) (fun i => i ≤ es.length) (fun i => es.length - i) (fun i => [(1, true, .pointer (some ⟨bF, 0, none⟩)), (3, true, .pointer (some ⟨bR, 0, none⟩)), (4, true, .pointer (some ⟨bA, 0, none⟩)), (17, true, .int .i64 (es.length : Int)), (18, true, .int .i64 (i : Int))])
  (fun i => Cls [blk bA 174 [.int .u64 ((allS i).1 : Int), .int .u64 ((allS i).2 : Int)], blk bR 174 [.int .u64 0, .int .u64 0], blk bF 24 [.int .i64 nm, .slice q es.length cap]] [w]) 0 (by omega) (by exact Sub.au) (fun w' hw' => hw') ?_
 intro i hi
 refine zgs ?_
 refine W.cnd ?_ ?_ <;> intro hlt <;> try exact zwx hlt
 ·have hil : i < es.length := by omega
  refine zgs ?_
  (((first | apply OL.op | apply QL.op); exact Guard.au; rfl; rfl); (exact Pev.call (v := .agg #[.int .u64 ((withS (allS i) i).1 : Int), .int .u64 ((withS (allS i) i).2 : Int)]) rfl (by exact Args.au) (fun _ w2 hw2 => (with_calls (allS i) i w2 (ok_all (by omega)) (by omega)).mono (fun e w3 h => ⟨h.1, hw2.ext h.2⟩))))
  refine zgs ?_
  exact At.again (i + 1) (by omega) (by omega) (by exact Sub.au) (fun w' hw' => hw')
 obtain rfl : i = es.length := by omega
 refine zgs ?_
 (apply OL.makeSliceK (f := setC) (x0 := ((0, 0) : BS)) (m := es.length)); rfl; rfl; rfl; rfl; rfl; rfl; rfl; rfl; (omega)
 intro bO hbO
 refine zgs ?_
 have hbO' : w.heap.size ≤ bO := hbO.1
 refine W.loop (G := Nat) (fun i => i ≤ es.length) (fun i => es.length - i) (fun i => [(1, true, .pointer (some ⟨bF, 0, none⟩)), (3, true, .pointer (some ⟨bR, 0, none⟩)), (4, true, .pointer (some ⟨bA, 0, none⟩)), (6, true, .slice (some ⟨bO, 0, none⟩) es.length es.length), (30, true, .int .i64 (es.length : Int)), (31, true, .int .i64 (i : Int))])
  (fun i => Cls [blk bO 174 (cat setC (List.replicate i (allS es.length) ++ List.replicate (es.length - i) (0, 0))), blk bA 174 [.int .u64 ((allS es.length).1 : Int), .int .u64 ((allS es.length).2 : Int)], blk bR 174 [.int .u64 0, .int .u64 0], blk bF 24 [.int .i64 nm, .slice q es.length cap]] [w]) 0 (by omega) (by exact Sub.au) (fun w' hw' => by simpa using hw') ?_
 intro i hi
 refine zgs ?_
 refine W.cnd ?_ ?_ <;> intro hlt2 <;> try exact zwx hlt2
 ·have hil : i < es.length := by omega
  have hset : (List.replicate i (allS es.length) ++ List.replicate (es.length - i) (0, 0)).set i (allS es.length) = List.replicate (i + 1) (allS es.length) ++ List.replicate (es.length - (i + 1)) (0, 0) := by
   rw [List.set_append_right _ _ (by simp)]
   rw [List.length_replicate, Nat.sub_self, show es.length - i = (es.length - (i + 1)) + 1 by omega, List.replicate_succ, List.set_cons_zero, List.replicate_succ', List.append_assoc]
   rfl
  refine zgs ?_
  refine OL.storeL (vs := setC (allS es.length)) (cs := cat setC (List.replicate i (allS es.length) ++ List.replicate (es.length - i) (0, 0))) rfl rfl rfl rfl rfl rfl ⟨?_, rfl⟩ (by exact Swap.au) ?_
  ·rw [cat_length setC_len, List.length_append, List.length_replicate, List.length_replicate, setC_len]
   omega
  rw [show 0 + ((i : Nat) : Int).toNat * 2 = i * 2 by omega, cat_set setC_len (by decide) (by rw [List.length_append, List.length_replicate, List.length_replicate]; omega), hset]
  refine zgs ?_
  exact At.again (i + 1) (by omega) (by omega) (by exact Sub.au) (fun w' hw' => hw')
 obtain rfl : i = es.length := by omega
 rw [Nat.sub_self, List.replicate_zero, List.append_nil]
 refine zgs ?_
 (((first | apply OL.op | apply QL.op); exact Guard.au; rfl; rfl); (exact Pev.call (v := .agg #[.int .u64 ((withS (0, 0) 0).1 : Int), .int .u64 ((withS (0, 0) 0).2 : Int)]) rfl (by exact Args.au) (fun _ w2 hw2 => (with_calls (0, 0) 0 w2 ok_zero (by decide)).mono (fun e w3 h => ⟨h.1, hw2.ext h.2⟩))))
 refine zgs ?_
 refine OL.storeL (vs := setC (withS (0, 0) 0)) (cs := cat setC (List.replicate es.length (allS es.length))) rfl rfl rfl rfl rfl rfl ⟨?_, rfl⟩ (by exact Swap.au) ?_
 ·rw [cat_length setC_len, List.length_replicate, setC_len]
  omega
 rw [show cat setC (List.replicate es.length (allS es.length)) = cat setC (List.replicate es.length (allS es.length)) from rfl, show putL (cat setC (List.replicate es.length (allS es.length))) (0 + Int.toNat 0 * 2) (setC (withS (0, 0) 0)) = cat setC ((List.replicate es.length (allS es.length)).set 0 (withS (0, 0) 0)) from cat_set (i := 0) setC_len (by decide) (by rw [List.length_replicate]; omega)]
 refine zgs ?_
 (((first | apply OL.op | apply QL.op); exact Guard.au; rfl; rfl); (exact Pev.call (v := .agg #[.int .u64 ((withS (0, 0) 0).1 : Int), .int .u64 ((withS (0, 0) 0).2 : Int)]) rfl (by exact Args.au) (fun _ w2 hw2 => (with_calls (0, 0) 0 w2 ok_zero (by decide)).mono (fun e w3 h => ⟨h.1, hw2.ext h.2⟩))))
 apply OL.alloc; rfl; rfl; exact CellsL.agg; (intro bk hbk; simp only [AllLe, and_true] at hbk)
 refine zgs ?_
 revert bk
 intro bS hbS
 have hdi0 := DI.start (G := G) (by omega) (by omega)
 rw [hGl] at hdi0
 generalize (List.replicate es.length (allS es.length)).set 0 (withS (0, 0) 0) = O0 at *
 generalize hS0 : withS (0, 0) 0 = S0 at *
 refine W.loop (G := List BS × BS × Bool) (fun g => DI G g.1 g.2.1 ∧ (g.2.2 = false → DFix G g.1 g.2.1)) (fun g => 2 * muS g.1 g.2.1 + (if g.2.2 then 1 else 0))
  (fun g => [(1, true, .pointer (some ⟨bF, 0, none⟩)), (3, true, .pointer (some ⟨bR, 0, none⟩)), (6, true, .slice (some ⟨bO, 0, none⟩) es.length es.length), (8, true, .pointer (some ⟨bS, 0, none⟩)), (9, true, .bool g.2.2)]) (fun g => Cls [blk bS 174 [.int .u64 ((g.2.1).1 : Int), .int .u64 ((g.2.1).2 : Int)], blk bO 174 (cat setC g.1), blk bA 174 [.int .u64 ((allS es.length).1 : Int), .int .u64 ((allS es.length).2 : Int)], blk bR 174 [.int .u64 0, .int .u64 0], blk bF 24 [.int .i64 nm, .slice q es.length cap]] [w]) (O0, S0, true) ⟨hdi0, fun h => (by cases h)⟩ (by exact Sub.au) (fun w' hw' => hw') ?_
 rintro ⟨O, S, ag⟩ ⟨hdi, hfix⟩
 simp only at hdi hfix ⊢
 refine zgs ?_
 refine W.cond rfl (fun hag => ?_) (fun hag => ?_)
 ·subst hag
  refine zgs ?_
  refine W.loop (G := Nat × List BS × BS × Bool) (fun g => g.1 ≤ es.length ∧ RInv G O S g.2.1 g.2.2.1 g.2.2.2 g.1 0) (fun g => es.length - g.1)
   (fun g => [(1, true, .pointer (some ⟨bF, 0, none⟩)), (3, true, .pointer (some ⟨bR, 0, none⟩)), (6, true, .slice (some ⟨bO, 0, none⟩) es.length es.length), (8, true, .pointer (some ⟨bS, 0, none⟩)), (9, true, .bool g.2.2.2), (47, true, .slice q es.length cap), (48, true, .int .i64 (es.length : Int)), (49, true, .int .i64 (g.1 : Int))]) (fun g => Cls [blk bS 174 [.int .u64 ((g.2.2.1).1 : Int), .int .u64 ((g.2.2.1).2 : Int)], blk bO 174 (cat setC g.2.1), blk bA 174 [.int .u64 ((allS es.length).1 : Int), .int .u64 ((allS es.length).2 : Int)], blk bR 174 [.int .u64 0, .int .u64 0], blk bF 24 [.int .i64 nm, .slice q es.length cap]] [w]) (0, O, S, false) ⟨by simp, RInv.start hdi⟩ (by exact Sub.au) (fun w' hw' => hw') ?_
  rintro ⟨i, O1, S1, ag1⟩ ⟨hi, hR⟩
  simp only at hi hR ⊢
  refine zgs ?_
  refine W.cnd ?_ ?_ <;> intro hlt3 <;> try exact zwx hlt3
  ·have hil : i < es.length := by omega
   obtain ⟨a, p, rfl, hab, hp, hcell, hok⟩ := he.get hil
   have hab : a.block < w.heap.size := hab
   have hcell : CellsAt w (a.add (i * 7)) [.slice p.2.p.1 p.1.params.length p.2.p.2, .slice p.2.i.1 p.1.ins.length p.2.i.2, .int .i64 p.1.term.kind, .int .i64 p.1.term.arg, .int .i64 p.1.term.n, .slice p.2.t.c.1 p.1.term.cases.length p.2.t.c.2, .slice p.2.t.t.1 p.1.term.to_.length p.2.t.t.2] := hcell
   have hGi : G[i]? = some (p.1.term.to_.map Ed.block) := by rw [← hG]; simp [graphB, List.getElem?_map, hp]
   have hpm : p ∈ es := List.mem_of_getElem? hp
   refine zgs ?_
   apply OL.alloc; rfl; rfl; exact CellsL.agg; (intro bk hbk; simp only [AllLe, and_true] at hbk)
   refine zgs ?_
   (((first | apply OL.op | apply QL.op); exact Guard.au; rfl; rfl); (exact Pev.call (v := .bool (hasS S1 i)) rfl (by exact Args.au) (fun _ w2 hw2 => (has_calls S1 i w2 hR.di.sok (by omega)).mono (fun e w3 h => ⟨h.1, hw2.ext h.2⟩))))
   refine zgs ?_
   refine W.cnd ?_ ?_ <;> intro hns <;> try exact zwx hns
   ·refine zgs ?_
    exact At.again (i + 1, O1, S1, ag1) ⟨by simp only; omega, hR.skip (by simpa using hns)⟩ (by simp only; omega) (by exact Sub.au) (fun w' hw' => hw'.thin (by exact Thin.au))
   have hsi : hasS S1 i = true := by simpa using hns
   obtain ⟨ts, hts, harr⟩ := hok.t.t
   have htl := hok.t.tl
   have htl2 : p.1.term.to_.length = ts.length := by rw [← hts, List.length_map]
   rw [htl2]
   refine zgs ?_
   refine W.loop (G := Nat × List BS × BS × Bool) (fun g => g.1 ≤ ts.length ∧ RInv G O S g.2.1 g.2.2.1 g.2.2.2 i g.1 ∧ hasS g.2.2.1 i = true) (fun g => ts.length - g.1)
    (fun g => [(1, true, .pointer (some ⟨bF, 0, none⟩)), (3, true, .pointer (some ⟨bR, 0, none⟩)), (6, true, .slice (some ⟨bO, 0, none⟩) es.length es.length), (8, true, .pointer (some ⟨bS, 0, none⟩)), (9, true, .bool g.2.2.2), (10, true, .int .i64 (i : Int)), (47, true, .slice (some a) es.length cap), (48, true, .int .i64 (es.length : Int)), (49, true, .int .i64 (i : Int)), (60, true, .slice p.2.t.t.1 ts.length p.2.t.t.2), (61, true, .int .i64 (ts.length : Int)), (62, true, .int .i64 (g.1 : Int))]) (fun g => Cls [blk bS 174 [.int .u64 ((g.2.2.1).1 : Int), .int .u64 ((g.2.2.1).2 : Int)], blk bO 174 (cat setC g.2.1), blk bA 174 [.int .u64 ((allS es.length).1 : Int), .int .u64 ((allS es.length).2 : Int)], blk bR 174 [.int .u64 0, .int .u64 0], blk bF 24 [.int .i64 nm, .slice (some a) es.length cap]] [w]) (0, O1, S1, ag1) ⟨by simp, hR, hsi⟩ (by exact Sub.au) (fun w' hw' => hw'.thin (by exact Thin.au)) ?_
   rintro ⟨j, O2, S2, ag2⟩ ⟨hj, hR2, hsi2⟩
   simp only at hj hR2 hsi2 ⊢
   refine zgs ?_
   refine W.cnd ?_ ?_ <;> intro hlt4 <;> try exact zwx hlt4
   ·obtain ⟨ae, u, hqt, hatb, hu, hcu, hoku⟩ := harr.get (show j < ts.length by omega)
    have hatb : ae.block < w.heap.size := hatb
    have hue : u.1 ∈ p.1.term.to_ := by rw [← hts]; exact List.mem_map_of_mem (f := Prod.fst) (List.mem_of_getElem? hu)
    obtain ⟨hb1, hb2⟩ := hE p hpm u.1 hue
    have hjl : (p.1.term.to_.map Ed.block)[j]? = some u.1.block := by rw [← hts, List.map_map, List.getElem?_map, hu]; rfl
    obtain ⟨b, hbb⟩ : ∃ b : Nat, u.1.block = (b : Int) := ⟨u.1.block.toNat, by omega⟩
    rw [hbb] at hjl hb1 hb2
    have hcu : CellsAt w (ae.add (j * 2)) [.int .i64 (b : Int), .slice u.2.1 u.1.args.length u.2.2] := by rw [← hbb]; exact hcu
    have hO2l : O2.length = es.length := by rw [hR2.di.len, hGl]
    have hb2n : b < O2.length := by omega
    have hi2n : i < O2.length := by omega
    obtain ⟨sB, hsB⟩ : ∃ s, O2[b]? = some s := ⟨_, List.getElem?_eq_getElem hb2n⟩
    obtain ⟨sI, hsI⟩ : ∃ s, O2[i]? = some s := ⟨_, List.getElem?_eq_getElem hi2n⟩
    have hokB := hR2.di.ok sB (List.mem_of_getElem? hsB)
    have hokI := hR2.di.ok sI (List.mem_of_getElem? hsI)
    rw [hqt]
    refine zgs ?_
    apply OL.alloc; rfl; rfl; exact CellsL.agg; (intro bk hbk; simp only [AllLe, and_true] at hbk)
    refine zgs ?_
    revert bk
    intro bE hbE
    refine W.regany (X := XB w) (fun x e => [(14, true, bif e 13 then .pointer (some ⟨x.bN, 0, none⟩) else x.old 14), (78, true, bif e 12 then .agg #[.int .u64 ((nextS sB sI b).1 : Int), .int .u64 ((nextS sB sI b).2 : Int)] else x.old 78), (77, true, bif e 11 then .int .i64 (b : Int) else x.old 77), (76, true, bif e 10 then .pointer (some ⟨bE, 0 + 0, none⟩) else x.old 76), (75, true, bif e 9 then .agg (setC (bothS sB sI)).toArray else x.old 75), (74, true, bif e 8 then .agg (setC sI).toArray else x.old 74), (73, true, bif e 7 then .pointer (some ⟨bO, 0 + ((i : Nat) : Int).toNat * 2, none⟩) else x.old 73), (72, true, bif e 6 then .int .i64 (i : Int) else x.old 72), (71, true, bif e 5 then .slice (some ⟨bO, 0, none⟩) es.length es.length else x.old 71), (70, true, bif e 4 then .agg (setC sB).toArray else x.old 70), (69, true, bif e 3 then .pointer (some ⟨bO, 0 + ((b : Nat) : Int).toNat * 2, none⟩) else x.old 69), (68, true, bif e 2 then .int .i64 (b : Int) else x.old 68), (67, true, bif e 1 then .pointer (some ⟨bE, 0 + 0, none⟩) else x.old 67), (66, true, bif e 0 then .slice (some ⟨bO, 0, none⟩) es.length es.length else x.old 66), (1, true, .pointer (some ⟨bF, 0, none⟩)), (3, true, .pointer (some ⟨bR, 0, none⟩)), (6, true, .slice (some ⟨bO, 0, none⟩) es.length es.length), (8, true, .pointer (some ⟨bS, 0, none⟩)), (9, true, .bool ag2), (10, true, .int .i64 (i : Int)), (13, true, .pointer (some ⟨bE, 0, none⟩)), (47, true, .slice (some a) es.length cap), (48, true, .int .i64 (es.length : Int)), (49, true, .int .i64 (i : Int)), (60, true, .slice (some ae) ts.length p.2.t.t.2), (61, true, .int .i64 (ts.length : Int)), (62, true, .int .i64 (j : Int))])
     (fun x e => (blk bE 105 [.int .i64 (b : Int), .slice u.2.1 u.1.args.length u.2.2]) :: (blk bS 174 [.int .u64 ((S2).1 : Int), .int .u64 ((S2).2 : Int)]) :: (blk bO 174 (cat setC O2)) :: (blk bA 174 [.int .u64 ((allS es.length).1 : Int), .int .u64 ((allS es.length).2 : Int)]) :: (blk bR 174 [.int .u64 0, .int .u64 0]) :: (blk bF 24 [.int .i64 nm, .slice (some a) es.length cap]) :: (bif e 13 then (bif e 14 then blk x.bN 174 [.int .u64 ((nextS sB sI b).1 : Int), .int .u64 ((nextS sB sI b).2 : Int)] else blk x.bN 174 [.int .u64 0, .int .u64 0]) else nothing) :: [])
     (fun old => ⟨w.heap.size, Nat.le_refl _, old⟩) (by kernel_rfl) (by kernel_rfl) (fun w hw => hw.drew) (fun old => by repeat (first | exact SubO.nil | apply SubO.cons rfl | refine SubO.old rfl ?_)) (fun old w' hw' => hw'.add_nothing) ?_ ?_
    ·intro x e i o ho hei hd hcl
     have hi : i < 15 := (List.getElem?_eq_some_iff.1 ho).1
     obtain rfl | rfl | rfl | rfl | rfl | rfl | rfl | rfl | rfl | rfl | rfl | rfl | rfl | rfl | rfl : i = 0 ∨ i = 1 ∨ i = 2 ∨ i = 3 ∨ i = 4 ∨ i = 5 ∨ i = 6 ∨ i = 7 ∨ i = 8 ∨ i = 9 ∨ i = 10 ∨ i = 11 ∨ i = 12 ∨ i = 13 ∨ i = 14 := by omega
     ·cases ho
      have v0 : Eng.upd e 0 0 = true := upd_eq
      simp only [hei, cond_true, cond_false]
      refine zgs ?_
      exact At.beside x (by repeat (first | exact Sub.nil | apply Sub.cons rfl | refine Sub.cons_eq rfl (by simp only [v0, cond_true, cond_false]) ?_)) (fun w' hw' => by first | exact hw' | (simp only [v0, cond_true, cond_false]; exact hw'))
     ·cases ho
      have v1 : Eng.upd e 1 1 = true := upd_eq
      simp only [hei, cond_true, cond_false]
      refine zgs ?_
      exact At.beside x (by repeat (first | exact Sub.nil | apply Sub.cons rfl | refine Sub.cons_eq rfl (by simp only [v1, cond_true, cond_false]) ?_)) (fun w' hw' => by first | exact hw' | (simp only [v1, cond_true, cond_false]; exact hw'))
     ·cases ho
      have h1 : e 1 = true := hd ⟨1, .data⟩ (by simp) rfl
      have v2 : Eng.upd e 2 2 = true := upd_eq
      have v1 : Eng.upd e 2 1 = true := upd_mono h1
      simp only [hei, h1, cond_true, cond_false]
      refine zgs ?_
      exact At.beside x (by repeat (first | exact Sub.nil | apply Sub.cons rfl | refine Sub.cons_eq rfl (by simp only [v2, v1, cond_true, cond_false]) ?_)) (fun w' hw' => by first | exact hw' | (simp only [v2, v1, cond_true, cond_false]; exact hw'))
     ·cases ho
      have h0 : e 0 = true := hd ⟨0, .data⟩ (by simp) rfl
      have h2 : e 2 = true := hd ⟨2, .data⟩ (by simp) rfl
      have v3 : Eng.upd e 3 3 = true := upd_eq
      have v0 : Eng.upd e 3 0 = true := upd_mono h0
      have v2 : Eng.upd e 3 2 = true := upd_mono h2
      simp only [hei, h0, h2, cond_true, cond_false]
      refine zgs ?_
      exact At.beside x (by repeat (first | exact Sub.nil | apply Sub.cons rfl | refine Sub.cons_eq rfl (by simp only [v3, v0, v2, cond_true, cond_false]) ?_)) (fun w' hw' => by first | exact hw' | (simp only [v3, v0, v2, cond_true, cond_false]; exact hw'))
     ·cases ho
      have h3 : e 3 = true := hd ⟨3, .data⟩ (by simp) rfl
      have v4 : Eng.upd e 4 4 = true := upd_eq
      have v3 : Eng.upd e 4 3 = true := upd_mono h3
      simp only [hei, h3, cond_true, cond_false]
      skip
      (((first | apply OL.op | apply QL.op); exact Guard.au; rfl; rfl); (exact Pev.load_blkE (vs := setC sB) rfl g_c (by exact mau) rfl rfl (fun _ jj v hj => by rw [show 0 + ((b : Nat) : Int).toNat * 2 = b * 2 by omega]; exact cat_get setC_len hsB jj v hj)))
      apply OL.nil
      exact At.beside x (by repeat (first | exact Sub.nil | apply Sub.cons rfl | refine Sub.cons_eq rfl (by simp only [v4, v3, cond_true, cond_false]) ?_)) (fun w' hw' => by first | exact hw' | (simp only [v4, v3, cond_true, cond_false]; exact hw'))
     ·cases ho
      have v5 : Eng.upd e 5 5 = true := upd_eq
      simp only [hei, cond_true, cond_false]
      refine zgs ?_
      exact At.beside x (by repeat (first | exact Sub.nil | apply Sub.cons rfl | refine Sub.cons_eq rfl (by simp only [v5, cond_true, cond_false]) ?_)) (fun w' hw' => by first | exact hw' | (simp only [v5, cond_true, cond_false]; exact hw'))
     ·cases ho
      have v6 : Eng.upd e 6 6 = true := upd_eq
      simp only [hei, cond_true, cond_false]
      refine zgs ?_
      exact At.beside x (by repeat (first | exact Sub.nil | apply Sub.cons rfl | refine Sub.cons_eq rfl (by simp only [v6, cond_true, cond_false]) ?_)) (fun w' hw' => by first | exact hw' | (simp only [v6, cond_true, cond_false]; exact hw'))
     ·cases ho
      have h5 : e 5 = true := hd ⟨5, .data⟩ (by simp) rfl
      have h6 : e 6 = true := hd ⟨6, .data⟩ (by simp) rfl
      have v7 : Eng.upd e 7 7 = true := upd_eq
      have v5 : Eng.upd e 7 5 = true := upd_mono h5
      have v6 : Eng.upd e 7 6 = true := upd_mono h6
      simp only [hei, h5, h6, cond_true, cond_false]
      refine zgs ?_
      exact At.beside x (by repeat (first | exact Sub.nil | apply Sub.cons rfl | refine Sub.cons_eq rfl (by simp only [v7, v5, v6, cond_true, cond_false]) ?_)) (fun w' hw' => by first | exact hw' | (simp only [v7, v5, v6, cond_true, cond_false]; exact hw'))
     ·cases ho
      have h7 : e 7 = true := hd ⟨7, .data⟩ (by simp) rfl
      have v8 : Eng.upd e 8 8 = true := upd_eq
      have v7 : Eng.upd e 8 7 = true := upd_mono h7
      simp only [hei, h7, cond_true, cond_false]
      skip
      (((first | apply OL.op | apply QL.op); exact Guard.au; rfl; rfl); (exact Pev.load_blkE (vs := setC sI) rfl g_c (by exact mau) rfl rfl (fun _ jj v hj => by rw [show 0 + ((i : Nat) : Int).toNat * 2 = i * 2 by omega]; exact cat_get setC_len hsI jj v hj)))
      apply OL.nil
      exact At.beside x (by repeat (first | exact Sub.nil | apply Sub.cons rfl | refine Sub.cons_eq rfl (by simp only [v8, v7, cond_true, cond_false]) ?_)) (fun w' hw' => by first | exact hw' | (simp only [v8, v7, cond_true, cond_false]; exact hw'))
     ·cases ho
      have h4 : e 4 = true := hd ⟨4, .data⟩ (by simp) rfl
      have h8 : e 8 = true := hd ⟨8, .data⟩ (by simp) rfl
      have v9 : Eng.upd e 9 9 = true := upd_eq
      have v4 : Eng.upd e 9 4 = true := upd_mono h4
      have v8 : Eng.upd e 9 8 = true := upd_mono h8
      simp only [hei, h4, h8, cond_true, cond_false]
      skip
      (((first | apply OL.op | apply QL.op); exact Guard.au; rfl; rfl); (exact Pev.call (v := .agg (setC (bothS sB sI)).toArray) rfl (by exact Args.au) (fun _ w2 hw2 => (both_calls sB sI w2 hokB hokI).mono (fun e w3 h => ⟨h.1, hw2.ext h.2⟩))))
      apply OL.nil
      exact At.beside x (by repeat (first | exact Sub.nil | apply Sub.cons rfl | refine Sub.cons_eq rfl (by simp only [v9, v4, v8, cond_true, cond_false]) ?_)) (fun w' hw' => by first | exact hw' | (simp only [v9, v4, v8, cond_true, cond_false]; exact hw'))
     ·cases ho
      have v10 : Eng.upd e 10 10 = true := upd_eq
      simp only [hei, cond_true, cond_false]
      refine zgs ?_
      exact At.beside x (by repeat (first | exact Sub.nil | apply Sub.cons rfl | refine Sub.cons_eq rfl (by simp only [v10, cond_true, cond_false]) ?_)) (fun w' hw' => by first | exact hw' | (simp only [v10, cond_true, cond_false]; exact hw'))
     ·cases ho
      have h10 : e 10 = true := hd ⟨10, .data⟩ (by simp) rfl
      have v11 : Eng.upd e 11 11 = true := upd_eq
      have v10 : Eng.upd e 11 10 = true := upd_mono h10
      simp only [hei, h10, cond_true, cond_false]
      refine zgs ?_
      exact At.beside x (by repeat (first | exact Sub.nil | apply Sub.cons rfl | refine Sub.cons_eq rfl (by simp only [v11, v10, cond_true, cond_false]) ?_)) (fun w' hw' => by first | exact hw' | (simp only [v11, v10, cond_true, cond_false]; exact hw'))
     ·cases ho
      have h9 : e 9 = true := hd ⟨9, .data⟩ (by simp) rfl
      have h11 : e 11 = true := hd ⟨11, .data⟩ (by simp) rfl
      have v12 : Eng.upd e 12 12 = true := upd_eq
      have v9 : Eng.upd e 12 9 = true := upd_mono h9
      have v11 : Eng.upd e 12 11 = true := upd_mono h11
      simp only [hei, h9, h11, cond_true, cond_false]
      skip
      (((first | apply OL.op | apply QL.op); exact Guard.au; rfl; rfl); (exact Pev.call (v := .agg #[.int .u64 ((nextS sB sI b).1 : Int), .int .u64 ((nextS sB sI b).2 : Int)]) rfl (by exact Args.au) (fun _ w2 hw2 => (with_calls (bothS sB sI) b w2 (ok_both hokB) (by omega)).mono (fun e w3 h => ⟨h.1, hw2.ext h.2⟩))))
      apply OL.nil
      exact At.beside x (by repeat (first | exact Sub.nil | apply Sub.cons rfl | refine Sub.cons_eq rfl (by simp only [v12, v9, v11, cond_true, cond_false]) ?_)) (fun w' hw' => by first | exact hw' | (simp only [v12, v9, v11, cond_true, cond_false]; exact hw'))
     ·cases ho
      have h14 : e 14 = false := hcl.not (i := 13) (j := 14) rfl hei (by kernel_rfl)
      have v13 : Eng.upd e 13 13 = true := upd_eq
      have v14 : Eng.upd e 13 14 = false := h14
      simp only [hei, h14, cond_true, cond_false]
      apply OL.alloc; rfl; rfl; exact CellsL.agg; (intro bk hbk; simp only [AllLe, and_true] at hbk)
      apply OL.nil
      exact At.beside { x with bN := bk, hbN := hbk } (by repeat (first | exact Sub.nil | apply Sub.cons rfl | refine Sub.cons_eq rfl (by simp only [v13, v14, cond_true, cond_false]) ?_)) (fun w' hw' => by simp only [v13, v14, cond_true, cond_false]; exact Cls.fill (p := 6) (H := _ :: _ :: _ :: _ :: _ :: _ :: _ :: []) (.s (.s (.s (.s (.s (.s .z)))))) hw')
     ·cases ho
      have h12 : e 12 = true := hd ⟨12, .data⟩ (by simp) rfl
      have h13 : e 13 = true := hd ⟨13, .data⟩ (by simp) rfl
      have v14 : Eng.upd e 14 14 = true := upd_eq
      have v12 : Eng.upd e 14 12 = true := upd_mono h12
      have v13 : Eng.upd e 14 13 = true := upd_mono h13
      simp only [hei, h12, h13, cond_true, cond_false]
      refine zgs ?_
      exact At.beside x (by repeat (first | exact Sub.nil | apply Sub.cons rfl | refine Sub.cons_eq rfl (by simp only [v14, v12, v13, cond_true, cond_false]) ?_)) (fun w' hw' => by first | exact hw' | (simp only [v14, v12, v13, cond_true, cond_false]; exact hw'))
    ·intro x e2 hall
     simp only [hall 0 (by decide), hall 1 (by decide), hall 2 (by decide), hall 3 (by decide), hall 4 (by decide), hall 5 (by decide), hall 6 (by decide), hall 7 (by decide), hall 8 (by decide), hall 9 (by decide), hall 10 (by decide), hall 11 (by decide), hall 12 (by decide), hall 13 (by decide), hall 14 (by decide), cond_true]
     have hxb := x.hbN
     refine zgs ?_
     apply W.regd0; decide +kernel; kernel_rfl; decide +kernel; exact fun w hw => hw.drew
     refine zgs ?_
     (((first | apply OL.op | apply QL.op); exact Guard.au; rfl; rfl); (exact Pev.load_blkE (vs := setC sB) rfl g_c (by exact mau) rfl rfl (fun _ jj v hj => by rw [show 0 + ((b : Nat) : Int).toNat * 2 = b * 2 by omega]; exact cat_get setC_len hsB jj v hj)))
     skip
     (((first | apply OL.op | apply QL.op); exact Guard.au; rfl; rfl); (exact Pev.bin (r := .bool (!decide (nextS sB sI b = sB))) rfl g_c rfl g_c (fun _ => neqS (nextS sB sI b) sB)))
     refine zgs ?_
     (((first | apply OL.op | apply QL.op); exact Guard.au; rfl; rfl); (exact Pev.call (v := .bool (hasS S2 b)) rfl (by exact Args.au) (fun _ w2 hw2 => (has_calls S2 b w2 hR2.di.sok (by omega)).mono (fun e w3 h => ⟨h.1, hw2.ext h.2⟩))))
     refine zgs ?_
     refine W.cond rfl (fun hc => ?_) (fun hc => ?_)
     ·have hch : nextS sB sI b ≠ sB ∨ hasS S2 b = false := by
       simp at hc
       by_cases e : nextS sB sI b = sB
       ·exact .inr (by simpa [e] using hc)
       ·exact .inl e
      skip
      refine W.regn 9 (by (repeat (first | exact SplitN.z | apply SplitN.s))) (by kernel_rfl) (by decide +kernel) (fun w hw => hw.drew) ?_
      refine zgs ?_
      (((first | apply OL.op | apply QL.op); exact Guard.au; rfl; rfl); (exact Pev.call (v := .agg #[.int .u64 ((withS S2 b).1 : Int), .int .u64 ((withS S2 b).2 : Int)]) rfl (by exact Args.au) (fun _ w2 hw2 => (with_calls S2 b w2 hR2.di.sok (by omega)).mono (fun e w3 h => ⟨h.1, hw2.ext h.2⟩))))
      refine zgs ?_
      refine OL.storeL (vs := setC (nextS sB sI b)) (cs := cat setC O2) rfl rfl rfl rfl rfl rfl ⟨?_, rfl⟩ (by exact Swap.au) ?_
      ·rw [cat_length setC_len, setC_len]
       omega
      rw [show 0 + ((b : Nat) : Int).toNat * 2 = b * 2 by omega, cat_set setC_len (by decide) hb2n]
      refine zgs ?_
      exact At.again (j + 1, O2.set b (nextS sB sI b), withS S2 b, true) ⟨by simp only; omega, hR2.turn hGi hjl hsI hsB hsi2 (by omega) hch, by rw [has_with (by omega) (by omega), hsi2]; simp⟩ (by simp only; omega) (by exact Sub.au) (fun w' hw' => hw'.thin (by exact Thin.au))
     ·have hch : nextS sB sI b = sB ∧ hasS S2 b = true := by
       simp at hc
       by_cases e : nextS sB sI b = sB
       ·exact ⟨e, by simpa [e] using hc⟩
       ·simp [e] at hc
      refine zgs ?_
      exact At.again (j + 1, O2, S2, ag2) ⟨by simp only; omega, hR2.keep hGi hjl hsI hsB hch.1 hch.2, hsi2⟩ (by simp only; omega) (by exact Sub.au) (fun w' hw' => hw'.thin (by exact Thin.au))
   ·obtain rfl : j = ts.length := by omega
    have hR3 : RInv G O S O2 S2 ag2 (i + 1) 0 := RInv.next (l := p.1.term.to_.map Ed.block) (by rw [List.length_map, htl2]; exact hR2) hGi
    refine zgs ?_
    exact At.again (i + 1, O2, S2, ag2) ⟨by simp only; omega, hR3⟩ (by simp only; omega) (by exact Sub.au) (fun w' hw' => hw')
  ·obtain rfl : i = es.length := by omega
   rw [← hGl] at hR
   have hG0 : ∀ l ∈ G, ∀ x ∈ l, 0 ≤ x := fun l hl x hx => by
    rw [← hG] at hl
    obtain ⟨b, hb, rfl⟩ := List.mem_map.1 hl
    obtain ⟨p, hp, rfl⟩ := List.mem_map.1 hb
    obtain ⟨e, he2, rfl⟩ := List.mem_map.1 hx
    have := hE p hp e he2
    omega
   refine zgs ?_
   cases ag1 with
   | true =>
    have := hR.lt rfl
    exact At.again (O1, S1, true) ⟨hR.di, fun h => (by cases h)⟩ (by simp; omega) (by exact Sub.au) (fun w' hw' => hw')
   | false =>
    have := hR.mu
    exact At.again (O1, S1, false) ⟨hR.di, fun _ => hR.done hG0⟩ (by simp; omega) (by exact Sub.au) (fun w' hw' => hw')
 ·subst hag
  have hf := hfix rfl
  refine zgs ?_
  refine W.regn 3 (by (repeat (first | exact SplitN.z | apply SplitN.s))) (by kernel_rfl) (by decide +kernel) (fun w hw => hw.drew) ?_
  refine zgs ?_
  refine At.fin1C (b := bR) (cs := [.int .u64 (S.1 : Int), .int .u64 (S.2 : Int)]) rfl rfl rfl (by exact mau) rfl rfl (fun w' hw' => ⟨bO, O, S, rfl, by (exact hw'.fr), hdi, hf, hbO', hw'.item (by exact mau)⟩)
end Go.Proofs.Ytehelljmaiophaa.ss

/- The walks of ssa's uses$1 and used. Conditions: none. -/
namespace Go.Eng
open Go.RowKit
theorem Cls.only {H H' : List Item} {S : List World} {w : World} (h : Cls H S w) (hs : H'.Sublist H) : Cls H' [w] w where
 holds := fun i hi => h.holds i (hs.subset hi)
 lt := fun i hi => h.lt i (hs.subset hi)
 dj := h.dj.sublist hs
 kp := fun s hs => by simp only [List.mem_singleton] at hs; subst hs; exact .refl _ _
def AllX (H : List Item) : Prop := ∀ i ∈ H, ∀ k w w', i.own k → i.holds w → i.holds w' → w'.heap[k]? = w.heap[k]?
theorem AllX.nil : AllX [] := fun i hi => by cases hi
theorem AllX.blk {H : List Item} {b : Nat} {t : TypeId} {cs : List Value} (h : AllX H) : AllX (Eng.blk b t cs :: H) := fun i hi k w w' ho h1 h2 => by
 rcases List.mem_cons.1 hi with rfl | hi
 ·have ho : k = b := ho
  subst ho
  exact Eq.trans (show w'.heap[k]? = _ from h2) (show w.heap[k]? = _ from h1).symm
 ·exact h i hi k w w' ho h1 h2
theorem AllX.mapX {H : List Item} {b clock : Nat} {es : Array MapEntry} (h : AllX H) : AllX (Eng.mapX b es clock :: H) := fun i hi k w w' ho h1 h2 => by
 rcases List.mem_cons.1 hi with rfl | hi
 ·have ho : k = b := ho
  subst ho
  exact Eq.trans (show w'.heap[k]? = _ from h2) (show w.heap[k]? = _ from h1).symm
 ·exact h i hi k w w' ho h1 h2
theorem Cls.extX {H : List Item} {w w' : World} (h0 : Cls H [w] w) (h : Cls H [w] w') (hx : AllX H) : Ext w w' := by
 have hk := h.kp w (.head _)
 refine ⟨hk.os, hk.tape, hk.output, hk.size, fun k hl _ => ?_⟩
 by_cases ho : owned H k
 ·obtain ⟨i, hi, ho⟩ := ho
  exact hx i hi k w w' ho (h0.holds i hi) (h.holds i hi)
 ·exact hk.block k hl ho
end Go.Eng
namespace Go.Ss
open Go.Eng Go.RowKit
def fineB (mp : PL) (O : List BS) (S : BS) (k at_ : Nat) (v : Int) : Bool :=
 match plget mp v with
 | none => false
 | some p => (decide (p.1 = k) && decide (p.2 ≤ at_)) || (decide (p.1 ≠ k) && hasS (O.getD k (0, 0)) p.1) || !hasS S k
end Go.Ss
namespace Go.Eng
open Go.RowKit Go.Ss
variable {P : Program} {n : Nat} {l : Env} {H : List Item} {S : List World} {c : Bool} {d : Option Nat} {ty : TypeId} {pos : String} {af : Array Edge} {g : Option (Nat × Bool)} {t : TypeId} {x y : Operand} {cx cy : Bool}
theorem Pev.plookupX {k e : TypeId} {b clock : Nat} {es : Array MapEntry} {m : PL} {s : Int} (hx : evl l x = some (cx, .map (some b))) (hcx : c = true → cx = true) (hy : evl l y = some (cy, .int .i64 s)) (hcy : c = true → cy = true) (ht : mapTi P t = some (k, e)) (hz : zeroV P e = some (.agg #[.int .i64 0, .int .i64 0])) (hm : MapIs es clock (plM m)) (hb : mapX b es clock ∈ H) :
  Pev P n l (Cls H S) ⟨d, .lookup t x y true, ty, pos, af, g⟩ c (.tuple #[.agg #[.int .i64 (((plget m s).getD (0, 0)).1 : Int), .int .i64 (((plget m s).getD (0, 0)).2 : Int)], .bool (plget m s).isSome]) := by
 have h1 := Pev.ilookup2 (P := P) (n := n) (C := Cls H S) (d := d) (ty := ty) (pos := pos) (af := af) (g := g) hx hcx hy hcy ht hz (fun w hw => ⟨es, clock, hw.item hb, hm⟩)
 rw [iget_plM] at h1
 cases hp : plget m s with
 | none => rw [hp] at h1; exact h1
 | some p => rw [hp] at h1; exact h1
end Go.Eng
namespace Go.Proofs.Ytehelljmaiophaa.ss
set_option maxRecDepth 100000
open Go.Eng Go.RowKit Go.Ss
theorem fine_calls (bp bc bm bk_ ba bo bs_ bO m : Nat) (nm : Int) (q : Option Addr) (n cap : Nat) (es : Array MapEntry) (clock : Nat) (mp : PL) (O : List BS) (S : BS) (k at_ : Nat) (v : Int) (w : World) (hmp : MapIs es clock (plM mp)) (hm : O.length = m) (hO : O.length ≤ 128) (hOk : ∀ s ∈ O, s.ok) (hS : S.ok) (hk : k < O.length) (hb : ∀ b a, plget mp v = some (b, a) → b < O.length)
  (hc : Cls (blk ba 3 [.int .i64 (at_ : Int)] :: blk bk_ 3 [.int .i64 (k : Int)] :: blk bs_ 174 (setC S) :: blk bo 171 [.slice (some ⟨bO, 0, none⟩) m m] :: blk bO 174 (cat setC O) :: blk bp 121 [.pointer (some ⟨bc, 0, none⟩)] :: blk bc 124 [.int .i64 nm, .slice q n cap, .map (some bm)] :: mapX bm es clock :: []) [w] w) :
  Calls Try.prog 122 [.int .i64 v, .pointer (some ⟨bp, 0, none⟩), .pointer (some ⟨bk_, 0, none⟩), .pointer (some ⟨ba, 0, none⟩), .pointer (some ⟨bo, 0, none⟩), .pointer (some ⟨bs_, 0, none⟩)].toArray w fun e w' => e = .returned (.bool (fineB mp O S k at_ v)) ∧ Ext w w' := by
 subst hm
 refine enter Try.func122 rfl Try.ntmps122 rfl hc (zen ?_)
 refine zgs ?_
 (((first | (with_reducible apply OL.op) | (with_reducible apply QL.op)); (exact Guard.au); rfl; rfl); (refine Pev.plookupX (m := mp) rfl g_c rfl g_c rfl rfl hmp (by exact mau)))
 have hp1 : ((plget mp v).getD (0, 0)).1 < O.length := by
  cases hp : plget mp v with
  | none => exact Nat.lt_of_le_of_lt (Nat.zero_le _) hk
  | some p => exact hb p.1 p.2 hp
 rw [show fineB mp O S k at_ v = ((plget mp v).isSome && ((decide (((plget mp v).getD (0, 0)).1 = k) && decide (((plget mp v).getD (0, 0)).2 ≤ at_)) || (decide (((plget mp v).getD (0, 0)).1 ≠ k) && hasS (O.getD k (0, 0)) ((plget mp v).getD (0, 0)).1) || !hasS S k)) by
  unfold fineB
  cases plget mp v <;> rfl]
 generalize (plget mp v).getD (0, 0) = pg at *
 generalize (plget mp v).isSome = sm at *
 obtain ⟨p1, p2⟩ := pg
 simp only at hp1 ⊢
 refine zgs ?_
 apply OL.alloc; rfl; rfl; exact CellsL.agg; (intro bk hbk; simp only [AllLe, and_true] at hbk)
 refine zgs ?_
 apply W.regd0; decide +kernel; kernel_rfl; decide +kernel; exact fun w hw => hw.drew
 refine zgs ?_
 have hOk1 : O[k]? = some (O.getD k (0, 0)) := by rw [List.getD_eq_getElem?_getD, List.getElem?_eq_getElem hk]; rfl
 have hsk : (O.getD k (0, 0)).ok := hOk _ (List.mem_of_getElem? hOk1)
 (((first | (with_reducible apply OL.op) | (with_reducible apply QL.op)); (exact Guard.au); rfl; rfl); (refine Pev.load_blkE (k := 2) (vs := setC (O.getD k (0, 0))) rfl g_c (by exact mau) rfl rfl (fun _ j v hj => ?_)))
 ·have h9 := cat_get (f := setC) (sz := 2) (fun _ => rfl) hOk1 j v hj
  rw [← h9]
  congr 1
  simp
 refine zgs ?_
 (((first | apply OL.op | apply QL.op); exact Guard.au; rfl; rfl); (exact Pev.call (v := .bool (hasS (O.getD k (0, 0)) p1)) rfl (by exact Args.au) (fun _ w2 hw2 => (has_calls _ p1 w2 hsk (by omega)).mono (fun e w3 h => ⟨h.1, hw2.ext h.2⟩))))
 refine zgs ?_
 (((first | apply OL.op | apply QL.op); exact Guard.au; rfl; rfl); (exact Pev.call (v := .bool (hasS S k)) rfl (by exact Args.au) (fun _ w2 hw2 => (has_calls S k w2 hS (by omega)).mono (fun e w3 h => ⟨h.1, hw2.ext h.2⟩))))
 refine zgs ?_
 (refine zfn ?_; intro w' hw')
 refine ⟨?_, Cls.extX hc (hw'.thin (.any (fun k hk => by rw [show k = bk from hk]; exact ⟨by assumption, trivial⟩) Thin.same)) (.blk (.blk (.blk (.blk (.blk (.blk (.blk (.mapX .nil))))))))⟩
 have e1 : decide ((p1 : Int) = (k : Int)) = decide (p1 = k) := decide_eq_decide.2 (by omega)
 have e2 : decide ((p2 : Int) ≤ (at_ : Int)) = decide (p2 ≤ at_) := decide_eq_decide.2 (by omega)
 have e3 : decide (p1 ≠ k) = !decide (p1 = k) := by simp
 rw [e1, e2, e3]
theorem used_calls (t : Tm) (y : TmY) (f : FuncId) (first caps : List Value) (p : Int → Bool) (w : World) (ht : TmOk w (low w) t y) (hk : 0 ≤ t.kind ∧ t.kind ≤ 4) (hf : callable Try.prog f = true)
  (hp : ∀ v ∈ operT t, ∀ w', Ext w w' → Calls Try.prog f (first ++ [Value.int .i64 v] ++ caps).toArray w' fun e w'' => e = .returned (.bool (p v)) ∧ Ext w' w'') :
  Calls Try.prog 124 [.agg (tmC t y).toArray, .func (.func f) first.toArray caps.toArray].toArray w fun e w' => e = .returned (.bool ((operT t).all p)) ∧ Ext w w' := by
 obtain ⟨ts, hts, harr⟩ := ht.t
 have htl := ht.tl
 have htl2 : t.to_.length = ts.length := by rw [← hts, List.length_map]
 refine enter Try.func124 rfl Try.ntmps124 rfl (Cls.start w) (zen ?_)
 simp only [tmC]
 apply W.sr
 apply OL.box; rfl; rfl; exact CellsL.agg; (intro bk hbk; simp only [AllLe, and_true] at hbk)
 refine zgs ?_
 (((first | (with_reducible apply OL.op) | (with_reducible apply QL.op)); (exact Guard.au); rfl; rfl); (refine Pev.callv (v := .bool (p t.arg)) (first := first) (cap := caps) (vs := [.int .i64 t.arg]) rfl g_c hf (by exact Args.au) (fun hcc w2 hw2 => (hp t.arg ?_ w2 (hw2.toExt (by exact mau) (fun k hk => by exact NotOwned.au))).mono (fun e w3 h => ⟨h.1, hw2.ext h.2⟩))))
 ·unfold operT
  simp at hcc
  rw [if_pos (by omega)]
  exact .head _
 refine zgs ?_
 have hfalse : ∀ v ∈ operT t, p v = false → (operT t).all p = false := fun v hv hpv => List.all_eq_false.2 ⟨v, hv, by simp [hpv]⟩
 refine W.cond rfl (fun h1 => ?_) (fun h1 => ?_)
 ·have hf1 : (operT t).all p = false := by
   simp at h1
   refine hfalse t.arg ?_ h1.2
   unfold operT
   rw [if_pos (by omega)]
   exact .head _
  refine zgs ?_
  (refine zfn ?_; intro w' hw')
  exact ⟨by rw [hf1], by (exact hw'.fr)⟩
 have h0 : ∀ v ∈ (if t.kind = 0 ∨ t.kind = 2 ∨ t.kind = 3 then [t.arg] else []), p v = true := fun v hv => by
  split at hv
  ·obtain rfl : v = t.arg := by simpa using hv
   simp at h1
   exact h1 (by omega) (by omega)
  ·cases hv
 have hmem : ∀ (j : Nat) e, t.to_[j]? = some e → ∀ v ∈ e.args, v ∈ operT t := fun j e he v hv => List.mem_append_right _ (List.mem_flatMap.2 ⟨e, List.mem_of_getElem? he, hv⟩)
 refine zgs ?_
 revert bk
 intro bT hbT
 refine W.loop (G := Nat) (fun j => j ≤ ts.length ∧ ∀ e ∈ t.to_.take j, ∀ v ∈ e.args, p v = true) (fun j => ts.length - j)
  (fun j => [(1, true, .func (.func f) first.toArray caps.toArray), (25, true, .slice y.t.1 ts.length y.t.2), (26, true, .int .i64 (ts.length : Int)), (27, true, .int .i64 (j : Int))])
  (fun _ => Cls [] [w]) 0 ⟨by omega, fun e he => by simp at he⟩ (by rw [htl2]; exact Sub.au) (fun w' hw' => hw'.thin (by exact Thin.au)) ?_
 rintro j ⟨hj, hj0⟩
 refine zgs ?_
 refine W.cnd ?_ ?_ <;> intro hlt <;> try exact zwx hlt
 ·have hjl : j < ts.length := by omega
  obtain ⟨a, u, hqa, hab, hu, hcell, hok⟩ := harr.get hjl
  have hab : a.block < w.heap.size := hab
  have hcell : CellsAt w (a.add (j * 2)) [.int .i64 u.1.block, .slice u.2.1 u.1.args.length u.2.2] := hcell
  have hue : t.to_[j]? = some u.1 := by rw [← hts, List.getElem?_map, hu]; rfl
  have hal := hok.2.1.1
  rw [hqa]
  refine zgs ?_
  apply OL.alloc; rfl; rfl; exact CellsL.agg; (intro bk hbk; simp only [AllLe, and_true] at hbk)
  refine zgs ?_
  revert bk
  intro bE hbE
  refine W.loop (G := Nat) (fun i => i ≤ u.1.args.length ∧ ∀ v ∈ u.1.args.take i, p v = true) (fun i => u.1.args.length - i)
   (fun i => [(1, true, .func (.func f) first.toArray caps.toArray), (25, true, .slice (some a) ts.length y.t.2), (26, true, .int .i64 (ts.length : Int)), (27, true, .int .i64 (j : Int)), (32, true, .slice u.2.1 u.1.args.length u.2.2), (33, true, .int .i64 (u.1.args.length : Int)), (34, true, .int .i64 (i : Int))])
   (fun _ => Cls [] [w]) 0 ⟨by omega, fun e he => by simp at he⟩ (by exact Sub.au) (fun w' hw' => hw'.thin (by exact Thin.au)) ?_
  rintro i ⟨hi, hi0⟩
  refine zgs ?_
  refine W.cnd ?_ ?_ <;> intro hlt2 <;> try exact zwx hlt2
  ·have hil : i < u.1.args.length := by omega
   obtain ⟨av, v, hqv, habv, hv, hcv⟩ := hok.2.2.1.get hil
   have habv : av.block < w.heap.size := habv
   have hvm := hmem j u.1 hue v (List.mem_of_getElem? hv)
   rw [hqv]
   refine zgs ?_
   (((first | (with_reducible apply OL.op) | (with_reducible apply QL.op)); (exact Guard.au); rfl; rfl); (refine Pev.callv (v := .bool (p v)) (first := first) (cap := caps) (vs := [.int .i64 v]) rfl g_c hf (by exact Args.au) (fun hcc w2 hw2 => (hp v hvm w2 (hw2.toExt (by exact mau) (fun k hk => by exact NotOwned.au))).mono (fun e w3 h => ⟨h.1, hw2.ext h.2⟩))))
   refine zgs ?_
   refine W.cond rfl (fun h3 => ?_) (fun h3 => ?_)
   ·have hf2 : (operT t).all p = false := hfalse v hvm (by simpa using h3)
    refine zgs ?_
    (refine zfn ?_; intro w' hw')
    exact ⟨by rw [hf2], by (exact hw'.fr)⟩
   ·have hpv : p v = true := by simpa using h3
    refine zgs ?_
    refine At.again (i + 1) ⟨by omega, fun x hx => ?_⟩ (by omega) (by exact Sub.au) (fun w' hw' => hw')
    rw [List.take_add_one, hv] at hx
    rcases List.mem_append.1 hx with hx | hx
    ·exact hi0 x hx
    ·obtain rfl : x = v := by simpa using hx
     exact hpv
  ·obtain rfl : i = u.1.args.length := by omega
   refine zgs ?_
   refine At.again (j + 1) ⟨by omega, fun e he => ?_⟩ (by omega) (by exact Sub.au) (fun w' hw' => hw'.thin (by exact Thin.au))
   rw [List.take_add_one, hue] at he
   rcases List.mem_append.1 he with he | he
   ·exact hj0 e he
   ·obtain rfl : e = u.1 := by simpa using he
    rw [List.take_length] at hi0
    exact hi0
 ·obtain rfl : j = ts.length := by omega
  have ht2 : (operT t).all p = true := List.all_eq_true.2 fun v hv => by
   unfold operT at hv
   rcases List.mem_append.1 hv with hv | hv
   ·exact h0 v hv
   ·obtain ⟨e, he, hv⟩ := List.mem_flatMap.1 hv
    rw [← htl2, List.take_length] at hj0
    exact hj0 e he v hv
  refine zgs ?_
  (refine zfn ?_; intro w' hw')
  exact ⟨by rw [ht2], by (exact hw'.fr)⟩
end Go.Proofs.Ytehelljmaiophaa.ss

/- The walks of ssa's uses and CheckFunc. Conditions: none. -/
namespace Go.Ss
open Go.Eng Go.RowKit
/-! ### what a shape without fault gives -/
theorem shape_block {bs : List Bk} (h : shapeE bs = 0) {k : Nat} {b : Bk} (hb : bs[k]? = some b) : blockE bs (defsF (bs.take k)) b = 0 := by
 have h1 := firstR_zero.1 h k (List.getElem?_eq_some_iff.1 hb).1
 rwa [List.getD_eq_getElem?_getD, hb] at h1
theorem block_zero {bs : List Bk} {seen : List Int} {b : Bk} (h : blockE bs seen b = 0) : firstR (paramE seen b.params) b.params.length = 0 ∧ firstR (insE (seen ++ b.params) b.ins) b.ins.length = 0 ∧ termE bs b.term = 0 := by
 unfold blockE at h
 split at h
 ·rename_i h1; exact absurd h h1
 ·split at h
  ·rename_i h1 h2; exact absurd h h2
  ·rename_i h1 h2; exact ⟨Classical.not_not.1 h1, Classical.not_not.1 h2, h⟩
theorem term_zero {bs : List Bk} {t : Tm} (h : termE bs t = 0) : shapeT t = true ∧ t.cases.length ≤ 256 ∧ (t.kind = 4 → 1 ≤ t.n ∧ t.n ≤ 6) ∧ firstR (caseE t.cases) t.cases.length = 0 ∧ ∀ e ∈ t.to_, edgeE bs e = 0 := by
 unfold termE at h
 split at h
 ·cases h
 ·rename_i h1
  split at h
  ·cases h
  ·rename_i h2
   split at h
   ·cases h
   ·rename_i h3
    split at h
    ·rename_i h4; exact absurd h h4
    ·rename_i h4
     refine ⟨by simpa using h1, by omega, fun hk => ?_, Classical.not_not.1 h4, firstE_zero.1 h⟩
     apply Classical.byContradiction
     intro hn
     exact h3 ⟨hk, hn⟩
theorem edge_zero {bs : List Bk} {e : Ed} (h : edgeE bs e = 0) : 1 ≤ e.block ∧ e.block < (bs.length : Int) ∧ e.args.length = (bs.getD e.block.toNat noB).params.length := by
 unfold edgeE at h
 split at h
 ·cases h
 ·rename_i h1
  split at h
  ·cases h
  ·rename_i h2
   exact ⟨by omega, by omega, Classical.not_not.1 h2⟩
theorem def_zero {v : Int} {l : List Int} (h : defE v l = 0) : 0 ≤ v ∧ v ≤ 4095 ∧ ¬ v ∈ l := by
 unfold defE at h
 split at h
 ·cases h
 ·rename_i h1
  split at h
  ·cases h
  ·rename_i h2
   exact ⟨by omega, by omega, h2⟩
theorem nodup_more : ∀ {ps seen : List Int}, (∀ (j : Nat) v, ps[j]? = some v → ¬ v ∈ seen ++ ps.take j) → seen.Nodup → (seen ++ ps).Nodup
 | [], seen, _, hs => by simpa using hs
 | p :: ps, seen, h, hs => by
  have h0 := h 0 p rfl
  simp only [List.take_zero, List.append_nil] at h0
  have h1 : (seen ++ [p]).Nodup := by
   rw [List.nodup_append]
   refine ⟨hs, by simp, fun a ha b hb => ?_⟩
   obtain rfl : b = p := by simpa using hb
   rintro rfl
   exact h0 ha
  have h2 := nodup_more (ps := ps) (seen := seen ++ [p]) (fun j v hv hm => h (j + 1) v (by simpa using hv) (by simpa using hm)) h1
  simpa using h2
theorem block_nodup {bs : List Bk} {seen : List Int} {b : Bk} (h : blockE bs seen b = 0) (hs : seen.Nodup) : (seen ++ defsB b).Nodup := by
 obtain ⟨h1, h2, _⟩ := block_zero h
 have h3 : (seen ++ b.params).Nodup := nodup_more (fun j v hv => by
  have h4 := firstR_zero.1 h1 j (List.getElem?_eq_some_iff.1 hv).1
  rw [paramE_at hv] at h4
  exact (def_zero h4).2.2) hs
 have h5 : ((seen ++ b.params) ++ b.ins.map In.to_).Nodup := nodup_more (fun j v hv => by
  rw [List.getElem?_map] at hv
  obtain ⟨i, hi, rfl⟩ := Option.map_eq_some_iff.1 hv
  have h4 := firstR_zero.1 h2 j (List.getElem?_eq_some_iff.1 hi).1
  rw [insE_at hi] at h4
  split at h4
  ·rename_i h6; exact absurd h4 h6
  ·rename_i h6
   rw [← List.map_take]
   exact (def_zero (Classical.not_not.1 h6)).2.2) h3
 unfold defsB
 rwa [← List.append_assoc]
theorem defs_nodup_take {bs : List Bk} (h : shapeE bs = 0) : ∀ k, k ≤ bs.length → (defsF (bs.take k)).Nodup
 | 0, _ => by simp [defsF]
 | k + 1, hk => by
  have hb : bs[k]? = some bs[k] := List.getElem?_eq_getElem (by omega)
  rw [List.take_add_one, hb, Option.toList_some]
  unfold defsF
  rw [List.flatMap_append]
  have h1 := block_nodup (shape_block h hb) (defs_nodup_take h k (by omega))
  simpa [defsF] using h1
theorem defs_nodup {bs : List Bk} (h : shapeE bs = 0) : (defsF bs).Nodup := by
 have := defs_nodup_take h bs.length (Nat.le_refl _)
 rwa [List.take_length] at this
theorem plget_iff {bs : List Bk} (h : shapeE bs = 0) {v : Int} {b a : Nat} : plget (plF bs 0) v = some (b, a) ↔ DefAt bs v b a := by
 constructor
 ·intro hp
  obtain ⟨m, h1, h2⟩ := plF_mem.1 (plget_mem hp)
  obtain rfl : b = m := by omega
  exact h2
 ·intro hd
  exact plget_of (by rw [plF_keys]; exact defs_nodup h) (plF_mem.2 ⟨b, by omega, hd⟩)
theorem shape_edges {bs : List Bk} (h : shapeE bs = 0) : ∀ b ∈ bs, ∀ e ∈ b.term.to_, 1 ≤ e.block ∧ e.block < (bs.length : Int) := fun b hb e he => by
 obtain ⟨k, hk⟩ := List.getElem?_of_mem hb
 have h1 := edge_zero ((term_zero (block_zero (shape_block h hk)).2.2).2.2.2.2 e he)
 exact ⟨h1.1, h1.2.1⟩
theorem shape_kind {t : Tm} (h : shapeT t = true) : 0 ≤ t.kind ∧ t.kind ≤ 4 := by
 unfold shapeT at h
 split at h
 ·omega
 ·split at h
  ·omega
  ·split at h
   ·omega
   ·split at h
    ·omega
    ·split at h
     ·omega
     ·cases h
/-! ### uses -/
theorem fineB_iff {bs : List Bk} (h : shapeE bs = 0) {O : List BS} {S : BS} (hd : DI (graphB bs) O S) (hf : DFix (graphB bs) O S) {k at_ : Nat} (hk : k < bs.length) {v : Int} : fineB (plF bs 0) O S k at_ v = true ↔ Fine bs v k at_ := by
 have hgl : (graphB bs).length = bs.length := by simp [graphB]
 have hseen := hd.seen hf (b := k) (by omega)
 have hOk : O[k]? = some (O.getD k (0, 0)) := by
  have : k < O.length := by rw [hd.len]; omega
  rw [List.getD_eq_getElem?_getD, List.getElem?_eq_getElem this]
  rfl
 have key : ∀ b a, b < bs.length → (((decide (b = k) && decide (a ≤ at_)) || (decide (b ≠ k) && hasS (O.getD k (0, 0)) b) || !hasS S k) = true ↔ ((b = k ∧ a ≤ at_) ∨ (b ≠ k ∧ Ovr (graphB bs) b k) ∨ ¬ Rc (graphB bs) (-1) k)) := fun b a hb => by
  by_cases hr : Rc (graphB bs) (-1) k
  ·have ho := hd.over hf (a := b) (b := k) (by omega) hOk hr
   rw [hseen.2 hr]
   simp only [Bool.or_eq_true, Bool.and_eq_true, decide_eq_true_eq, Bool.not_true, Bool.false_eq_true, or_false, ho]
   constructor
   ·rintro (h | h)
    ·exact .inl h
    ·exact .inr (.inl h)
   ·rintro (h | h | h)
    ·exact .inl h
    ·exact .inr h
    ·exact absurd hr h
  ·have : hasS S k = false := by
    cases hh : hasS S k with
    | false => rfl
    | true => exact absurd (hseen.1 hh) hr
   rw [this]
   simp [hr]
 unfold fineB
 cases hp : plget (plF bs 0) v with
 | none =>
  simp only [Bool.false_eq_true, false_iff]
  rintro ⟨b, a, h1, _⟩
  rw [(plget_iff h).2 h1] at hp
  cases hp
 | some p =>
  obtain ⟨b, a⟩ := p
  have h1 := (plget_iff h).1 hp
  have hb : b < bs.length := by obtain ⟨x, hx, _⟩ := h1; exact (List.getElem?_eq_some_iff.1 hx).1
  simp only
  rw [key b a hb]
  constructor
  ·intro h2; exact ⟨b, a, h1, h2⟩
  ·rintro ⟨b', a', h3, h4⟩
   have h5 := (plget_iff h).2 h3
   rw [hp] at h5
   obtain ⟨rfl, rfl⟩ := Prod.mk.inj (Option.some.inj h5)
   exact h4
def UsesW (g : Nat → Nat → Int → Bool) (k : Nat) (b : Bk) : Prop := (∀ (n : Nat) i, b.ins[n]? = some i → ∀ v ∈ i.args, g k n v = true) ∧ ∀ v ∈ operT b.term, g k b.ins.length v = true
end Go.Ss
namespace Go.Proofs.Ytehelljmaiophaa.ss
set_option maxRecDepth 100000
open Go.Eng Go.RowKit Go.Ss
theorem uses_calls (s0 : World) (bc bm : Nat) (nm : Int) (es : List (Bk × BkY)) (q : Option Addr) (cap : Nat) (he : Arr bkR s0 (low s0) es q) (h0 : 0 < es.length) (hlen : es.length ≤ 128) (hsh : shapeE (es.map Prod.fst) = 0) (H : List Eng.Item) (w : World) (hno : ∀ k, k < s0.heap.size → NotOwned H k) (hbc : s0.heap.size ≤ bc) (hbm : s0.heap.size ≤ bm)
  (hc : Cls (blk bc 124 [.int .i64 nm, .slice q es.length cap, .map (some bm)] :: mapI bm (plM (plF (es.map Prod.fst) 0)) :: H) [s0] w) :
  Calls Try.prog 80 [.pointer (some ⟨bc, 0, none⟩)].toArray w fun e w' => ∃ r : Int, e = .returned (.int .i64 r) ∧ (r = 0 ∨ r = 6) ∧ (r = 0 ↔ ∀ (k : Nat) b, (es.map Prod.fst)[k]? = some b → UsesB (es.map Prod.fst) k b) ∧ Cls H [s0] w' := by
 obtain ⟨bs, hbs⟩ : ∃ bs, es.map Prod.fst = bs := ⟨_, rfl⟩
 have hbl : bs.length = es.length := by rw [← hbs, List.length_map]
 rw [hbs] at hc hsh ⊢
 have hgl : (graphB bs).length = es.length := by simp [graphB, hbl]
 obtain ⟨X, hX, hc⟩ := hc.mapX_of (p := 1) Hole.au
 refine enter Try.func80 rfl Try.ntmps80 rfl hc (zen ?_)
 apply W.sr
 apply OL.box; rfl; rfl; exact CellsL.one rfl; (intro bk hbk; simp only [AllLe, and_true] at hbk)
 refine zgs ?_
 revert bk
 intro bp hbp
 have hbp1 : s0.heap.size ≤ bp := by first | exact hbp | exact hbp.1
 refine OL.callE (α := Nat × List BS × BS) (fun z => .tuple #[.slice (some ⟨z.1, 0, none⟩) es.length es.length, .agg (setC z.2.2).toArray]) (fun z => s0.heap.size ≤ z.1 ∧ DI (graphB bs) z.2.1 z.2.2 ∧ DFix (graphB bs) z.2.1 z.2.2) (fun z => Cls (blk z.1 174 (cat setC z.2.1) :: blk bp 121 [.pointer (some ⟨bc, 0, none⟩)] :: blk bc 124 [.int .i64 nm, .slice q es.length cap, .map (some bm)] :: mapX bm X.1 X.2 :: H) [s0]) rfl rfl (by exact Args.au) (fun w2 hw2 => (dominators_calls es q cap nm w2 (he.at hw2 (by exact mau) (fun k hk => by exact NotOwned.au)) h0 hlen (fun p hp e hpe => by rw [← hbl]; exact shape_edges hsh p.1 (by rw [← hbs]; exact List.mem_map_of_mem hp) e hpe)).mono fun e w3 ⟨bO, O, S, h1, h2, h3, h4, h5, h6⟩ => ⟨(bO, O, S), h1, ⟨Nat.le_trans (hw2.kp s0 (by exact mau)).size h5, by rw [hbs] at h3; exact h3, by rw [hbs] at h4; exact h4⟩, hw2.add h2 _ h6 (fun k hk => by rw [show k = bO from hk]; exact ⟨h5, blk_lt h6⟩)⟩) ?_
 rintro ⟨bO, O, S⟩ ⟨hbO, hd, hf⟩
 simp only at hbO hd hf ⊢
 refine zgs ?_
 apply OL.alloc; rfl; rfl; exact CellsL.one rfl; (intro bk hbk; simp only [AllLe, and_true] at hbk)
 apply OL.alloc; rfl; rfl; exact CellsL.agg; (intro bk hbk; simp only [AllLe, and_true] at hbk)
 refine zgs ?_
 rename_i bo hbo
 revert bk
 intro bs_ hbs_
 have hbo1 : s0.heap.size ≤ bo := by first | exact hbo | exact hbo.1
 have hbs1 : s0.heap.size ≤ bs_ := by first | exact hbs_ | exact hbs_.1
 have hOl : O.length = es.length := by rw [hd.len, hgl]
 have hpb : ∀ v b a, plget (plF bs 0) v = some (b, a) → b < O.length := fun v b a hp => by
  obtain ⟨x, hx, _⟩ := (plget_iff hsh).1 hp
  have := (List.getElem?_eq_some_iff.1 hx).1
  omega
 obtain ⟨g, hg⟩ : ∃ g, fineB (plF bs 0) O S = g := ⟨_, rfl⟩
 have hfin : ∀ (k : Nat) b, bs[k]? = some b → (UsesB bs k b ↔ UsesW g k b) := fun k b hb => by
  have hk : k < bs.length := (List.getElem?_eq_some_iff.1 hb).1
  unfold UsesB UsesW
  rw [← hg]
  constructor
  ·rintro ⟨h1, h2⟩
   exact ⟨fun n i hi v hv => (fineB_iff hsh hd hf hk).2 (h1 n i hi v hv), fun v hv => (fineB_iff hsh hd hf hk).2 (h2 v hv)⟩
  ·rintro ⟨h1, h2⟩
   exact ⟨fun n i hi v hv => (fineB_iff hsh hd hf hk).1 (h1 n i hi v hv), fun v hv => (fineB_iff hsh hd hf hk).1 (h2 v hv)⟩
 have hbad : ∀ (k : Nat) b, bs[k]? = some b → ¬ UsesW g k b → ((6 : Int) = 0 ↔ ∀ (k : Nat) b, bs[k]? = some b → UsesB bs k b) := fun k b hb hn => ⟨fun h => by omega, fun h => absurd ((hfin k b hb).1 (h k b hb)) hn⟩
 refine W.loop (G := Nat) (fun k => k ≤ es.length ∧ ∀ (k' : Nat) b, k' < k → bs[k']? = some b → UsesW g k' b) (fun k => es.length - k)
  (fun k => [(1, true, .pointer (some ⟨bp, 0, none⟩)), (3, true, .pointer (some ⟨bo, 0, none⟩)), (4, true, .pointer (some ⟨bs_, 0, none⟩)), (25, true, .slice q es.length cap), (26, true, .int .i64 (es.length : Int)), (27, true, .int .i64 (k : Int))])
  (fun _ => Cls (blk bs_ 174 (setC S) :: blk bo 171 [.slice (some ⟨bO, 0, none⟩) es.length es.length] :: blk bO 174 (cat setC O) :: blk bp 121 [.pointer (some ⟨bc, 0, none⟩)] :: blk bc 124 [.int .i64 nm, .slice q es.length cap, .map (some bm)] :: mapX bm X.1 X.2 :: H) [s0]) 0 ⟨by omega, fun k' b h => by omega⟩ (by exact Sub.au) (fun w' hw' => hw') ?_
 rintro k ⟨hk, hk0⟩
 refine zgs ?_
 refine W.cnd ?_ ?_ <;> intro hlt <;> try exact zwx hlt
 ·have hkl : k < es.length := by omega
  obtain ⟨a, p, hqa, hab, hp, hcell, hok⟩ := he.get hkl
  have hab : a.block < s0.heap.size := hab
  have hcell : CellsAt s0 (a.add (k * 7)) [.slice p.2.p.1 p.1.params.length p.2.p.2, .slice p.2.i.1 p.1.ins.length p.2.i.2, .int .i64 p.1.term.kind, .int .i64 p.1.term.arg, .int .i64 p.1.term.n, .slice p.2.t.c.1 p.1.term.cases.length p.2.t.c.2, .slice p.2.t.t.1 p.1.term.to_.length p.2.t.t.2] := hcell
  have hbsk : bs[k]? = some p.1 := by rw [← hbs, List.getElem?_map, hp]; rfl
  have hil := hok.il
  obtain ⟨pi, hpi, hiarr⟩ := hok.i
  have hpil : p.1.ins.length = pi.length := by rw [← hpi, List.length_map]
  have hkind := shape_kind (term_zero (block_zero (shape_block hsh hbsk)).2.2).1
  subst hqa
  refine zgs ?_
  apply OL.alloc; rfl; rfl; exact CellsL.one rfl; (intro bk hbk; simp only [AllLe, and_true] at hbk)
  apply OL.alloc; rfl; rfl; exact CellsL.agg; (intro bk hbk; simp only [AllLe, and_true] at hbk)
  refine zgs ?_
  apply OL.alloc; rfl; rfl; exact CellsL.one rfl; (intro bk hbk; simp only [AllLe, and_true] at hbk)
  refine zgs ?_
  rename_i b5 hb5 b6 hb6
  revert bk
  intro b7 hb7
  have hb51 : s0.heap.size ≤ b5 := by first | exact hb5 | exact hb5.1
  have hb61 : s0.heap.size ≤ b6 := by first | exact hb6 | exact hb6.1
  have hb71 : s0.heap.size ≤ b7 := by first | exact hb7 | exact hb7.1
  refine W.loop (G := Nat × Int) (fun z => z.1 ≤ p.1.ins.length ∧ ∀ (n : Nat) i, n < z.1 → p.1.ins[n]? = some i → ∀ v ∈ i.args, g k n v = true) (fun z => p.1.ins.length - z.1)
   (fun z => [(1, true, .pointer (some ⟨bp, 0, none⟩)), (3, true, .pointer (some ⟨bo, 0, none⟩)), (4, true, .pointer (some ⟨bs_, 0, none⟩)), (6, true, .pointer (some ⟨b6, 0, none⟩)), (7, true, .pointer (some ⟨b7, 0, none⟩)), (8, true, .func (.func 122) ([] : List Value).toArray [.pointer (some ⟨bp, 0, none⟩), .pointer (some ⟨b5, 0, none⟩), .pointer (some ⟨b7, 0, none⟩), .pointer (some ⟨bo, 0, none⟩), .pointer (some ⟨bs_, 0, none⟩)].toArray), (25, true, .slice (some a) es.length cap), (26, true, .int .i64 (es.length : Int)), (27, true, .int .i64 (k : Int)), (34, true, .slice p.2.i.1 p.1.ins.length p.2.i.2), (35, true, .int .i64 (p.1.ins.length : Int)), (36, true, .int .i64 (z.1 : Int))])
   (fun z => Cls (blk b7 3 [.int .i64 z.2] :: blk b6 41 [.slice p.2.p.1 p.1.params.length p.2.p.2, .slice p.2.i.1 p.1.ins.length p.2.i.2, .int .i64 p.1.term.kind, .int .i64 p.1.term.arg, .int .i64 p.1.term.n, .slice p.2.t.c.1 p.1.term.cases.length p.2.t.c.2, .slice p.2.t.t.1 p.1.term.to_.length p.2.t.t.2] :: blk b5 3 [.int .i64 (k : Int)] :: blk bs_ 174 (setC S) :: blk bo 171 [.slice (some ⟨bO, 0, none⟩) es.length es.length] :: blk bO 174 (cat setC O) :: blk bp 121 [.pointer (some ⟨bc, 0, none⟩)] :: blk bc 124 [.int .i64 nm, .slice (some a) es.length cap, .map (some bm)] :: mapX bm X.1 X.2 :: H) [s0]) (0, 0) ⟨by omega, fun n i h => by omega⟩ (by exact Sub.au) (fun w' hw' => hw') ?_
  rintro ⟨n, z⟩ ⟨hn, hn0⟩
  simp only at hn hn0 ⊢
  refine zgs ?_
  refine W.cnd ?_ ?_ <;> intro hlt2 <;> try exact zwx hlt2
  ·have hnl : n < p.1.ins.length := by omega
   obtain ⟨ai, u, hqi, haib, hu, hcu, hoku⟩ := hiarr.get (show n < pi.length by omega)
   have haib : ai.block < s0.heap.size := haib
   have hcu : CellsAt s0 (ai.add (n * 4)) [.int .i64 u.1.to_, .int .i64 u.1.op, .int .i64 u.1.n, .slice u.2.1 u.1.args.length u.2.2] := hcu
   have hui : p.1.ins[n]? = some u.1 := by rw [← hpi, List.getElem?_map, hu]; rfl
   have hual := hoku.al
   rw [hqi]
   refine zgs ?_
   apply OL.alloc; rfl; rfl; exact CellsL.agg; (intro bk hbk; simp only [AllLe, and_true] at hbk)
   refine zgs ?_
   revert bk
   intro b10 hb10
   have hb101 : s0.heap.size ≤ b10 := by first | exact hb10 | exact hb10.1
   refine W.loop (G := Nat) (fun i => i ≤ u.1.args.length ∧ ∀ (m : Nat) v, m < i → u.1.args[m]? = some v → g k n v = true) (fun i => u.1.args.length - i)
    (fun i => [(1, true, .pointer (some ⟨bp, 0, none⟩)), (3, true, .pointer (some ⟨bo, 0, none⟩)), (4, true, .pointer (some ⟨bs_, 0, none⟩)), (6, true, .pointer (some ⟨b6, 0, none⟩)), (7, true, .pointer (some ⟨b7, 0, none⟩)), (8, true, .func (.func 122) ([] : List Value).toArray [.pointer (some ⟨bp, 0, none⟩), .pointer (some ⟨b5, 0, none⟩), .pointer (some ⟨b7, 0, none⟩), .pointer (some ⟨bo, 0, none⟩), .pointer (some ⟨bs_, 0, none⟩)].toArray), (25, true, .slice (some a) es.length cap), (26, true, .int .i64 (es.length : Int)), (27, true, .int .i64 (k : Int)), (34, true, .slice (some ai) p.1.ins.length p.2.i.2), (35, true, .int .i64 (p.1.ins.length : Int)), (36, true, .int .i64 (n : Int)), (43, true, .slice u.2.1 u.1.args.length u.2.2), (44, true, .int .i64 (u.1.args.length : Int)), (45, true, .int .i64 (i : Int))])
    (fun i => Cls (blk b7 3 [.int .i64 (n : Int)] :: blk b6 41 [.slice p.2.p.1 p.1.params.length p.2.p.2, .slice (some ai) p.1.ins.length p.2.i.2, .int .i64 p.1.term.kind, .int .i64 p.1.term.arg, .int .i64 p.1.term.n, .slice p.2.t.c.1 p.1.term.cases.length p.2.t.c.2, .slice p.2.t.t.1 p.1.term.to_.length p.2.t.t.2] :: blk b5 3 [.int .i64 (k : Int)] :: blk bs_ 174 (setC S) :: blk bo 171 [.slice (some ⟨bO, 0, none⟩) es.length es.length] :: blk bO 174 (cat setC O) :: blk bp 121 [.pointer (some ⟨bc, 0, none⟩)] :: blk bc 124 [.int .i64 nm, .slice (some a) es.length cap, .map (some bm)] :: mapX bm X.1 X.2 :: H) [s0]) 0 ⟨by omega, fun m v h => by omega⟩ (by exact Sub.au) (fun w' hw' => hw'.thin (.any (fun k hk => by rw [show k = b10 from hk]; exact ⟨hb101, trivial⟩) Thin.same)) ?_
   rintro i ⟨hi, hi0⟩
   refine zgs ?_
   refine W.cnd ?_ ?_ <;> intro hlt3 <;> try exact zwx hlt3
   ·have hil2 : i < u.1.args.length := by omega
    obtain ⟨av, v, hqv, habv, hv, hcv⟩ := hoku.a.get hil2
    have habv : av.block < s0.heap.size := habv
    rw [hqv]
    refine zgs ?_
    (((first | apply OL.op | apply QL.op); exact Guard.au; rfl; rfl); (exact Pev.callv (v := .bool (g k n v)) (first := []) (cap := [.pointer (some ⟨bp, 0, none⟩), .pointer (some ⟨b5, 0, none⟩), .pointer (some ⟨b7, 0, none⟩), .pointer (some ⟨bo, 0, none⟩), .pointer (some ⟨bs_, 0, none⟩)]) (vs := [.int .i64 v]) rfl g_c rfl (by exact Args.au) (fun _ w2 hw2 => (fine_calls bp bc bm b5 b7 bo bs_ bO es.length nm (some a) es.length cap X.1 X.2 (plF bs 0) O S k n v w2 hX hOl (by omega) hd.ok hd.sok (by omega) (hpb v) (Cls.only hw2 (.cons_cons _ (.cons _ (.cons_cons _ (.cons_cons _ (.cons_cons _ (.cons_cons _ (.cons_cons _ (.cons_cons _ (.cons_cons _ (List.nil_sublist _)))))))))))).mono (fun e w3 h => ⟨by rw [h.1, hg], hw2.ext h.2⟩))))
    refine zgs ?_
    refine W.cond rfl (fun h3 => ?_) (fun h3 => ?_)
    ·have hfa : g k n v = false := by simpa using h3
     refine zgs ?_
     (refine zfn ?_; intro w' hw')
     exact ⟨6, rfl, .inr rfl, hbad k p.1 hbsk (fun hh => by have := hh.1 n u.1 hui v (List.mem_of_getElem? hv); rw [this] at hfa; cases hfa), hw'.thin (.any (fun k hk => by rw [show k = b7 from hk]; exact ⟨hb71, trivial⟩) (.any (fun k hk => by rw [show k = b6 from hk]; exact ⟨hb61, trivial⟩) (.any (fun k hk => by rw [show k = b5 from hk]; exact ⟨hb51, trivial⟩) (.any (fun k hk => by rw [show k = bs_ from hk]; exact ⟨hbs1, trivial⟩) (.any (fun k hk => by rw [show k = bo from hk]; exact ⟨hbo1, trivial⟩) (.any (fun k hk => by rw [show k = bO from hk]; exact ⟨hbO, trivial⟩) (.any (fun k hk => by rw [show k = bp from hk]; exact ⟨hbp1, trivial⟩) (.any (fun k hk => by rw [show k = bc from hk]; exact ⟨hbc, trivial⟩) (.any (fun k hk => by rw [show k = bm from hk]; exact ⟨hbm, trivial⟩) Thin.same)))))))))⟩
    ·have htr : g k n v = true := by simpa using h3
     refine zgs ?_
     refine At.again (i + 1) ⟨by omega, fun m v' hm hv' => ?_⟩ (by omega) (by exact Sub.au) (fun w' hw' => hw')
     by_cases em : m = i
     ·subst em
      rw [hv] at hv'
      obtain rfl := Option.some.inj hv'
      exact htr
     ·exact hi0 m v' (by omega) hv'
   ·obtain rfl : i = u.1.args.length := by omega
    refine zgs ?_
    refine At.again (n + 1, (n : Int)) ⟨by simp only; omega, fun m i' hm hi' v hv => ?_⟩ (by simp only; omega) (by exact Sub.au) (fun w' hw' => hw')
    simp only at hm
    by_cases em : m = n
    ·subst em
     rw [hui] at hi'
     obtain rfl := Option.some.inj hi'
     obtain ⟨m2, hm2⟩ := List.getElem?_of_mem hv
     exact hi0 m2 v (List.getElem?_eq_some_iff.1 hm2).1 hm2
    ·exact hn0 m i' (by omega) hi' v hv
  ·obtain rfl : n = p.1.ins.length := by omega
   refine zgs ?_
   (((first | apply OL.op | apply QL.op); exact Guard.au; rfl; rfl); (exact Pev.call (v := .bool ((operT p.1.term).all (g k p.1.ins.length))) rfl (by exact Args.au) (fun _ w2 hw2 => (used_calls p.1.term p.2.t 122 [] [.pointer (some ⟨bp, 0, none⟩), .pointer (some ⟨b5, 0, none⟩), .pointer (some ⟨b7, 0, none⟩), .pointer (some ⟨bo, 0, none⟩), .pointer (some ⟨bs_, 0, none⟩)] (g k p.1.ins.length) w2 (TmOk.at hok.t hw2 (by exact mau) (fun k hk => by exact NotOwned.au)) hkind rfl (fun v hv w9 hx9 => (fine_calls bp bc bm b5 b7 bo bs_ bO es.length nm (some a) es.length cap X.1 X.2 (plF bs 0) O S k p.1.ins.length v w9 hX hOl (by omega) hd.ok hd.sok (by omega) (hpb v) (Cls.only (hw2.ext hx9) (.cons_cons _ (.cons _ (.cons_cons _ (.cons_cons _ (.cons_cons _ (.cons_cons _ (.cons_cons _ (.cons_cons _ (.cons_cons _ (List.nil_sublist _)))))))))))).mono (fun e w3 h => ⟨by rw [h.1, hg], h.2⟩))).mono (fun e w3 h => ⟨h.1, hw2.ext h.2⟩))))
   refine zgs ?_
   refine W.cond rfl (fun h3 => ?_) (fun h3 => ?_)
   ·have hfa : (operT p.1.term).all (g k p.1.ins.length) = false := by simpa using h3
    refine zgs ?_
    (refine zfn ?_; intro w' hw')
    exact ⟨6, rfl, .inr rfl, hbad k p.1 hbsk (fun hh => by have := List.all_eq_true.2 hh.2; rw [this] at hfa; cases hfa), hw'.thin (.any (fun k hk => by rw [show k = b7 from hk]; exact ⟨hb71, trivial⟩) (.any (fun k hk => by rw [show k = b6 from hk]; exact ⟨hb61, trivial⟩) (.any (fun k hk => by rw [show k = b5 from hk]; exact ⟨hb51, trivial⟩) (.any (fun k hk => by rw [show k = bs_ from hk]; exact ⟨hbs1, trivial⟩) (.any (fun k hk => by rw [show k = bo from hk]; exact ⟨hbo1, trivial⟩) (.any (fun k hk => by rw [show k = bO from hk]; exact ⟨hbO, trivial⟩) (.any (fun k hk => by rw [show k = bp from hk]; exact ⟨hbp1, trivial⟩) (.any (fun k hk => by rw [show k = bc from hk]; exact ⟨hbc, trivial⟩) (.any (fun k hk => by rw [show k = bm from hk]; exact ⟨hbm, trivial⟩) Thin.same)))))))))⟩
   ·have htr : (operT p.1.term).all (g k p.1.ins.length) = true := by simpa using h3
    refine zgs ?_
    refine At.again (k + 1) ⟨by omega, fun k' b hk' hb' => ?_⟩ (by omega) (by exact Sub.au) (fun w' hw' => hw'.thin (.any (fun k hk => by rw [show k = b7 from hk]; exact ⟨hb71, trivial⟩) (.any (fun k hk => by rw [show k = b6 from hk]; exact ⟨hb61, trivial⟩) (.any (fun k hk => by rw [show k = b5 from hk]; exact ⟨hb51, trivial⟩) Thin.same))))
    by_cases em : k' = k
    ·subst em
     rw [hbsk] at hb'
     obtain rfl := Option.some.inj hb'
     exact ⟨fun n i hi v hv => hn0 n i (List.getElem?_eq_some_iff.1 hi).1 hi v hv, List.all_eq_true.1 htr⟩
    ·exact hk0 k' b (by omega) hb'
 ·obtain rfl : k = es.length := by omega
  refine zgs ?_
  (refine zfn ?_; intro w' hw')
  exact ⟨0, rfl, .inl rfl, ⟨fun _ k b hb => (hfin k b hb).2 (hk0 k b (by have := (List.getElem?_eq_some_iff.1 hb).1; omega) hb), fun _ => rfl⟩, hw'.thin (.any (fun k hk => by rw [show k = bs_ from hk]; exact ⟨hbs1, trivial⟩) (.any (fun k hk => by rw [show k = bo from hk]; exact ⟨hbo1, trivial⟩) (.any (fun k hk => by rw [show k = bO from hk]; exact ⟨hbO, trivial⟩) (.any (fun k hk => by rw [show k = bp from hk]; exact ⟨hbp1, trivial⟩) (.any (fun k hk => by rw [show k = bc from hk]; exact ⟨hbc, trivial⟩) (.any (fun k hk => by rw [show k = bm from hk]; exact ⟨hbm, trivial⟩) Thin.same))))))⟩
theorem CheckFunc_calls (fn : Go.Ss.Fn) (y : FnY) (w : World) (hfn : FnOk w (low w) fn y) :
  Calls Try.prog 30 [.agg (fnC fn y).toArray].toArray w fun e w' => e = .returned (.int .i64 (funcE fn)) ∧ Ext w w' := by
 obtain ⟨es, hes, he⟩ := hfn.b
 obtain ⟨nm, bs⟩ := fn
 obtain ⟨q, cap⟩ := y
 have hbl := hfn.bl
 simp only at hes he hbl
 have hbl2 : bs.length = es.length := by rw [← hes, List.length_map]
 refine enter Try.func30 rfl Try.ntmps30 rfl (Cls.start w) (zen ?_)
 simp only [fnC]
 rw [hbl2]
 apply W.sr
 apply OL.box; rfl; rfl; exact CellsL.agg; (intro bk hbk; simp only [AllLe, and_true] at hbk)
 refine zgs ?_
 revert bk
 intro bF hbF
 have hbF1 : w.heap.size ≤ bF := by first | exact hbF | exact hbF.1
 refine W.loop (G := Nat × Int) (fun z => z.1 ≤ es.length ∧ (es.length ≤ 128 → z.2 = (insAll (bs.take z.1) : Int)) ∧ insAll (bs.take z.1) ≤ z.1 * 140737488355328) (fun z => es.length - z.1)
  (fun z => [(1, true, .pointer (some ⟨bF, 0, none⟩)), (3, true, .int .i64 z.2), (10, true, .slice q es.length cap), (11, true, .int .i64 (es.length : Int)), (12, true, .int .i64 (z.1 : Int))])
  (fun _ => Cls [blk bF 24 [.int .i64 nm, .slice q es.length cap]] [w]) (0, 0) ⟨by simp, fun _ => by simp [insAll], by simp [insAll]⟩ (by exact Sub.au) (fun w' hw' => hw') ?_
 rintro ⟨k, z⟩ ⟨hk, hz, hz2⟩
 simp only at hk hz hz2 ⊢
 refine zgs ?_
 refine W.cnd ?_ ?_ <;> intro hlt <;> try exact zwx hlt
 ·have hkl : k < es.length := by omega
  obtain ⟨a, p, hqa, hab, hp, hcell, hok⟩ := he.get hkl
  have hab : a.block < w.heap.size := hab
  have hcell : CellsAt w (a.add (k * 7)) [.slice p.2.p.1 p.1.params.length p.2.p.2, .slice p.2.i.1 p.1.ins.length p.2.i.2, .int .i64 p.1.term.kind, .int .i64 p.1.term.arg, .int .i64 p.1.term.n, .slice p.2.t.c.1 p.1.term.cases.length p.2.t.c.2, .slice p.2.t.t.1 p.1.term.to_.length p.2.t.t.2] := hcell
  have hbsk : bs[k]? = some p.1 := by rw [← hes, List.getElem?_map, hp]; rfl
  have hil := hok.il
  have hins : insAll (bs.take (k + 1)) = insAll (bs.take k) + p.1.ins.length := by
   unfold insAll
   rw [List.take_add_one, hbsk]
   simp
  rw [hqa]
  refine zgs ?_
  apply OL.alloc; rfl; rfl; exact CellsL.agg; (intro bk hbk; simp only [AllLe, and_true] at hbk)
  refine zgs ?_
  have hle : es.length ≤ 128 → IntKind.i64.wrap (z + (p.1.ins.length : Int)) = ((insAll (bs.take (k + 1)) : Nat) : Int) := fun h => by
   have h1 := hz h
   rw [IntWalk.i64_in _ (by rw [h1]; omega), h1, hins]
   omega
  refine At.again (k + 1, IntKind.i64.wrap (z + (p.1.ins.length : Int))) ⟨by simp only; omega, hle, by rw [hins]; simp only; omega⟩ (by simp only; omega) (by exact Sub.au) (fun w' hw' => hw'.thin (by exact Thin.au))
 obtain rfl : k = es.length := by omega
 rw [← hbl2, List.take_length] at hz hz2
 refine zgs ?_
 refine W.cnd ?_ ?_ <;> intro h1 <;> try exact zwx h1
 ·have hF : funcE ⟨nm, bs⟩ = 3 := by
   unfold funcE
   rw [if_pos (by simp only; omega)]
  refine zgs ?_
  (refine zfn ?_; intro w' hw')
  rw [hF]
  exact ⟨rfl, by (exact hw'.fr)⟩
 obtain ⟨a, p, hqa, hab, hp, hcell, hok⟩ := he.get (show 0 < es.length by omega)
 have hab : a.block < w.heap.size := hab
 have hcell : CellsAt w (a.add (0 * 7)) [.slice p.2.p.1 p.1.params.length p.2.p.2, .slice p.2.i.1 p.1.ins.length p.2.i.2, .int .i64 p.1.term.kind, .int .i64 p.1.term.arg, .int .i64 p.1.term.n, .slice p.2.t.c.1 p.1.term.cases.length p.2.t.c.2, .slice p.2.t.t.1 p.1.term.to_.length p.2.t.t.2] := hcell
 have hg0 : bs.getD 0 noB = p.1 := by rw [List.getD_eq_getElem?_getD, ← hes, List.getElem?_map, hp]; rfl
 have hqe : q = some a := hqa
 rw [hqa]
 refine zgs ?_
 refine W.cond rfl (fun h2 => ?_) (fun h2 => ?_)
 ·have hF : funcE ⟨nm, bs⟩ = 2 := by
   unfold funcE
   rw [if_neg (by simp only; omega), if_pos ?_]
   simp only
   rw [hg0]
   simp at h2
   by_cases h3 : 128 < es.length
   ·exact .inl (by omega)
   ·have := hz (by omega)
    right
    rcases h2 with (h2 | h2) | h2
    ·omega
    ·left; omega
    ·right; omega
  refine zgs ?_
  (refine zfn ?_; intro w' hw')
  rw [hF]
  exact ⟨rfl, by (exact hw'.fr)⟩
 have h3 : es.length ≤ 128 := by simp at h2; omega
 have h2' : ¬ (128 < bs.length ∨ 1024 < insAll bs ∨ 6 < (bs.getD 0 noB).params.length) := by
  have := hz (by omega)
  rw [hg0]
  simp at h2
  omega
 refine zgs ?_
 (((first | apply OL.op | apply QL.op); exact Guard.au; rfl; rfl); (exact Pev.call (v := .bool (decide (-1 ≤ nm) && decide (nm ≤ 1048575))) rfl (by exact Args.au) (fun _ w2 hw2 => (within_calls nm (-1) 1048575 w2).mono (fun e w3 h => ⟨h.1, hw2.ext h.2⟩))))
 refine zgs ?_
 refine W.cond rfl (fun h4 => ?_) (fun h4 => ?_)
 ·have hF : funcE ⟨nm, bs⟩ = 4 := by
   unfold funcE
   rw [if_neg (by simp only; omega), if_neg h2', if_pos (by simp at h4; simp only; omega)]
  refine zgs ?_
  (refine zfn ?_; intro w' hw')
  rw [hF]
  exact ⟨rfl, by (exact hw'.fr)⟩
 have hF : (¬ shapeE bs = 0 → funcE ⟨nm, bs⟩ = shapeE bs) ∧ (shapeE bs = 0 → ∀ r : Int, (r = 0 ∨ r = 6) → (r = 0 ↔ ∀ (k : Nat) b, bs[k]? = some b → UsesB bs k b) → r = funcE ⟨nm, bs⟩) := by
  constructor
  ·intro h5
   unfold funcE
   rw [if_neg (by simp only; omega), if_neg h2', if_neg (by simp at h4; simp only; omega), if_pos h5]
  ·intro h5 r hr hi
   unfold funcE
   rw [if_neg (by simp only; omega), if_neg h2', if_neg (by simp at h4; simp only; omega), if_neg (fun h => h h5)]
   split
   ·rename_i h6; exact hi.2 h6
   ·rename_i h6
    rcases hr with hr | hr
    ·exact absurd (hi.1 hr) h6
    ·exact hr
 refine zgs ?_
 apply OL.imakeMap; rfl; rfl; (intro bk hbk; simp only [AllLe, and_true] at hbk)
 refine zgs ?_
 apply OL.box; rfl; rfl; exact CellsL.agg; (intro bk hbk; simp only [AllLe, and_true] at hbk)
 refine zgs ?_
 rename_i bm hbm0
 revert bk
 intro bc hbc0
 have hbm1 : w.heap.size ≤ bm := by first | exact hbm0 | exact hbm0.1
 have hbc1 : w.heap.size ≤ bc := by first | exact hbc0 | exact hbc0.1
 rw [hqe] at he
 have hsz : ∀ k, firstR (fun k => blockE bs (defsF (bs.take k)) (bs.getD k noB)) k = 0 → blockE bs (defsF (bs.take k)) (bs.getD k noB) ≠ 0 → k < bs.length → shapeE bs = blockE bs (defsF (bs.take k)) (bs.getD k noB) := fun k h5 h6 h7 => by
  unfold shapeE
  exact firstR_at (g := fun k => blockE bs (defsF (bs.take k)) (bs.getD k noB)) h7 h5 h6
 refine W.loop (G := Nat) (fun k => k ≤ es.length ∧ firstR (fun k => blockE bs (defsF (bs.take k)) (bs.getD k noB)) k = 0) (fun k => es.length - k)
  (fun k => [(6, true, .pointer (some ⟨bc, 0, none⟩)), (56, true, .int .i64 (es.length : Int)), (57, true, .int .i64 (k : Int))])
  (fun k => Cls [blk bc 124 [.int .i64 nm, .slice (some a) es.length cap, .map (some bm)], mapI bm (plM (plF (bs.take k) 0))] [w]) 0 ⟨by omega, rfl⟩ (by exact Sub.au) (fun w' hw' => hw'.thin (by exact Thin.au)) ?_
 rintro k ⟨hk, hk0⟩
 refine zgs ?_
 refine W.cnd ?_ ?_ <;> intro hlt <;> try exact zwx hlt
 ·have hkl : k < es.length := by omega
  have hB := fun w2 => block_calls w bc bm nm es (some a) cap he (by omega) k hkl [] w2 (fun k hk => NotOwned.nil) hbc1 hbm1
  simp only [hes] at hB
  have hnx : blockE bs (defsF (bs.take k)) (bs.getD k noB) = 0 → firstR (fun k => blockE bs (defsF (bs.take k)) (bs.getD k noB)) (k + 1) = 0 := fun h => firstR_next hk0 h
  have hbd := hsz k hk0
  generalize blockE bs (defsF (bs.take k)) (bs.getD k noB) = er at hB hnx hbd
  refine zgs ?_
  refine OL.callE (α := PL) (fun _ => .int .i64 er) (fun mp => er = 0 → mp = plF (bs.take (k + 1)) 0) (fun mp => Cls [blk bc 124 [.int .i64 nm, .slice (some a) es.length cap, .map (some bm)], mapI bm (plM mp)] [w]) rfl rfl (by exact Args.au) (fun w2 hw2 => (hB w2 hw2).mono fun e w3 ⟨mp, h5, h6, h7⟩ => ⟨mp, h5, h6, h7⟩) ?_
  intro mp hmp
  refine zgs ?_
  refine W.cnd ?_ ?_ <;> intro hne <;> try exact zwx hne
  ·have hF1 := hF.1 (by rw [hbd hne (by omega)]; exact hne)
   rw [hF1, hbd hne (by omega)]
   refine zgs ?_
   (refine zfn ?_; intro w' hw')
   exact ⟨rfl, (hw'.thin (.any (fun k hk => by rw [show k = bc from hk]; exact ⟨hbc1, trivial⟩) (.any (fun k hk => by rw [show k = bm from hk]; exact ⟨hbm1, trivial⟩) Thin.same))).fr (by exact mau) (fun k hk => NotOwned.nil)⟩
  ·have he0 : er = 0 := by simpa using hne
   rw [hmp he0]
   refine zgs ?_
   exact At.again (k + 1) ⟨by omega, hnx he0⟩ (by omega) (by exact Sub.au) (fun w' hw' => hw')
 obtain rfl : k = es.length := by omega
 have hs0 : shapeE bs = 0 := by
  unfold shapeE
  rw [hbl2]
  exact hk0
 rw [← hbl2, List.take_length, hbl2]
 have hU := fun w2 => uses_calls w bc bm nm es (some a) cap he (by omega) h3 (by rw [hes]; exact hs0) [] w2 (fun k hk => NotOwned.nil) hbc1 hbm1
 simp only [hes] at hU
 refine zgs ?_
 refine OL.callE (α := Int) (fun r => .int .i64 r) (fun r => r = funcE ⟨nm, bs⟩) (fun _ => Cls [] [w]) rfl rfl (by exact Args.au) (fun w2 hw2 => (hU w2 hw2).mono fun e w3 ⟨r, h5, h6, h7, h8⟩ => ⟨r, h5, hF.2 hs0 r h6 h7, h8⟩) ?_
 rintro r rfl
 refine zgs ?_
 (refine zfn ?_; intro w' hw')
 exact ⟨rfl, by (exact hw'.fr)⟩
end Go.Proofs.Ytehelljmaiophaa.ss

/- The walks of the reference's defErr, termErr and shapeErr. Conditions: none. -/
namespace Go.Proofs.Ytehelljmaiophaa.ss
set_option maxRecDepth 100000
open Go.Eng Go.RowKit Go.Ss
theorem defErr_calls (v : Int) (q : Option Addr) (cap : Nat) (l : List Int) (w : World) (hlen : l.length ≤ 9223372036854775807) (h : IntsO w (low w) l q) :
  Calls Try.prog 99 #[.int .i64 v, .slice q l.length cap] w fun e w' => e = .returned (.int .i64 (defE v l)) ∧ Ext w w' := by
 refine enter Try.func99 rfl Try.ntmps99 rfl (Cls.start w) (zen ?_)
 refine zgs ?_
 (((first | apply OL.op | apply QL.op); exact Guard.au; rfl; rfl); (exact Pev.call (v := .bool (decide (0 ≤ v) && decide (v ≤ 4095))) rfl (by exact Args.au) (fun _ w2 hw2 => (Within_calls v 0 4095 w2).mono (fun e w3 h => ⟨h.1, hw2.ext h.2⟩))))
 refine zgs ?_
 refine W.cond rfl (fun h1 => ?_) (fun h1 => ?_)
 ·have hd : defE v l = 4 := by
   unfold defE
   rw [if_pos (by simp at h1; omega)]
  refine zgs ?_
  (refine zfn ?_; intro w' hw')
  rw [hd]
  exact ⟨rfl, by (exact hw'.fr)⟩
 refine zgs ?_
 (((first | apply OL.op | apply QL.op); exact Guard.au; rfl; rfl); (exact Pev.call (v := .bool (decide (v ∈ l))) rfl (by exact Args.au) (fun _ w2 hw2 => (HasInt_calls q cap l v w2 hlen (h.at hw2 (by exact mau) (fun k hk => by exact NotOwned.au))).mono (fun e w3 h => ⟨h.1, hw2.ext h.2⟩))))
 apply OL.nx
 refine W.cond rfl (fun h2 => ?_) (fun h2 => ?_)
 ·have hd : defE v l = 7 := by
   unfold defE
   rw [if_neg (by simp at h1; omega), if_pos (by simpa using h2)]
  refine zgs ?_
  (refine zfn ?_; intro w' hw')
  rw [hd]
  exact ⟨rfl, by (exact hw'.fr)⟩
 ·have hd : defE v l = 0 := by
   unfold defE
   rw [if_neg (by simp at h1; omega), if_neg (by simpa using h2)]
  refine zgs ?_
  (refine zfn ?_; intro w' hw')
  rw [hd]
  exact ⟨rfl, by (exact hw'.fr)⟩
def edN (t : Tm) : Int := if t.kind = 0 then 0 else if t.kind = 1 then 1 else if t.kind = 2 then 2 else if t.kind = 3 then (t.cases.length : Int) + 1 else 0
theorem edN_get {t : Tm} (h0 : 0 ≤ t.kind) (h4 : t.kind ≤ 4) : ([.int .i64 0, .int .i64 1, .int .i64 2, .int .i64 ((t.cases.length : Int) + 1), .int .i64 0] : List Value)[0 + t.kind.toNat * 1]? = some (.int .i64 (edN t)) := by
 unfold edN
 obtain h | h | h | h | h : t.kind = 0 ∨ t.kind = 1 ∨ t.kind = 2 ∨ t.kind = 3 ∨ t.kind = 4 := by omega
 all_goals rw [h]; simp
theorem termErr_calls (es : List (Bk × BkY)) (q : Option Addr) (cap : Nat) (nm : Int) (t : Tm) (y : TmY) (w : World) (he : Arr bkR w (low w) es q) (hlen : es.length ≤ 140737488355328) (ht : TmOk w (low w) t y) :
  Calls Try.prog 101 [.agg #[.int .i64 nm, .slice q es.length cap], .agg (tmC t y).toArray].toArray w fun e w' => e = .returned (.int .i64 (termE (es.map Prod.fst) t)) ∧ Ext w w' := by
 obtain ⟨bs, hbs⟩ : ∃ bs, es.map Prod.fst = bs := ⟨_, rfl⟩
 have hbl : bs.length = es.length := by rw [← hbs, List.length_map]
 obtain ⟨ts, hts, harr⟩ := ht.t
 have htl := ht.tl
 have hcl := ht.cl
 have htl2 : t.to_.length = ts.length := by rw [← hts, List.length_map]
 rw [hbs]
 refine enter Try.func101 rfl Try.ntmps101 rfl (Cls.start w) (zen ?_)
 simp only [tmC]
 apply W.sr
 apply OL.box; rfl; rfl; exact CellsL.agg; (intro bk hbk; simp only [AllLe, and_true] at hbk)
 apply OL.box; rfl; rfl; exact CellsL.agg; (intro bk hbk; simp only [AllLe, and_true] at hbk)
 refine zgs ?_
 apply OL.buildSlice; rfl; rfl; rfl; exact Elems.au; rfl; rfl; (intro bk hbk; simp only [AllLe, and_true] at hbk)
 refine zgs ?_
 apply W.regd0; decide +kernel; kernel_rfl; decide +kernel; exact fun w hw => hw.drew
 refine zgs ?_
 rename_i bF hbF bT hbT
 revert bk
 intro bE hbE
 (((first | apply OL.op | apply QL.op); exact Guard.au; rfl; rfl); (exact Pev.call (v := .bool (decide (0 ≤ t.kind) && decide (t.kind ≤ 4))) rfl (by exact Args.au) (fun _ w2 hw2 => (Within_calls t.kind 0 4 w2).mono (fun e w3 h => ⟨h.1, hw2.ext h.2⟩))))
 refine zgs ?_
 (((first | (with_reducible apply OL.op) | (with_reducible apply QL.op)); (exact Guard.au); rfl; rfl); (refine Pev.idxB rfl g_c rfl g_c rfl (fun hcc => ?_) rfl))
 ·simp at hcc
  omega
 skip
 (((first | (with_reducible apply OL.op) | (with_reducible apply QL.op)); (exact Guard.au); rfl; rfl); (refine Pev.load_cls (v := .int .i64 (edN t)) rfl g_c rfl (fun hcc w2 hw2 => ?_)))
 ·simp at hcc
  rw [blk_cell (hw2.item (i := blk bE 3 _) (by exact mau))]
  exact edN_get hcc.1 hcc.2
 refine zgs ?_
 have hsh : shapeT t = false ↔ (¬ (0 ≤ t.kind ∧ t.kind ≤ 4) ∨ ¬ (t.to_.length : Int) = edN t) ∨ ((t.kind ≠ 3 ∧ 0 < t.cases.length) ∨ (t.kind ≠ 4 ∧ t.n ≠ 0)) ∨ ((t.kind = 1 ∨ t.kind = 4) ∧ t.arg ≠ 0) := by
  unfold edN
  by_cases hk : 0 ≤ t.kind ∧ t.kind ≤ 4
  ·obtain h | h | h | h | h : t.kind = 0 ∨ t.kind = 1 ∨ t.kind = 2 ∨ t.kind = 3 ∨ t.kind = 4 := by omega
   all_goals
    unfold shapeT
    rw [h]
    simp [-List.length_eq_zero_iff]
    omega
  ·have : shapeT t = false := by
    unfold shapeT
    rw [if_neg (by omega), if_neg (by omega), if_neg (by omega), if_neg (by omega), if_neg (by omega)]
   exact ⟨fun _ => .inl (.inl hk), fun _ => this⟩
 refine W.cond rfl (fun h1 => ?_) (fun h1 => ?_)
 ·have hE : termE bs t = 3 := by
   unfold termE
   rw [if_pos (hsh.2 (.inl ?_))]
   simp [-List.length_eq_zero_iff] at h1
   omega
  refine zgs ?_
  (refine zfn ?_; intro w' hw')
  rw [hE]
  exact ⟨rfl, by (exact hw'.fr)⟩
 refine zgs ?_
 refine W.cond rfl (fun h2 => ?_) (fun h2 => ?_)
 ·have hE : termE bs t = 3 := by
   unfold termE
   rw [if_pos (hsh.2 (.inr ?_))]
   simp [-List.length_eq_zero_iff] at h2
   omega
  refine zgs ?_
  (refine zfn ?_; intro w' hw')
  rw [hE]
  exact ⟨rfl, by (exact hw'.fr)⟩
 have h1' : ¬ shapeT t = false := by
  rw [hsh]
  simp [-List.length_eq_zero_iff] at h1 h2
  omega
 refine zgs ?_
 refine W.cnd ?_ ?_ <;> intro h3 <;> try exact zwx h3
 ·refine zgs ?_
  (refine zfn ?_; intro w' hw')
  unfold termE
  rw [if_neg h1', if_pos (by omega)]
  exact ⟨rfl, by (exact hw'.fr)⟩
 refine zgs ?_
 (((first | apply OL.op | apply QL.op); exact Guard.au; rfl; rfl); (exact Pev.call (v := .bool (decide (1 ≤ t.n) && decide (t.n ≤ 6))) rfl (by exact Args.au) (fun _ w2 hw2 => (Within_calls t.n 1 6 w2).mono (fun e w3 h => ⟨h.1, hw2.ext h.2⟩))))
 refine zgs ?_
 refine W.cond rfl (fun h4 => ?_) (fun h4 => ?_)
 ·refine zgs ?_
  (refine zfn ?_; intro w' hw')
  unfold termE
  rw [if_neg h1', if_neg (by omega), if_pos (by simp at h4; omega)]
  exact ⟨rfl, by (exact hw'.fr)⟩
 have hT : termE bs t = if ¬ firstR (caseE t.cases) t.cases.length = 0 then firstR (caseE t.cases) t.cases.length else firstE (edgeE bs) t.to_ := by
  unfold termE
  rw [if_neg h1', if_neg (by omega), if_neg (by simp at h4; omega)]
 rw [hT]
 refine zgs ?_
 refine W.loop (G := Nat) (fun k => k ≤ t.cases.length ∧ firstR (caseE t.cases) k = 0) (fun k => t.cases.length - k)
  (fun k => [(2, true, .pointer (some ⟨bF, 0, none⟩)), (3, true, .pointer (some ⟨bT, 0, none⟩)), (78, true, .slice y.c.1 t.cases.length y.c.2), (79, true, .int .i64 (t.cases.length : Int)), (80, true, .int .i64 (k : Int))])
  (fun _ => Cls [blk bT 39 [.int .i64 t.kind, .int .i64 t.arg, .int .i64 t.n, .slice y.c.1 t.cases.length y.c.2, .slice y.t.1 t.to_.length y.t.2], blk bF 24 [.int .i64 nm, .slice q es.length cap]] [w]) 0 ⟨by omega, rfl⟩ (by exact Sub.au) (fun w' hw' => hw'.thin (by exact Thin.au)) ?_
 rintro k ⟨hk, hk0⟩
 refine zgs ?_
 refine W.cnd ?_ ?_ <;> intro hlt <;> try exact zwx hlt
 ·have hkl : k < t.cases.length := by omega
  obtain ⟨a, v, hqa, hab, hv, hcell⟩ := ht.c.get hkl
  have hab : a.block < w.heap.size := hab
  have hcc := ht.cc
  have hE : caseE t.cases k = if wordB v = false then 4 else if v ∈ t.cases.take k then 7 else 0 := by
   unfold caseE
   rw [List.getD_eq_getElem?_getD, hv, Option.getD_some]
  have herr : caseE t.cases k ≠ 0 → (if ¬ firstR (caseE t.cases) t.cases.length = 0 then firstR (caseE t.cases) t.cases.length else firstE (edgeE bs) t.to_) = caseE t.cases k := fun h => by
   have h5 := firstR_at hkl hk0 h
   rw [h5, if_pos h]
  have hIC : ∀ w2, Cls [blk bT 39 [.int .i64 t.kind, .int .i64 t.arg, .int .i64 t.n, .slice y.c.1 t.cases.length y.c.2, .slice y.t.1 t.to_.length y.t.2], blk bF 24 [.int .i64 nm, .slice q es.length cap]] [w] w2 → Calls Try.prog 32 #[.slice (some a) k y.c.2, .int .i64 v] w2 fun e w' => e = .returned (.bool (decide (v ∈ t.cases.take k))) ∧ Ext w2 w' := fun w2 hw2 => by
   have h6 := ht.c.at hw2 (by exact mau) (fun k hk => by exact NotOwned.au)
   have h7 := HasInt_calls y.c.1 y.c.2 (t.cases.take k) v w2 (by rw [List.length_take]; omega) (IntsO.take h6 k)
   rw [List.length_take, Nat.min_eq_left (by omega), hqa] at h7
   exact h7
  rw [hqa]
  rw [hqa] at hIC
  refine zgs ?_
  (((first | apply OL.op | apply QL.op); exact Guard.au; rfl; rfl); (exact Pev.call (v := .bool (wordB v)) rfl (by exact Args.au) (fun _ w2 hw2 => (word_calls v w2).mono (fun e w3 h => ⟨h.1, hw2.ext h.2⟩))))
  refine zgs ?_
  refine W.cnd ?_ ?_ <;> intro h4 <;> try exact zwx h4
  ·have h5 : caseE t.cases k = 4 := by rw [hE, if_pos (by simpa using h4)]
   rw [herr (by rw [h5]; decide), h5]
   refine zgs ?_
   (refine zfn ?_; intro w' hw')
   exact ⟨rfl, by (exact hw'.fr)⟩
  have h4' : ¬ wordB v = false := by simpa using h4
  refine zgs ?_
  (((first | apply OL.op | apply QL.op); exact Guard.au; rfl; rfl); (exact Pev.call (v := .bool (decide (v ∈ t.cases.take k))) rfl (by exact Args.au) (fun _ w2 hw2 => (hIC w2 hw2).mono (fun e w3 h => ⟨h.1, hw2.ext h.2⟩))))
  apply OL.nx
  refine W.cnd ?_ ?_ <;> intro h5 <;> try exact zwx h5
  ·have h6 : caseE t.cases k = 7 := by rw [hE, if_neg h4', if_pos (by simpa using h5)]
   rw [herr (by rw [h6]; decide), h6]
   refine zgs ?_
   (refine zfn ?_; intro w' hw')
   exact ⟨rfl, by (exact hw'.fr)⟩
  ·have h6 : caseE t.cases k = 0 := by rw [hE, if_neg h4', if_neg (by simpa using h5)]
   refine zgs ?_
   exact At.again (k + 1) ⟨by omega, firstR_next hk0 h6⟩ (by omega) (by exact Sub.au) (fun w' hw' => hw')
 obtain rfl : k = t.cases.length := by omega
 rw [if_neg (fun h => h hk0), htl2]
 refine zgs ?_
 refine W.loop (G := Nat) (fun j => j ≤ ts.length ∧ ∀ (m : Nat) e, m < j → t.to_[m]? = some e → edgeE bs e = 0) (fun j => ts.length - j)
  (fun j => [(2, true, .pointer (some ⟨bF, 0, none⟩)), (96, true, .slice y.t.1 ts.length y.t.2), (97, true, .int .i64 (ts.length : Int)), (98, true, .int .i64 (j : Int))])
  (fun _ => Cls [blk bT 39 [.int .i64 t.kind, .int .i64 t.arg, .int .i64 t.n, .slice y.c.1 t.cases.length y.c.2, .slice y.t.1 ts.length y.t.2], blk bF 24 [.int .i64 nm, .slice q es.length cap]] [w]) 0 ⟨by omega, fun m e hm => by omega⟩ (by exact Sub.au) (fun w' hw' => hw') ?_
 rintro j ⟨hj, hj0⟩
 refine zgs ?_
 refine W.cnd ?_ ?_ <;> intro hlt2 <;> try exact zwx hlt2
 ·obtain ⟨ae, u, hqt, hatb, hu, hcu, hoku⟩ := harr.get (show j < ts.length by omega)
  have hatb : ae.block < w.heap.size := hatb
  have hcu : CellsAt w (ae.add (j * 2)) [.int .i64 u.1.block, .slice u.2.1 u.1.args.length u.2.2] := hcu
  have hue : t.to_[j]? = some u.1 := by rw [← hts, List.getElem?_map, hu]; rfl
  have hul := hoku.2.1.1
  have herr : edgeE bs u.1 ≠ 0 → firstE (edgeE bs) t.to_ = edgeE bs u.1 := fun h => firstE_at hue hj0 h
  rw [hqt]
  refine zgs ?_
  apply OL.alloc; rfl; rfl; exact CellsL.agg; (intro bk hbk; simp only [AllLe, and_true] at hbk)
  refine zgs ?_
  (((first | apply OL.op | apply QL.op); exact Guard.au; rfl; rfl); (exact Pev.call (v := .bool (decide (1 ≤ u.1.block) && decide (u.1.block ≤ (es.length : Int) - 1))) rfl (by exact Args.au) (fun _ w2 hw2 => (Within_calls u.1.block 1 ((es.length : Int) - 1) w2).mono (fun e w3 h => ⟨h.1, hw2.ext h.2⟩))))
  refine zgs ?_
  refine W.cond rfl (fun h4 => ?_) (fun h4 => ?_)
  ·have h5 : edgeE bs u.1 = 4 := by
    unfold edgeE
    rw [if_pos (by simp at h4; omega)]
   rw [herr (by rw [h5]; decide), h5]
   refine zgs ?_
   (refine zfn ?_; intro w' hw')
   exact ⟨rfl, by (exact hw'.fr)⟩
  have h4' : 1 ≤ u.1.block ∧ u.1.block < (es.length : Int) := by simp at h4; omega
  obtain ⟨b, hbb⟩ : ∃ b : Nat, u.1.block = (b : Int) := ⟨u.1.block.toNat, by omega⟩
  have hbe : b < es.length := by omega
  obtain ⟨a2, p2, rfl, hab2, hp2, hcell2, hok2⟩ := he.get hbe
  have hab2 : a2.block < w.heap.size := hab2
  have hcell2 : CellsAt w (a2.add (b * 7)) [.slice p2.2.p.1 p2.1.params.length p2.2.p.2, .slice p2.2.i.1 p2.1.ins.length p2.2.i.2, .int .i64 p2.1.term.kind, .int .i64 p2.1.term.arg, .int .i64 p2.1.term.n, .slice p2.2.t.c.1 p2.1.term.cases.length p2.2.t.c.2, .slice p2.2.t.t.1 p2.1.term.to_.length p2.2.t.t.2] := hcell2
  have hgd : (bs.getD u.1.block.toNat ⟨[], [], ⟨0, 0, 0, [], []⟩⟩) = p2.1 := by
   rw [hbb, Int.toNat_natCast, List.getD_eq_getElem?_getD, ← hbs, List.getElem?_map, hp2]
   rfl
  have hE2 : edgeE bs u.1 = if u.1.args.length ≠ p2.1.params.length then 3 else 0 := by
   unfold edgeE
   rw [if_neg (by omega), hgd]
  rw [hbb]
  refine zgs ?_
  apply W.regd0; decide +kernel; kernel_rfl; decide +kernel; exact fun w hw => hw.drew
  refine zgs ?_
  refine W.cnd ?_ ?_ <;> intro h6 <;> try exact zwx h6
  ·have h7 : edgeE bs u.1 = 3 := by rw [hE2, if_pos (by omega)]
   rw [herr (by rw [h7]; decide), h7]
   refine zgs ?_
   (refine zfn ?_; intro w' hw')
   exact ⟨rfl, by (exact hw'.fr)⟩
  ·have h7 : edgeE bs u.1 = 0 := by rw [hE2, if_neg (by omega)]
   refine zgs ?_
   refine At.again (j + 1) ⟨by omega, fun m e hm he2 => ?_⟩ (by omega) (by exact Sub.au) (fun w' hw' => hw'.thin (by exact Thin.au))
   by_cases em : m = j
   ·subst em
    rw [hue] at he2
    obtain rfl := Option.some.inj he2
    exact h7
   ·exact hj0 m e (by omega) he2
 ·have h0 : firstE (edgeE bs) t.to_ = 0 := firstE_all fun m e he2 => hj0 m e (by have := (List.getElem?_eq_some_iff.1 he2).1; omega) he2
  rw [h0]
  refine zgs ?_
  (refine zfn ?_; intro w' hw')
  exact ⟨rfl, by (exact hw'.fr)⟩
end Go.Proofs.Ytehelljmaiophaa.ss

/- The walk of the reference's shapeErr. Conditions: none. -/
namespace Go.Ss
open Go.Eng Go.RowKit
structure GR where
 O : Nat → Prop
 q : Option Addr
 c : Nat
theorem rowInts {H : List Eng.Item} {S : List World} {w w' : World} {B m cap : Nat} {O : Nat → Prop} {q : Option Addr} {e : TypeId} {l : List Int} (h : Cls H S w') (hr : row B O q m cap e 1 (ints l) ∈ H) (hB : w.heap.size ≤ B) : IntsO w' (fresh w w') l q := fun hl => by
 have h1 := h.item hr
 obtain ⟨a, h3, _, h5⟩ := SlAt.of_row h1 (by rw [ints_length]; exact hl)
 have h6 := h1.1 a h3
 have hb : B ≤ a.block := by
  rcases h1.2.2 with ⟨h7, _⟩ | ⟨g, cap', cur, h7, hb, _⟩
  ·simp only [Value.slice.injEq] at h7
   rw [h7.1] at h3; cases h3
  ·simp only [Value.slice.injEq] at h7
   rw [h7.1] at h3
   obtain rfl := Option.some.inj h3
   exact hb
 exact ⟨a, h3, ⟨Nat.le_trans hB hb, h.lt _ hr _ ⟨hb, h6⟩⟩, h5⟩
theorem rowIntsL {H : List Eng.Item} {S : List World} {w' : World} {B m cap : Nat} {O : Nat → Prop} {q : Option Addr} {e : TypeId} {l : List Int} (h : Cls H S w') (hr : row B O q m cap e 1 (ints l) ∈ H) : IntsO w' (low w') l q := fun hl => by
 have h1 := h.item hr
 obtain ⟨a, h3, _, h5⟩ := SlAt.of_row h1 (by rw [ints_length]; exact hl)
 have h6 := h1.1 a h3
 have hb : B ≤ a.block := by
  rcases h1.2.2 with ⟨h7, _⟩ | ⟨g, cap', cur, h7, hb, _⟩
  ·simp only [Value.slice.injEq] at h7
   rw [h7.1] at h3; cases h3
  ·simp only [Value.slice.injEq] at h7
   rw [h7.1] at h3
   obtain rfl := Option.some.inj h3
   exact hb
 exact ⟨a, h3, h.lt _ hr _ ⟨hb, h6⟩, h5⟩
theorem nodup_le : ∀ {l m : List Int}, l.Nodup → (∀ x ∈ l, x ∈ m) → l.length ≤ m.length
 | [], _, _, _ => by simp
 | x :: r, m, hn, hs => by
  have hx := hs x (.head _)
  obtain ⟨m1, m2, rfl⟩ := List.append_of_mem hx
  rw [List.nodup_cons] at hn
  have := nodup_le (l := r) (m := m1 ++ m2) hn.2 (fun y hy => by
   have h1 := hs y (.tail _ hy)
   have h2 : y ≠ x := fun e => hn.1 (e ▸ hy)
   simp at h1 ⊢
   rcases h1 with h1 | h1 | h1
   ·exact .inl h1
   ·exact absurd h1 h2
   ·exact .inr h1)
  simp at this ⊢
  omega
def Lim4 (l : List Int) : Prop := l.Nodup ∧ ∀ v ∈ l, 0 ≤ v ∧ v ≤ 4095
theorem Lim4.len {l : List Int} (h : Lim4 l) : l.length ≤ 4096 := by
 have := nodup_le (m := (List.range 4096).map fun n : Nat => (n : Int)) h.1 (fun x hx => by
  have := h.2 x hx
  exact List.mem_map.2 ⟨x.toNat, List.mem_range.2 (by omega), by omega⟩)
 simpa using this
theorem Lim4.snoc {l : List Int} {v : Int} (h : Lim4 l) (hd : defE v l = 0) : Lim4 (l ++ [v]) := by
 obtain ⟨h1, h2, h3⟩ := def_zero hd
 constructor
 ·rw [List.nodup_append]
  refine ⟨h.1, by simp, fun a ha b hb => ?_⟩
  obtain rfl : b = v := by simpa using hb
  rintro rfl
  exact h3 ha
 ·intro x hx
  rcases List.mem_append.1 hx with hx | hx
  ·exact h.2 x hx
  ·obtain rfl : x = v := by simpa using hx
   exact ⟨h1, h2⟩
end Go.Ss
namespace Go.Proofs.Ytehelljmaiophaa.ss
set_option maxRecDepth 100000
open Go.Eng Go.RowKit Go.Ss
theorem shapeErr_calls (es : List (Bk × BkY)) (q : Option Addr) (cap : Nat) (nm : Int) (w : World) (he : Arr bkR w (low w) es q) (hlen : es.length ≤ 140737488355328) :
  Calls Try.prog 57 [.agg #[.int .i64 nm, .slice q es.length cap]].toArray w fun e w' => e = .returned (.int .i64 (shapeE (es.map Prod.fst))) ∧ Ext w w' := by
 obtain ⟨bs, hbs⟩ : ∃ bs, es.map Prod.fst = bs := ⟨_, rfl⟩
 have hbl : bs.length = es.length := by rw [← hbs, List.length_map]
 rw [hbs]
 refine enter Try.func57 rfl Try.ntmps57 rfl (Cls.start w) (zen ?_)
 apply W.sr
 apply OL.box; rfl; rfl; exact CellsL.agg; (intro bk hbk; simp only [AllLe, and_true] at hbk)
 refine zgs ?_
 revert bk
 intro bF hbF
 have hbF1 : w.heap.size ≤ bF := by first | exact hbF | exact hbF.1
 have hsz : ∀ k, firstR (fun k => blockE bs (defsF (bs.take k)) (bs.getD k noB)) k = 0 → blockE bs (defsF (bs.take k)) (bs.getD k noB) ≠ 0 → k < bs.length → shapeE bs = blockE bs (defsF (bs.take k)) (bs.getD k noB) := fun k h5 h6 h7 => by
  unfold shapeE
  exact firstR_at (g := fun k => blockE bs (defsF (bs.take k)) (bs.getD k noB)) h7 h5 h6
 refine W.loop (G := Nat × GR) (fun g => g.1 ≤ es.length ∧ firstR (fun k => blockE bs (defsF (bs.take k)) (bs.getD k noB)) g.1 = 0 ∧ Lim4 (defsF (bs.take g.1))) (fun g => es.length - g.1)
  (fun g => [(1, true, .pointer (some ⟨bF, 0, none⟩)), (3, true, .slice g.2.q (defsF (bs.take g.1)).length g.2.c), (15, true, .slice q es.length cap), (16, true, .int .i64 (es.length : Int)), (17, true, .int .i64 (g.1 : Int))])
  (fun g => Cls [row w.heap.size g.2.O g.2.q (defsF (bs.take g.1)).length g.2.c 3 1 (ints (defsF (bs.take g.1))), blk bF 24 [.int .i64 nm, .slice q es.length cap]] [w]) (0, ⟨fun _ => False, none, 0⟩) ⟨by simp, rfl, by simp [defsF, Lim4]⟩ (by exact Sub.au) (fun w' hw' => hw'.row_nil w.heap.size 3 1) ?_
 rintro ⟨k, ⟨O0, q0, c0⟩⟩ ⟨hk, hk0, hlim⟩
 simp only at hk hk0 hlim ⊢
 refine zgs ?_
 refine W.cnd ?_ ?_ <;> intro hlt <;> try exact zwx hlt
 ·have hkl : k < es.length := by omega
  obtain ⟨a, p, hqa, hab, hp, hcell, hok⟩ := he.get hkl
  have hab : a.block < w.heap.size := hab
  have hcell : CellsAt w (a.add (k * 7)) [.slice p.2.p.1 p.1.params.length p.2.p.2, .slice p.2.i.1 p.1.ins.length p.2.i.2, .int .i64 p.1.term.kind, .int .i64 p.1.term.arg, .int .i64 p.1.term.n, .slice p.2.t.c.1 p.1.term.cases.length p.2.t.c.2, .slice p.2.t.t.1 p.1.term.to_.length p.2.t.t.2] := hcell
  have hbsk : bs[k]? = some p.1 := by rw [← hbs, List.getElem?_map, hp]; rfl
  have hgd : bs.getD k noB = p.1 := by rw [List.getD_eq_getElem?_getD, hbsk]; rfl
  have hpl := hok.pl
  have hil := hok.il
  obtain ⟨pi, hpi, hiarr⟩ := hok.i
  have hpil : p.1.ins.length = pi.length := by rw [← hpi, List.length_map]
  have hdn : defsF (bs.take (k + 1)) = defsF (bs.take k) ++ defsB p.1 := by
   unfold defsF
   rw [List.take_add_one, hbsk, Option.toList_some, List.flatMap_append]
   simp
  have hbe : shapeE bs = if blockE bs (defsF (bs.take k)) p.1 ≠ 0 then blockE bs (defsF (bs.take k)) p.1 else shapeE bs := by
   split
   ·rename_i h
    rw [hsz k hk0 (by rw [hgd]; exact h) (by omega), hgd]
   ·rfl
  have hnx : blockE bs (defsF (bs.take k)) p.1 = 0 → firstR (fun k => blockE bs (defsF (bs.take k)) (bs.getD k noB)) (k + 1) = 0 := fun h => firstR_next hk0 (by rw [hgd]; exact h)
  generalize defsF (bs.take k) = seen at *
  rw [hqa]
  refine zgs ?_
  apply OL.alloc; rfl; rfl; exact CellsL.agg; (intro bk hbk; simp only [AllLe, and_true] at hbk)
  refine zgs ?_
  revert bk
  intro b5 hb5
  have hb51 : w.heap.size ≤ b5 := by first | exact hb5 | exact hb5.1
  refine W.loop (G := Nat × GR) (fun g => g.1 ≤ p.1.params.length ∧ firstR (paramE seen p.1.params) g.1 = 0 ∧ Lim4 (seen ++ p.1.params.take g.1)) (fun g => p.1.params.length - g.1)
   (fun g => [(1, true, .pointer (some ⟨bF, 0, none⟩)), (3, true, .slice g.2.q (seen ++ p.1.params.take g.1).length g.2.c), (5, true, .pointer (some ⟨b5, 0, none⟩)), (15, true, .slice (some a) es.length cap), (16, true, .int .i64 (es.length : Int)), (17, true, .int .i64 (k : Int)), (22, true, .slice p.2.p.1 p.1.params.length p.2.p.2), (23, true, .int .i64 (p.1.params.length : Int)), (24, true, .int .i64 (g.1 : Int))])
   (fun g => Cls [blk b5 41 [.slice p.2.p.1 p.1.params.length p.2.p.2, .slice p.2.i.1 p.1.ins.length p.2.i.2, .int .i64 p.1.term.kind, .int .i64 p.1.term.arg, .int .i64 p.1.term.n, .slice p.2.t.c.1 p.1.term.cases.length p.2.t.c.2, .slice p.2.t.t.1 p.1.term.to_.length p.2.t.t.2], row w.heap.size g.2.O g.2.q (seen ++ p.1.params.take g.1).length g.2.c 3 1 (ints (seen ++ p.1.params.take g.1)), blk bF 24 [.int .i64 nm, .slice (some a) es.length cap]] [w]) (0, ⟨O0, q0, c0⟩) ⟨by simp, rfl, by simpa using hlim⟩ (by simp only [List.take_zero, List.append_nil]; exact Sub.au) (fun w' hw' => by simpa only [List.take_zero, List.append_nil] using hw') ?_
  rintro ⟨j, ⟨Op, qp, cp⟩⟩ ⟨hj, hj0, hlim1⟩
  simp only at hj hj0 hlim1 ⊢
  refine zgs ?_
  refine W.cnd ?_ ?_ <;> intro hlt1 <;> try exact zwx hlt1
  ·have hjl : j < p.1.params.length := by omega
   obtain ⟨av, v, hqv, habv, hv, hcv⟩ := hok.p.get hjl
   have habv : av.block < w.heap.size := habv
   have hpe := paramE_at (seen := seen) hv
   have hln := hlim1.len
   have htk : p.1.params.take (j + 1) = p.1.params.take j ++ [v] := by rw [List.take_add_one, hv]; rfl
   generalize hs1 : seen ++ p.1.params.take j = seen1 at *
   rw [hqv]
   refine zgs ?_
   (((first | apply OL.op | apply QL.op); exact Guard.au; rfl; rfl); (exact Pev.call (v := .int .i64 (defE v seen1)) rfl (by exact Args.au) (fun _ w2 hw2 => (defErr_calls v qp cp seen1 w2 (by omega) (rowIntsL hw2 (by exact mau))).mono (fun e w3 h => ⟨h.1, hw2.ext h.2⟩))))
   refine zgs ?_
   refine W.cnd ?_ ?_ <;> intro hne <;> try exact zwx hne
   ·have h5 : blockE bs seen p.1 = defE v seen1 := by
     unfold blockE
     rw [firstR_at hjl hj0 (by rw [hpe]; exact hne), hpe, if_pos hne]
    rw [hbe, h5, if_pos hne]
    refine zgs ?_
    (refine zfn ?_; intro w' hw')
    exact ⟨rfl, by (exact hw'.fr)⟩
   have h0 : defE v seen1 = 0 := by simpa using hne
   refine zgs ?_
   apply OL.buildSlice; rfl; rfl; rfl; exact Elems.au; rfl; rfl; (intro bk hbk; simp only [AllLe, and_true] at hbk)
   apply OL.append; rfl; rfl; rfl; rfl; exact Hole.au; exact .head _; exact Take.au; rfl; rfl; exact ⟨_, .head _, Nat.le_refl _⟩; omega; intro O1 g1 cap1
   refine zgs ?_
   have hs2 : seen ++ p.1.params.take (j + 1) = seen1 ++ [v] := by rw [htk, ← List.append_assoc, hs1]
   refine At.again (j + 1, ⟨O1, some ⟨g1, 0, none⟩, cap1⟩) ⟨by simp only; omega, firstR_next hj0 (by rw [hpe]; exact h0), by simp only [hs2]; exact hlim1.snoc h0⟩ (by simp only; omega) (by simp only [hs2, List.length_append, List.length_cons, List.length_nil]; exact Sub.au) (fun w' hw' => ?_)
   simp only [hs2, ints_append, List.length_append, List.length_cons, List.length_nil]
   exact hw'.thin (by exact Thin.au)
  obtain rfl : j = p.1.params.length := by omega
  rw [List.take_length] at hlim1 ⊢
  have hB1 : blockE bs seen p.1 = if ¬ firstR (insE (seen ++ p.1.params) p.1.ins) p.1.ins.length = 0 then firstR (insE (seen ++ p.1.params) p.1.ins) p.1.ins.length else termE bs p.1.term := by
   unfold blockE
   rw [if_neg (fun h => h hj0)]
  have hdb : seen ++ defsB p.1 = (seen ++ p.1.params) ++ p.1.ins.map In.to_ := by unfold defsB; rw [List.append_assoc]
  rw [hdb] at hdn
  generalize seen ++ p.1.params = sp at *
  refine zgs ?_
  refine W.loop (G := Nat × GR) (fun g => g.1 ≤ p.1.ins.length ∧ firstR (insE sp p.1.ins) g.1 = 0 ∧ Lim4 (sp ++ (p.1.ins.take g.1).map In.to_)) (fun g => p.1.ins.length - g.1)
   (fun g => [(1, true, .pointer (some ⟨bF, 0, none⟩)), (3, true, .slice g.2.q (sp ++ (p.1.ins.take g.1).map In.to_).length g.2.c), (5, true, .pointer (some ⟨b5, 0, none⟩)), (15, true, .slice (some a) es.length cap), (16, true, .int .i64 (es.length : Int)), (17, true, .int .i64 (k : Int)), (40, true, .slice p.2.i.1 p.1.ins.length p.2.i.2), (41, true, .int .i64 (p.1.ins.length : Int)), (42, true, .int .i64 (g.1 : Int))])
   (fun g => Cls [blk b5 41 [.slice p.2.p.1 p.1.params.length p.2.p.2, .slice p.2.i.1 p.1.ins.length p.2.i.2, .int .i64 p.1.term.kind, .int .i64 p.1.term.arg, .int .i64 p.1.term.n, .slice p.2.t.c.1 p.1.term.cases.length p.2.t.c.2, .slice p.2.t.t.1 p.1.term.to_.length p.2.t.t.2], row w.heap.size g.2.O g.2.q (sp ++ (p.1.ins.take g.1).map In.to_).length g.2.c 3 1 (ints (sp ++ (p.1.ins.take g.1).map In.to_)), blk bF 24 [.int .i64 nm, .slice (some a) es.length cap]] [w]) (0, ⟨Op, qp, cp⟩) ⟨by simp, rfl, by simpa using hlim1⟩ (by simp only [List.take_zero, List.map_nil, List.append_nil]; exact Sub.au) (fun w' hw' => by simpa only [List.take_zero, List.map_nil, List.append_nil] using hw') ?_
  rintro ⟨j, ⟨Oq, qq, cq⟩⟩ ⟨hj, hj1, hlim2⟩
  simp only at hj hj1 hlim2 ⊢
  refine zgs ?_
  refine W.cnd ?_ ?_ <;> intro hlt2 <;> try exact zwx hlt2
  ·have hjl : j < p.1.ins.length := by omega
   obtain ⟨ai, u, hqi, haib, hu, hcu, hoku⟩ := hiarr.get (show j < pi.length by omega)
   have haib : ai.block < w.heap.size := haib
   have hcu : CellsAt w (ai.add (j * 4)) [.int .i64 u.1.to_, .int .i64 u.1.op, .int .i64 u.1.n, .slice u.2.1 u.1.args.length u.2.2] := hcu
   have hui : p.1.ins[j]? = some u.1 := by rw [← hpi, List.getElem?_map, hu]; rfl
   have hual := hoku.al
   have hie := insE_at (seen := sp) hui
   have hln := hlim2.len
   have htk : p.1.ins.take (j + 1) = p.1.ins.take j ++ [u.1] := by rw [List.take_add_one, hui]; rfl
   have herr : insE sp p.1.ins j ≠ 0 → shapeE bs = insE sp p.1.ins j := fun h => by
    have h5 : blockE bs seen p.1 = insE sp p.1.ins j := by
     rw [hB1, firstR_at hjl hj1 h, if_pos h]
    rw [hbe, h5, if_pos h]
   generalize hs1 : sp ++ (p.1.ins.take j).map In.to_ = seen1 at *
   rw [hqi]
   refine zgs ?_
   apply OL.alloc; rfl; rfl; exact CellsL.agg; (intro bk hbk; simp only [AllLe, and_true] at hbk)
   refine zgs ?_
   revert bk
   intro b10 hb10
   (((first | apply OL.op | apply QL.op); exact Guard.au; rfl; rfl); (exact Pev.call (v := .int .i64 (defE u.1.to_ seen1)) rfl (by exact Args.au) (fun _ w2 hw2 => (defErr_calls u.1.to_ qq cq seen1 w2 (by omega) (rowIntsL hw2 (by exact mau))).mono (fun e w3 h => ⟨h.1, hw2.ext h.2⟩))))
   refine zgs ?_
   refine W.cnd ?_ ?_ <;> intro hne <;> try exact zwx hne
   ·have h5 : insE sp p.1.ins j = defE u.1.to_ seen1 := by rw [hie, if_pos hne]
    rw [herr (by rw [h5]; exact hne), h5]
    refine zgs ?_
    (refine zfn ?_; intro w' hw')
    exact ⟨rfl, by (exact hw'.fr)⟩
   have h0 : defE u.1.to_ seen1 = 0 := by simpa using hne
   have h5 : insE sp p.1.ins j = formE u.1 := by rw [hie, if_neg (fun h => h h0)]
   refine zgs ?_
   apply OL.buildSlice; rfl; rfl; rfl; exact Elems.au; rfl; rfl; (intro bk hbk; simp only [AllLe, and_true] at hbk)
   apply OL.append; rfl; rfl; rfl; rfl; exact Hole.au; exact .head _; exact Take.au; rfl; rfl; exact ⟨_, .head _, Nat.le_refl _⟩; omega; intro O1 g1 cap1
   refine zgs ?_
   (((first | apply OL.op | apply QL.op); exact Guard.au; rfl; rfl); (exact Pev.call (v := .int .i64 (formE u.1)) rfl (by exact Args.au) (fun _ w2 hw2 => (insErr_calls u.1 u.2 w2 hual).mono (fun e w3 h => ⟨h.1, hw2.ext h.2⟩))))
   refine zgs ?_
   refine W.cnd ?_ ?_ <;> intro hne2 <;> try exact zwx hne2
   ·rw [herr (by rw [h5]; exact hne2), h5]
    refine zgs ?_
    (refine zfn ?_; intro w' hw')
    exact ⟨rfl, by (exact hw'.fr)⟩
   have h6 : formE u.1 = 0 := by simpa using hne2
   refine zgs ?_
   have hs2 : sp ++ (p.1.ins.take (j + 1)).map In.to_ = seen1 ++ [u.1.to_] := by rw [htk, List.map_append, ← List.append_assoc, hs1]; rfl
   refine At.again (j + 1, ⟨O1, some ⟨g1, 0, none⟩, cap1⟩) ⟨by simp only; omega, firstR_next hj1 (by rw [h5]; exact h6), by simp only [hs2]; exact hlim2.snoc h0⟩ (by simp only; omega) (by simp only [hs2, List.length_append, List.length_cons, List.length_nil]; exact Sub.au) (fun w' hw' => ?_)
   simp only [hs2, ints_append, List.length_append, List.length_cons, List.length_nil]
   exact hw'.thin (by exact Thin.au)
  obtain rfl : j = p.1.ins.length := by omega
  rw [List.take_length] at hlim2 ⊢
  rw [if_neg (fun h => h hj1)] at hB1
  rw [← hdn] at hlim2 ⊢
  refine zgs ?_
  (((first | apply OL.op | apply QL.op); exact Guard.au; rfl; rfl); (exact Pev.call (v := .int .i64 (termE bs p.1.term)) rfl (by exact Args.au) (fun _ w2 hw2 => (termErr_calls es (some a) cap nm p.1.term p.2.t w2 ((hqa ▸ he : Arr bkR w (low w) es (some a)).at hw2 (by exact mau) (fun k hk => by exact NotOwned.au)) hlen (TmOk.at hok.t hw2 (by exact mau) (fun k hk => by exact NotOwned.au))).mono (fun e w3 h => ⟨by rw [h.1, hbs], hw2.ext h.2⟩))))
  refine zgs ?_
  refine W.cnd ?_ ?_ <;> intro hne <;> try exact zwx hne
  ·rw [hbe, hB1, if_pos hne]
   refine zgs ?_
   (refine zfn ?_; intro w' hw')
   exact ⟨rfl, by (exact hw'.fr)⟩
  have h0 : termE bs p.1.term = 0 := by simpa using hne
  refine zgs ?_
  exact At.again (k + 1, ⟨Oq, qq, cq⟩) ⟨by simp only; omega, hnx (by rw [hB1]; exact h0), hlim2⟩ (by simp only; omega) (by exact Sub.au) (fun w' hw' => hw'.thin (by exact Thin.au))
 obtain rfl : k = es.length := by omega
 have h0 : shapeE bs = 0 := by
  unfold shapeE
  rw [hbl]
  exact hk0
 rw [h0]
 refine zgs ?_
 (refine zfn ?_; intro w' hw')
 exact ⟨rfl, by (exact hw'.fr)⟩
end Go.Proofs.Ytehelljmaiophaa.ss

/- The walks of the reference's Reach and Over. Conditions: none. -/
namespace Go.Ss
open Go.Eng Go.RowKit
def bls (l : List Bool) : List Value := l.map fun b => .bool b
theorem bls_length (l : List Bool) : (bls l).length = l.length := by simp [bls]
theorem bls_get {l : List Bool} {i : Nat} {b : Bool} (h : l[i]? = some b) : (bls l)[i]? = some (.bool b) := by simp [bls, h]
theorem bls_set (l : List Bool) (i : Nat) (b : Bool) : (bls l).set i (.bool b) = bls (l.set i b) := by simp [bls]
theorem bls_zero (n : Nat) : List.replicate n (Value.bool false) = bls (List.replicate n false) := by simp [bls]
theorem rc_none {G : List (List Int)} {v : Int} (h : v = 0 ∨ G.length = 0) (b : Nat) : ¬ Rc G v b := by
 intro hr
 induction hr with
 | zero h1 h2 => omega
 | step _ _ _ _ ih => exact ih
theorem getD_true {B : List Bool} {k : Nat} (hk : k < B.length) : B[k]? = some (B.getD k false) := by
 rw [List.getD_eq_getElem?_getD, List.getElem?_eq_getElem hk]; rfl
end Go.Ss
namespace Go.Proofs.Ytehelljmaiophaa.ss
set_option maxRecDepth 100000
open Go.Eng Go.RowKit Go.Ss
theorem Reach_calls (es : List (Bk × BkY)) (q : Option Addr) (cap : Nat) (nm v : Int) (w : World) (he : Arr bkR w (low w) es q) (hlen : es.length ≤ 140737488355328) :
  Calls Try.prog 39 [.agg #[.int .i64 nm, .slice q es.length cap], .int .i64 v].toArray w fun e w' => ∃ (b : Nat) (B : List Bool), e = .returned (.slice (some ⟨b, 0, none⟩) es.length es.length) ∧ B.length = es.length ∧ (∀ k : Nat, B[k]? = some true ↔ Rc (graphB (es.map Prod.fst)) v k) ∧ Ext w w' ∧ w.heap.size ≤ b ∧ (blk b 4 (bls B)).holds w' := by
 obtain ⟨G, hG⟩ : ∃ G, graphB (es.map Prod.fst) = G := ⟨_, rfl⟩
 have hGl : G.length = es.length := by rw [← hG]; simp [graphB]
 rw [hG]
 refine enter Try.func39 rfl Try.ntmps39 rfl (Cls.start w) (zen ?_)
 apply W.sr
 apply OL.box; rfl; rfl; exact CellsL.agg; (intro bk hbk; simp only [AllLe, and_true] at hbk)
 refine zgs ?_
 apply OL.makeSlice; rfl; rfl; rfl; rfl; rfl; rfl; rfl; omega; (intro bk hbk; simp only [AllLe, and_true] at hbk)
 refine zgs ?_
 rename_i bF hbF
 revert bk
 intro bR hbR
 rw [bls_zero]
 refine W.cond rfl (fun h1 => ?_) (fun h1 => ?_)
 ·refine zgs ?_
  (refine zfn ?_; intro w' hw')
  refine ⟨bR, List.replicate es.length false, rfl, by simp, fun k => ⟨fun h => ?_, fun h => absurd h (rc_none (by simp [-List.length_eq_zero_iff] at h1; omega) k)⟩, (hw'.thin (by exact Thin.au)).fr (by exact mau) (fun k hk => NotOwned.nil), ?_, hw'.item (by exact mau)⟩
  ·have := List.getElem?_eq_some_iff.1 h
   simp at this
  ·first | exact hbR | exact hbR.1 | exact hbR.mem _ (by exact mau)
 have hv0 : v ≠ 0 := by simp [-List.length_eq_zero_iff] at h1; omega
 have hn0 : 0 < es.length := by simp [-List.length_eq_zero_iff] at h1; omega
 have h1' : v ≠ 0 ∧ 0 < es.length := ⟨hv0, hn0⟩
 refine zgs ?_
 (apply OL.storeI); rfl; rfl; rfl; rfl; rfl; (exact Swap.au); (rw [bls_length, List.length_replicate]; omega)
 rw [show (bls (List.replicate es.length false)).set (0 + Int.toNat 0 * 1) (.bool true) = bls ((List.replicate es.length false).set 0 true) from bls_set _ _ _]
 refine zgs ?_
 have hBR : w.heap.size ≤ bR := by first | exact hbR | exact hbR.1 | exact hbR.mem _ (by exact mau)
 refine W.loop (G := Nat × List Bool) (fun g => g.1 ≤ es.length ∧ g.2.length = es.length ∧ (∀ b : Nat, g.2[b]? = some true → Rc G v b) ∧ g.2[0]? = some true ∧ (Closed G v g.2 ∨ g.1 + 1 ≤ cntT g.2)) (fun g => es.length - g.1)
  (fun g => [(1, true, .int .i64 v), (2, true, .pointer (some ⟨bF, 0, none⟩)), (5, true, .slice (some ⟨bR, 0, none⟩) es.length es.length), (27, true, .int .i64 (es.length : Int)), (28, true, .int .i64 (g.1 : Int))])
  (fun g => Cls [blk bR 4 (bls g.2), blk bF 24 [.int .i64 nm, .slice q es.length cap]] [w]) (0, (List.replicate es.length false).set 0 true) ⟨by simp, by simp, fun b hb => ?_, by rw [List.getElem?_set]; simp [h1'.2], .inr ?_⟩ (by exact Sub.au) (fun w' hw' => hw') ?_
 ·rw [List.getElem?_set] at hb
  split at hb
  ·rename_i e
   subst e
   exact .zero h1'.1 (by omega)
  ·have := List.getElem?_eq_some_iff.1 hb
   simp at this
 ·have : 0 < cntT ((List.replicate es.length false).set 0 true) := List.count_pos_iff.2 (List.mem_of_getElem? (i := 0) (by rw [List.getElem?_set]; simp [h1'.2]))
  simp only
  omega
 rintro ⟨r, B0⟩ ⟨hr, hB0, hs0, hz0, hc0⟩
 simp only at hr hB0 hs0 hz0 hc0 ⊢
 refine zgs ?_
 refine W.cnd ?_ ?_ <;> intro hltr <;> try exact zwx hltr
 ·refine zgs ?_
  refine W.loop (G := Nat × List Bool) (fun g => g.1 ≤ es.length ∧ Rnd G v B0 g.2 g.1 0) (fun g => es.length - g.1)
   (fun g => [(1, true, .int .i64 v), (2, true, .pointer (some ⟨bF, 0, none⟩)), (5, true, .slice (some ⟨bR, 0, none⟩) es.length es.length), (27, true, .int .i64 (es.length : Int)), (28, true, .int .i64 (r : Int)), (31, true, .slice q es.length cap), (32, true, .int .i64 (es.length : Int)), (33, true, .int .i64 (g.1 : Int))])
   (fun g => Cls [blk bR 4 (bls g.2), blk bF 24 [.int .i64 nm, .slice q es.length cap]] [w]) (0, B0) ⟨by simp, .start (by omega) hs0⟩ (by exact Sub.au) (fun w' hw' => hw') ?_
  rintro ⟨k, B⟩ ⟨hk, hR⟩
  simp only at hk hR ⊢
  have hBl : B.length = es.length := by rw [hR.len, hGl]
  refine zgs ?_
  refine W.cnd ?_ ?_ <;> intro hlt <;> try exact zwx hlt
  ·have hkl : k < es.length := by omega
   obtain ⟨a, p, hqa, hab, hp, hcell, hok⟩ := he.get hkl
   have hab : a.block < w.heap.size := hab
   have hcell : CellsAt w (a.add (k * 7)) [.slice p.2.p.1 p.1.params.length p.2.p.2, .slice p.2.i.1 p.1.ins.length p.2.i.2, .int .i64 p.1.term.kind, .int .i64 p.1.term.arg, .int .i64 p.1.term.n, .slice p.2.t.c.1 p.1.term.cases.length p.2.t.c.2, .slice p.2.t.t.1 p.1.term.to_.length p.2.t.t.2] := hcell
   have htl := hok.t.tl
   obtain ⟨ts, hts, harr⟩ := hok.t.t
   have htl2 : p.1.term.to_.length = ts.length := by rw [← hts, List.length_map]
   have hGk : G[k]? = some (p.1.term.to_.map Ed.block) := by
    rw [← hG]
    simp [graphB, hp]
   rw [hqa]
   refine zgs ?_
   apply OL.alloc; rfl; rfl; exact CellsL.agg; (intro bk hbk; simp only [AllLe, and_true] at hbk)
   refine zgs ?_
   revert bk
   intro b7 hb7
   refine W.loop (G := Nat × List Bool) (fun g => g.1 ≤ ts.length ∧ Rnd G v B0 g.2 k g.1) (fun g => ts.length - g.1)
    (fun g => [(1, true, .int .i64 v), (2, true, .pointer (some ⟨bF, 0, none⟩)), (5, true, .slice (some ⟨bR, 0, none⟩) es.length es.length), (6, true, .int .i64 (k : Int)), (27, true, .int .i64 (es.length : Int)), (28, true, .int .i64 (r : Int)), (31, true, .slice (some a) es.length cap), (32, true, .int .i64 (es.length : Int)), (33, true, .int .i64 (k : Int)), (40, true, .slice p.2.t.t.1 ts.length p.2.t.t.2), (41, true, .int .i64 (ts.length : Int)), (42, true, .int .i64 (g.1 : Int))])
    (fun g => Cls [blk bR 4 (bls g.2), blk bF 24 [.int .i64 nm, .slice (some a) es.length cap]] [w]) (0, B) ⟨by simp, hR⟩ (by rw [htl2]; exact Sub.au) (fun w' hw' => hw'.thin (by exact Thin.au)) ?_
   rintro ⟨j, C⟩ ⟨hj, hRC⟩
   simp only at hj hRC ⊢
   have hCl : C.length = es.length := by rw [hRC.len, hGl]
   refine zgs ?_
   refine W.cnd ?_ ?_ <;> intro hlt2 <;> try exact zwx hlt2
   ·have hjl : j < ts.length := by omega
    obtain ⟨ae, u, hqt, hatb, hu, hcu, hoku⟩ := harr.get hjl
    have hatb : ae.block < w.heap.size := hatb
    have hcu : CellsAt w (ae.add (j * 2)) [.int .i64 u.1.block, .slice u.2.1 u.1.args.length u.2.2] := hcu
    have hue : (p.1.term.to_.map Ed.block)[j]? = some u.1.block := by rw [← hts]; simp [hu]
    have hck : C[k]? = some (C.getD k false) := getD_true (by omega)
    have hckv : (bls C)[0 + (k : Int).toNat * 1]? = some (.bool (C.getD k false)) := by
     rw [show 0 + (k : Int).toNat * 1 = k by omega]
     exact bls_get hck
    rw [hqt]
    refine zgs ?_
    apply OL.alloc; rfl; rfl; exact CellsL.agg; (intro bk hbk; simp only [AllLe, and_true] at hbk)
    refine zgs ?_
    (((first | apply OL.op | apply QL.op); exact Guard.au; rfl; rfl); (exact Pev.call (v := .bool (decide (0 ≤ u.1.block) && decide (u.1.block ≤ (es.length : Int) - 1))) rfl (by exact Args.au) (fun _ w2 hw2 => (Within_calls u.1.block 0 ((es.length : Int) - 1) w2).mono (fun e w3 h => ⟨h.1, hw2.ext h.2⟩))))
    refine zgs ?_
    refine W.cond rfl (fun h3 => ?_) (fun h3 => ?_)
    ·simp at h3
     have hb0 : 0 ≤ u.1.block := by omega
     have hb1 : u.1.block < (es.length : Int) := by omega
     have hck' : C[k]? = some true := by rw [hck]; simpa using h3.1.1
     refine zgs ?_
     (apply OL.storeI); rfl; rfl; rfl; rfl; rfl; (exact Swap.au); (rw [bls_length]; omega)
     rw [show (bls C).set (0 + u.1.block.toNat * 1) (.bool true) = bls (C.set u.1.block.toNat true) by rw [show 0 + u.1.block.toNat * 1 = u.1.block.toNat by omega]; exact bls_set _ _ _]
     refine zgs ?_
     exact At.again (j + 1, C.set u.1.block.toNat true) ⟨by simp only; omega, hRC.mark hGk hue hck' (by omega) ⟨hb0, by omega⟩⟩ (by simp only; omega) (by exact Sub.au) (fun w' hw' => hw'.thin (by exact Thin.au))
    ·refine zgs ?_
     refine At.again (j + 1, C) ⟨by simp only; omega, hRC.skip hGk hue ?_⟩ (by simp only; omega) (by exact Sub.au) (fun w' hw' => hw'.thin (by exact Thin.au))
     simp at h3
     by_cases e1 : C[k]? = some true
     ·right
      have e2 : C.getD k false = true := by rw [hck] at e1; exact Option.some.inj e1
      by_cases e3 : u.1.block = v
      ·exact .inl e3
      ·right
       intro e4
       have := h3 (by simpa using e2) e3 e4.1
       omega
     ·exact .inl e1
   ·obtain rfl : j = ts.length := by omega
    refine zgs ?_
    refine At.again (k + 1, C) ⟨by simp only; omega, Rnd.next (l := p.1.term.to_.map Ed.block) (by rw [List.length_map, htl2]; exact hRC) hGk⟩ (by simp only; omega) (by exact Sub.au) (fun w' hw' => hw')
  ·obtain rfl : k = es.length := by omega
   refine zgs ?_
   refine At.again (r + 1, B) ⟨by simp only; omega, hBl, hR.snd, hR.le.2 0 hz0, ?_⟩ (by simp only; omega) (by exact Sub.au) (fun w' hw' => hw')
   rcases hc0 with hc0 | hc0
   ·exact .inl (hR.closed hc0 (fun _ _ => hz0))
   ·rw [← hGl] at hR
    rcases hR.done with h5 | h5
    ·exact .inl h5
    ·exact .inr (by simp only; omega)
 ·obtain rfl : r = es.length := by omega
  have hcl : Closed G v B0 := by
   rcases hc0 with hc0 | hc0
   ·exact hc0
   ·have := cntT_le B0
    omega
  refine zgs ?_
  (refine zfn ?_; intro w' hw')
  exact ⟨bR, B0, rfl, hB0, closed_all hcl hs0 (fun _ _ => hz0), (hw'.thin (by exact Thin.au)).fr (by exact mau) (fun k hk => NotOwned.nil), hBR, hw'.item (by exact mau)⟩
end Go.Proofs.Ytehelljmaiophaa.ss

/- Nodes of four cells (two strings, two pointers), each in a block of its own: an item for a table of them; loads, stores of the pointers, new ones, comparisons of pointers. General. No condition. -/
namespace Go.Eng
open Go.RowKit
structure Nd where
 key : ByteArray
 val : ByteArray
 nx : Option Nat
 pr : Option Nat
abbrev NdT := Nat → Option Nd
def ptrO : Option Nat → Value | none => .pointer none | some k => .pointer (some ⟨k, 0, none⟩)
def ndc (x : Nd) : List Value := [.string x.key, .string x.val, ptrO x.nx, ptrO x.pr]
def nds (t : TypeId) (f : NdT) : Item :=
 ⟨fun k => (f k).isSome = true, fun w => ∀ k x, f k = some x → w.heap[k]? = some (.cells (ndc x).toArray t (0, 0)), fun w w' hk h k x hx => (hk k (by simp [hx])).trans (h k x hx)⟩
theorem NotOwned.nds {H : List Item} {t : TypeId} {f : NdT} {k : Nat} (h : f k = none) (r : NotOwned H k) : NotOwned (Eng.nds t f :: H) k := NotOwned.any (fun hm => by
 have hm' : (f k).isSome = true := hm
 rw [h] at hm'; cases hm') r
section
variable {P : Program} {n : Nat} {l : Env} {H : List Item} {S : List World} {C : World → Prop} {c : Bool} {d : Option Nat} {ty : TypeId} {pos : String} {af : Array Edge} {g : Option (Nat × Bool)}
variable {ops : Array Oper} {rest : List Oper} {Q : Exit → Act → World → Prop} {t : TypeId} {x y z : Operand} {cx cy cz : Bool}
theorem row_le {w : World} {base m cap size : Nat} {O : Nat → Prop} {q : Option Addr} {e : TypeId} {xs : List Value} (h : (row base O q m cap e size xs).holds w) : m ≤ cap := by
 rcases h.2.2 with ⟨h3, h4⟩ | ⟨g, cap', cur, h3, hb, hg, h4, h5⟩
 ·omega
 ·simp only [Value.slice.injEq] at h3
  obtain ⟨_, _, rfl⟩ := h3
  exact h4
theorem Thin.row {base m cap size : Nat} {O : Nat → Prop} {q : Option Addr} {e : TypeId} {xs : List Value} {H' : List Item} (hb : AllLe S base) (h : Thin S H H') : Thin S (Eng.row base O q m cap e size xs :: H) H' :=
 Thin.any (fun k hk => by
  have := hb.mem
  have hk' : base ≤ k := hk.1
  clear hk hb h
  induction S with
  | nil => trivial
  | cons s S ih => exact ⟨Nat.le_trans (this s (.head _)) hk', ih fun s hs => this s (.tail _ hs)⟩) h
theorem W.ex {α : Type} {code : Code} {C : α → World → Prop} (h : ∀ x, W P n code Q l (C x)) : W P n code Q l (fun w => ∃ x, C x w) := ⟨fun a w hs ⟨x, hc⟩ => (h x).run a w hs hc⟩
theorem OL.ex {α : Type} {C : α → World → Prop} (h : ∀ x, OL P n ops Q rest l (C x)) : OL P n ops Q rest l (fun w => ∃ x, C x w) := ⟨fun a w hs ⟨x, hc⟩ => (h x).run a w hs hc⟩
end
end Go.Eng

/- Rows: a full block is one; one row appended to another; a part of one; results of which the first stands in a block. General. No condition. -/
namespace Go.Eng
open Go.RowKit
section
variable {P : Program} {n : Nat} {l : Env} {H : List Item} {S : List World} {C : World → Prop} {c : Bool} {d : Option Nat} {ty : TypeId} {pos : String} {af : Array Edge} {g : Option (Nat × Bool)}
variable {ops : Array Oper} {rest : List Oper} {Q : Exit → Act → World → Prop}
variable {t : TypeId} {x y z : Operand} {cx cy cz : Bool}
theorem At.cls {e : Exit} {C' : World → Prop} (hc : ∀ w, C w → C' w) (h : At n Q e l C') : At n Q e l C := ⟨fun a w s c => h.run a w s (hc w c)⟩
theorem At.finCT {fn : Func} {R : Ending → World → Prop} {tt b k u : Nat} {t' : TypeId} {cs : List Value} {v : Value} (hr : fn.results = #[.cell tt ty, .tmp u]) (ht : look l tt = some (true, .pointer (some ⟨b, 0, none⟩))) (hp : blk b t' cs ∈ H) (hs : aggN P ty = some k) (hk : cs.length = k)
  (hu : look l u = some (true, v)) (h : ∀ w, Cls H S w → R (.returned (.tuple #[.agg cs.toArray, v])) w) : At n (bodyPost P fn R) .ret l (Cls H S) :=
 ⟨fun a w hs' hc => ⟨hs'.df, .tuple #[.agg cs.toArray, v], by
  have h1 := hs'.at_ tt true _ ht
  have h3 := hs'.at_ u true _ hu
  have h2 := run_loadVar_agg (P := P) (t := ty) (vs := cs) (a := ⟨b, 0, none⟩) (w := w) (by rw [hk]; exact hs) (fun j v hj => by rw [add_mid, Nat.zero_add, blk_cell (hc.item hp)]; exact hj)
  simp [results, hr, Array.getD_eq_getD_getElem?, h1, asAddr, h2, h3], h w hc⟩⟩
theorem At.finCTT {fn : Func} {R : Ending → World → Prop} {tt b k u u2 : Nat} {t' : TypeId} {cs : List Value} {v v2 : Value} (hr : fn.results = #[.cell tt ty, .tmp u, .tmp u2]) (ht : look l tt = some (true, .pointer (some ⟨b, 0, none⟩))) (hp : blk b t' cs ∈ H) (hs : aggN P ty = some k) (hk : cs.length = k)
  (hu : look l u = some (true, v)) (hu2 : look l u2 = some (true, v2)) (h : ∀ w, Cls H S w → R (.returned (.tuple #[.agg cs.toArray, v, v2])) w) : At n (bodyPost P fn R) .ret l (Cls H S) :=
 ⟨fun a w hs' hc => ⟨hs'.df, .tuple #[.agg cs.toArray, v, v2], by
  have h1 := hs'.at_ tt true _ ht
  have h3 := hs'.at_ u true _ hu
  have h4 := hs'.at_ u2 true _ hu2
  have h2 := run_loadVar_agg (P := P) (t := ty) (vs := cs) (a := ⟨b, 0, none⟩) (w := w) (by rw [hk]; exact hs) (fun j v hj => by rw [add_mid, Nat.zero_add, blk_cell (hc.item hp)]; exact hj)
  simp [results, hr, Array.getD_eq_getD_getElem?, h1, asAddr, h2, h3, h4], h w hc⟩⟩
end
end Go.Eng

/- Append of a slice that reads, of any length, to a grown row. General. No condition. -/
namespace Go.Eng
open Go.RowKit
section
variable {P : Program} {n : Nat} {l : Env} {H : List Item} {S : List World} {C : World → Prop} {ty : TypeId} {pos : String} {af : Array Edge}
variable {ops : Array Oper} {rest : List Oper} {Q : Exit → Act → World → Prop} {t : TypeId} {x y : Operand}
theorem run_append_src_nil2 {w : World} {ty e : TypeId} {i : TypeInfo} {q : Option Addr} {m cap cap2 : Nat} (ht : P.underlying t = some (.slice e)) (hi : P.info? e = some i) (hc : m ≤ cap) :
  (Builtin.append_ #[t, t] ty #[.slice q m cap, .slice none 0 cap2]).run P w = .ok (.slice q m cap) w := by
 cases q <;> simp [Builtin.append_, run_underlying ht, sizeOf, typeInfo, hi, Builtin.lenOf, hc, Builtin.firstCells, loadCells, loadCellsFrom, storeCells]
theorem OL.appendK {F : Item → List Item} {e : TypeId} {dd sz bb p m cap cap2 m2 base : Nat} {O : Nat → Prop} {q q2 : Option Addr} {xs news : List Value}
  (hx : evl l x = some (true, .slice q m cap)) (hy : evl l y = some (true, .slice q2 m2 cap2)) (hn : Nat.ble (dd + 1) n = true)
  (hu : rowElem P t = some (e, sz, bb)) (hp' : Hole p H (row base O q m cap e sz xs) F) (hsl : ∀ w, Cls H S w → SlAt w w.heap.size q2 news) (hl : news.length = m2 * sz) (h1 : oneL news = true)
  (hs : ∃ s ∈ S, base ≤ s.heap.size) (hlim : (m + m2) ≤ 9223372036854775807 ∧ (m + m2) * bb ≤ 140737488355328)
  (k : ∀ (O' : Nat → Prop) (q' : Option Addr) (cap' : Nat), OL P n ops Q rest ((dd, true, .slice q' (m + m2) cap') :: l) (Cls (F (row base O' q' (m + m2) cap' e sz (xs ++ news))) S)) :
  OL P n ops Q (⟨some dd, .call { callee := .builtin .append, args := #[x, y], argTypes := #[t, t] }, ty, pos, af, none⟩ :: rest) l (Cls H S) := by
 have hp := hp'.eq.1
 have hF := hp'.eq.2
 refine OL.newT (α := (Nat → Prop) × Option Addr × Nat) (C' := fun r w => Cls (H.set p (row base r.1 r.2.1 (m + m2) r.2.2 e sz (xs ++ news))) S w) rfl rfl hn (fun r => .slice r.2.1 (m + m2) r.2.2) (fun a w hs' hc => ?_) (fun r => by rw [← hF]; exact k r.1 r.2.1 r.2.2)
 obtain ⟨i, z, g1, g2, g3, g4, g5, g6, g7⟩ := rowElem_spec hu
 obtain ⟨s, hsm, hsb⟩ := hs
 have hbw : base ≤ w.heap.size := Nat.le_trans hsb (hc.kp s hsm).size
 have hi := hc.item (List.mem_of_getElem? hp)
 cases q2 with
 | none =>
  have hm2 : news = [] := by
   cases news with
   | nil => rfl
   | cons v r =>
    obtain ⟨a, ha, _⟩ := hsl w hc (by simp)
    cases ha
  subst hm2
  have hm0 : m2 = 0 := by
   rcases Nat.eq_zero_or_pos m2 with h0 | h0
   ·exact h0
   ·have := Nat.mul_pos h0 g7
    simp at hl
    omega
  subst hm0
  refine ⟨(O, q, cap), w, ?_, ?_⟩
  ·simp only [execOp, resolve, invoke, builtin, Sem.run_bind, Sem.run_pure, Result.andThen_ok, List.map_toArray, List.map_cons, List.map_nil, hs'.eval hx rfl, hs'.eval hy rfl, run_append_src_nil2 (P := P) (cap2 := cap2) (w := w) (ty := ty) (q := q) g1 g2 (row_le hi)]
   rfl
  ·simp only [List.append_nil, Nat.add_zero]
   rwa [set_same hp]
 | some ad =>
  have hnews : ∀ j u, news[j]? = some u → w.cell? (ad.add j) = some u := fun j u hj => by
   obtain ⟨a, ha, _, hca⟩ := hsl w hc (by have := (List.getElem?_eq_some_iff.1 hj).1; omega)
   obtain rfl := Option.some.inj ha
   exact hca j u hj
  obtain ⟨v', w', hr, h2, h3, h4, h5⟩ := run_append_own_at (P := P) (w := w) base t ty e i z sz bb g1 g2 g3 g4 g5 g6 g7 _ m xs hi.2 ad m2 cap2 news hl hnews (fun u hu => oneL_mem h1 u hu) hlim.1 hlim.2 hbw
  have hown : ∀ k, some k = (Value.slice q m cap).ownBlock → base ≤ k ∧ O k := fun k hk => by
   cases q with
   | none => simp [Value.ownBlock] at hk
   | some a =>
    simp only [Value.ownBlock, Option.some.injEq] at hk
    subst hk
    exact ⟨(World.ownsRow.lt hi.2 _ rfl).1, hi.1 _ rfl⟩
  rcases h2.2 with ⟨rfl, h0⟩ | ⟨g', cap', cur, rfl, hb', hg', hrest⟩
  ·refine ⟨(O, none, 0), w', ?_, ?_⟩
   ·simp only [execOp, resolve, invoke, builtin, Sem.run_bind, Sem.run_pure, Result.andThen_ok, List.map_toArray, List.map_cons, List.map_nil, hs'.eval hx rfl, hs'.eval hy rfl, hr, h0]
   ·rw [h0] at h2 ⊢
    refine hc.turn p hp (j := row base O none 0 0 e sz (xs ++ news)) ⟨h3.os, h3.tape, h3.output, h3.size, fun k hk hO => h3.block k hk (fun e => hO (hown k e))⟩ ⟨fun a ha => (by cases ha), h2⟩ (fun k hk => ⟨.inl hk, Nat.lt_of_lt_of_le (hc.lt _ (List.mem_of_getElem? hp) k hk) h3.size⟩) (fun k hk => hk)
  ·refine ⟨(fun k => O k ∨ k = g', some ⟨g', 0, none⟩, cap'), w', ?_, ?_⟩
   ·simp only [execOp, resolve, invoke, builtin, Sem.run_bind, Sem.run_pure, Result.andThen_ok, List.map_toArray, List.map_cons, List.map_nil, hs'.eval hx rfl, hs'.eval hy rfl, hr]
   ·refine hc.turn p hp (j := row base (fun k => O k ∨ k = g') (some ⟨g', 0, none⟩) (m + m2) cap' e sz (xs ++ news)) ⟨h3.os, h3.tape, h3.output, h3.size, fun k hk hO => h3.block k hk (fun e => hO (hown k e))⟩ ?_ ?_ ?_
    ·exact ⟨fun a ha => by cases ha; exact .inr rfl, h2⟩
    ·intro k hk
     have hlt : g' < w'.heap.size := (Array.getElem?_eq_some_iff.1 hg').1
     rcases hk.2 with h | h
     ·exact ⟨.inl ⟨hk.1, h⟩, Nat.lt_of_lt_of_le (hc.lt _ (List.mem_of_getElem? hp) k ⟨hk.1, h⟩) h3.size⟩
     ·subst h
      refine ⟨?_, hlt⟩
      rcases h5 with h5 | h5
      ·exact .inl (hown k (by rw [← h5]; rfl))
      ·simp only [Value.ownBlock, Option.some.injEq] at h5
       exact .inr (by omega)
    ·exact fun k hk => ⟨hk.1, .inl hk.2⟩
end
end Go.Eng

/- The walks of the reference's Over, Operands, usable and FuncErr. Conditions: none. -/
namespace Go.Eng
open Go.RowKit
section
variable {P : Program} {n : Nat} {l : Env} {C : World → Prop} {c : Bool} {ty : TypeId} {pos : String} {af : Array Edge} {g : Option (Nat × Bool)}
variable {ops : Array Oper} {rest : List Oper} {Q : Exit → Act → World → Prop}
theorem Pev.void {o : Oper} {v : Value} (h : c = false) : Pev P n l C o c v := ⟨fun hc => by rw [h] at hc; cases hc⟩
theorem OL.callG {α : Type} (V : α → Value) (Φ : α → Prop) (C' : α → World → Prop) {f : FuncId} {args : List Operand} {vs : List Value} {ats : Array TypeId} {dd : Nat} (hg : Guard l ops g c) (hc1 : c = true) (hn : Nat.ble (dd + 1) n = true) (hf : callable P f = true) (ha : Args l c args vs)
  (h : ∀ w, C w → Calls P f vs.toArray w fun e w' => ∃ x, e = .returned (V x) ∧ Φ x ∧ C' x w')
  (k : ∀ x, Φ x → OL P n ops Q rest ((dd, true, V x) :: l) (C' x)) : OL P n ops Q (⟨some dd, .call { callee := .value (.func f), args := args.toArray, argTypes := ats }, ty, pos, af, g⟩ :: rest) l C := by
 have hn' := Nat.le_of_ble_eq_true hn
 refine ⟨fun a w hs hc => ?_⟩
 unfold wpList
 rw [Guard.wanted (o := ⟨some dd, .call { callee := .value (.func f), args := args.toArray, argTypes := ats }, ty, pos, af, g⟩) hs hg, hc1]
 refine .inl ?_
 show Oper.upon P _ a _ Q ((execOp a.eval _).run P w)
 rw [run_call hf]
 show Calls P f _ w _
 rw [List.map_toArray, ha.map hs hc1]
 refine (h w hc).mono fun e w' ⟨x, he, hx, hc'⟩ => ?_
 subst he
 exact (k x hx).run _ w' (hs.put hn' true _) hc'
end
end Go.Eng
namespace Go.Ss
open Go.Eng Go.RowKit
theorem ints_one (l : List Int) : oneL (ints l) = true := by
 induction l with
 | nil => rfl
 | cons x r ih => simp only [ints, List.map_cons, oneL] at ih ⊢; rw [ih]; rfl
theorem flat_le : ∀ {l : List Ed} (n : Nat), ((l.take n).flatMap Ed.args).length ≤ (l.flatMap Ed.args).length
 | [], n => by simp
 | e :: l, 0 => by simp
 | e :: l, n + 1 => by
  have := flat_le (l := l) n
  simp only [List.take_succ_cons, List.flatMap_cons, List.length_append]
  omega
end Go.Ss
namespace Go.Proofs.Ytehelljmaiophaa.ss
set_option maxRecDepth 100000
open Go.Eng Go.RowKit Go.Ss
theorem Over_calls (es : List (Bk × BkY)) (q : Option Addr) (cap : Nat) (nm : Int) (a b : Nat) (w : World) (he : Arr bkR w (low w) es q) (hlen : es.length ≤ 140737488355328) (hb : b < es.length) :
  Calls Try.prog 49 [.agg #[.int .i64 nm, .slice q es.length cap], .int .i64 (a : Int), .int .i64 (b : Int)].toArray w fun e w' => ∃ r : Bool, e = .returned (.bool r) ∧ (r = true ↔ Ovr (graphB (es.map Prod.fst)) a b) ∧ Ext w w' := by
 refine enter Try.func49 rfl Try.ntmps49 rfl (Cls.start w) (zen ?_)
 apply W.sr
 apply OL.box; rfl; rfl; exact CellsL.agg; (intro bk hbk; simp only [AllLe, and_true] at hbk)
 refine zgs ?_
 by_cases hab : a = b
 ·(((first | apply OL.op | apply QL.op); exact Guard.au; rfl; rfl); (exact Pev.void (v := .slice none 0 0) (by simp; omega)))
  refine zgs ?_
  (refine zfn ?_; intro w' hw')
  exact ⟨_, rfl, ⟨fun _ => .inl hab, fun _ => by simp [hab]⟩, by (exact hw'.fr)⟩
 ·revert bk
  intro bF hbF
  refine OL.callG (α := Nat × List Bool) (fun z => .slice (some ⟨z.1, 0, none⟩) es.length es.length) (fun z => w.heap.size ≤ z.1 ∧ z.2.length = es.length ∧ ∀ k : Nat, z.2[k]? = some true ↔ Rc (graphB (es.map Prod.fst)) (a : Int) k) (fun z => Cls (blk z.1 4 (bls z.2) :: [blk bF 24 [.int .i64 nm, .slice q es.length cap]]) [w]) Guard.au (by simp; omega) rfl rfl (by exact Args.au) (fun w2 hw2 => (Reach_calls es q cap nm (a : Int) w2 (he.at hw2 (by exact mau) (fun k hk => by exact NotOwned.au)) hlen).mono fun e w3 ⟨bR, B, h1, h2, h3, h4, h5, h6⟩ => ⟨(bR, B), h1, ⟨Nat.le_trans (hw2.kp w (by exact mau)).size h5, h2, h3⟩, hw2.add h4 _ h6 (fun k hk => by rw [show k = bR from hk]; exact ⟨h5, blk_lt h6⟩)⟩) ?_
  rintro ⟨bR, B⟩ ⟨hbR, hBl, hB⟩
  simp only at hbR hBl hB ⊢
  have hbk : B[b]? = some (B.getD b false) := getD_true (by omega)
  have hbv : (bls B)[0 + (b : Int).toNat * 1]? = some (.bool (B.getD b false)) := by
   rw [show 0 + (b : Int).toNat * 1 = b by omega]
   exact bls_get hbk
  refine zgs ?_
  (refine zfn ?_; intro w' hw')
  refine ⟨_, rfl, ?_, (hw'.thin (.any (fun k hk => ?_) (by exact Thin.au))).fr (by exact mau) (fun k hk => NotOwned.nil)⟩
  ·have h9 : decide ((a : Int) = (b : Int)) = false := decide_eq_false (by omega)
   rw [h9]
   unfold Ovr
   rw [← hB b, hbk]
   simp [hab]
  ·rw [show k = bR from hk]
   exact ⟨hbR, trivial⟩
theorem Operands_calls (t : Tm) (y : TmY) (w : World) (ht : TmOk w (low w) t y) (hlim : (operT t).length ≤ 1000000000) :
  Calls Try.prog 59 [.agg (tmC t y).toArray].toArray w fun e w' => ∃ (q : Option Addr) (c : Nat), e = .returned (.slice q (operT t).length c) ∧ Ext w w' ∧ IntsO w' (fresh w w') (operT t) q := by
 obtain ⟨ts, hts, harr⟩ := ht.t
 have htl := ht.tl
 have htl2 : t.to_.length = ts.length := by rw [← hts, List.length_map]
 refine enter Try.func59 rfl Try.ntmps59 rfl (Cls.start w) (zen ?_)
 simp only [tmC]
 apply W.sr
 apply OL.box; rfl; rfl; exact CellsL.agg; (intro bk hbk; simp only [AllLe, and_true] at hbk)
 refine zgs ?_
 revert bk
 intro bT hbT
 obtain ⟨pre, hpre⟩ : ∃ pre, (if t.kind = 0 ∨ t.kind = 2 ∨ t.kind = 3 then [t.arg] else []) = pre := ⟨_, rfl⟩
 have hop : operT t = pre ++ t.to_.flatMap Ed.args := by rw [← hpre]; rfl
 have hpl : pre.length ≤ 1 := by rw [← hpre]; split <;> simp
 have hol : (pre ++ t.to_.flatMap Ed.args).length ≤ 1000000000 := by rw [← hop]; exact hlim
 rw [hop]
 refine W.joinx (G := GR) (fun _ => True) (fun g => [(1, true, .pointer (some ⟨bT, 0, none⟩)), (3, true, .slice g.q pre.length g.c)]) (fun g => Cls [row w.heap.size g.O g.q pre.length g.c 3 1 (ints pre), blk bT 39 [.int .i64 t.kind, .int .i64 t.arg, .int .i64 t.n, .slice y.c.1 t.cases.length y.c.2, .slice y.t.1 t.to_.length y.t.2]] [w]) ?_ ?_
 ·refine W.cls (fun w' hw' => hw'.row_nil w.heap.size 3 1) ?_
  refine W.cond rfl (fun h1 => ?_) (fun h1 => ?_)
  ·have : pre = [t.arg] := by rw [← hpre, if_pos (by simp at h1; omega)]
   rw [this]
   refine zgs ?_
   apply OL.buildSlice; rfl; rfl; rfl; exact Elems.au; rfl; rfl; (intro bk hbk; simp only [AllLe, and_true] at hbk)
   apply OL.append; rfl; rfl; rfl; rfl; exact Hole.au; exact .head _; exact Take.au; rfl; rfl; exact ⟨_, .head _, Nat.le_refl _⟩; omega; intro O1 g1 cap1
   refine zgs ?_
   exact At.joinedx ⟨O1, some ⟨g1, 0, none⟩, cap1⟩ trivial (by exact Sub.au) (fun w' hw' => hw'.thin (by exact Thin.au))
  ·have : pre = [] := by rw [← hpre, if_neg (by simp at h1; omega)]
   rw [this]
   apply W.skip
   exact At.joinedx ⟨_, _, _⟩ trivial (by exact Sub.au) (fun w' hw' => hw')
 rintro ⟨O0, q0, c0⟩ _
 simp only
 refine zgs ?_
 refine W.loop (G := Nat × GR) (fun g => g.1 ≤ ts.length) (fun g => ts.length - g.1)
  (fun g => [(3, true, .slice g.2.q (pre ++ (t.to_.take g.1).flatMap Ed.args).length g.2.c), (25, true, .slice y.t.1 ts.length y.t.2), (26, true, .int .i64 (ts.length : Int)), (27, true, .int .i64 (g.1 : Int))])
  (fun g => Cls [row w.heap.size g.2.O g.2.q (pre ++ (t.to_.take g.1).flatMap Ed.args).length g.2.c 3 1 (ints (pre ++ (t.to_.take g.1).flatMap Ed.args))] [w]) (0, ⟨O0, q0, c0⟩) (by simp) (by simp only [List.take_zero, List.flatMap_nil, List.append_nil]; rw [htl2]; exact Sub.au) (fun w' hw' => by simp only [List.take_zero, List.flatMap_nil, List.append_nil]; exact hw'.thin (by exact Thin.au)) ?_
 rintro ⟨j, ⟨Op, qp, cp⟩⟩ hj
 simp only at hj ⊢
 refine zgs ?_
 refine W.cnd ?_ ?_ <;> intro hlt <;> try exact zwx hlt
 ·have hjl : j < ts.length := by omega
  obtain ⟨ae, u, hqt, hatb, hu, hcu, hoku⟩ := harr.get hjl
  have hatb : ae.block < w.heap.size := hatb
  have hcu : CellsAt w (ae.add (j * 2)) [.int .i64 u.1.block, .slice u.2.1 u.1.args.length u.2.2] := hcu
  have hue : t.to_[j]? = some u.1 := by rw [← hts, List.getElem?_map, hu]; rfl
  have hnx : pre ++ (t.to_.take (j + 1)).flatMap Ed.args = (pre ++ (t.to_.take j).flatMap Ed.args) ++ u.1.args := by
   rw [List.take_add_one, hue]
   simp
  have hle := flat_le (l := t.to_) (j + 1)
  have hln : (pre ++ (t.to_.take (j + 1)).flatMap Ed.args).length ≤ 1000000000 := by
   rw [List.length_append] at hol ⊢
   omega
  rw [hnx, List.length_append] at hln
  generalize pre ++ (t.to_.take j).flatMap Ed.args = xs at *
  rw [hqt]
  refine zgs ?_
  apply OL.alloc; rfl; rfl; exact CellsL.agg; (intro bk hbk; simp only [AllLe, and_true] at hbk)
  refine zgs ?_
  (apply OL.appendK (news := ints u.1.args)); rfl; rfl; rfl; rfl; (exact Hole.au); (exact fun w2 hw2 => (hoku.2.2.1.at hw2 (.head _) (fun k hk => by exact NotOwned.au)).slAt); (rw [ints_length, Nat.mul_one]); (exact ints_one _); (exact ⟨w, .head _, Nat.le_refl _⟩); (omega); (intro O1 q1 c1)
  rw [← ints_append]
  refine zgs ?_
  refine At.again (j + 1, ⟨O1, q1, c1⟩) (by simp only; omega) (by simp only; omega) (by simp only [hnx, List.length_append]; exact Sub.au) (fun w' hw' => ?_)
  simp only [hnx, List.length_append]
  exact hw'.thin (by exact Thin.au)
 ·obtain rfl : j = ts.length := by omega
  rw [← htl2, List.take_length]
  refine zgs ?_
  (refine zfn ?_; intro w' hw')
  exact ⟨qp, cp, rfl, by (exact hw'.fr), rowInts hw' (.head _) (Nat.le_refl _)⟩
theorem usable_calls (es : List (Bk × BkY)) (q : Option Addr) (cap : Nat) (nm v : Int) (k at_ bR : Nat) (B : List Bool) (w : World) (he : Arr bkR w (low w) es q) (hlen : es.length ≤ 140737488355328) (hk : k < es.length) (hsh : shapeE (es.map Prod.fst) = 0)
  (hBl : B.length = es.length) (hB : B[k]? = some true ↔ Rc (graphB (es.map Prod.fst)) (-1) k) (hbl : (blk bR 4 (bls B)).holds w) :
  Calls Try.prog 58 [.agg #[.int .i64 nm, .slice q es.length cap], .int .i64 v, .int .i64 (k : Int), .int .i64 (at_ : Int), .slice (some ⟨bR, 0, none⟩) es.length es.length].toArray w fun e w' => ∃ r : Bool, e = .returned (.bool r) ∧ (r = true ↔ Fine (es.map Prod.fst) v k at_) ∧ Ext w w' := by
 obtain ⟨bs, hbs⟩ : ∃ bs, es.map Prod.fst = bs := ⟨_, rfl⟩
 have hbsl : bs.length = es.length := by rw [← hbs, List.length_map]
 rw [hbs] at hsh hB ⊢
 have hbR : bR < w.heap.size := blk_lt hbl
 have hbk : B[k]? = some (B.getD k false) := getD_true (by omega)
 have hbv : w.cell? ⟨bR, 0 + (k : Int).toNat * 1, none⟩ = some (.bool (B.getD k false)) := by
  rw [blk_cell hbl, show 0 + (k : Int).toNat * 1 = k by omega]
  exact bls_get hbk
 have hBk : B.getD k false = true ↔ Rc (graphB bs) (-1) k := by rw [← hB, hbk]; simp
 have huniq : ∀ b a b' a', DefAt bs v b a → DefAt bs v b' a' → b = b' ∧ a = a' := fun b a b' a' h1 h2 => by
  have h3 := (plget_iff hsh).2 h1
  rw [(plget_iff hsh).2 h2] at h3
  have := Option.some.inj h3
  exact ⟨(Prod.mk.inj this).1.symm, (Prod.mk.inj this).2.symm⟩
 generalize hz : B.getD k false = z at *
 refine enter Try.func58 rfl Try.ntmps58 rfl (Cls.start w) (zen ?_)
 apply W.sr
 apply OL.box; rfl; rfl; exact CellsL.agg; (intro bk hbk; simp only [AllLe, and_true] at hbk)
 refine zgs ?_
 revert bk
 intro bF hbF
 refine W.loop (G := Nat) (fun n => n ≤ es.length ∧ ∀ m a, m < n → DefAt bs v m a → ¬ (m ≠ k ∨ a ≤ at_ ∨ z = false)) (fun n => es.length - n)
  (fun n => [(1, true, .int .i64 v), (2, true, .int .i64 (k : Int)), (3, true, .int .i64 (at_ : Int)), (4, true, .slice (some ⟨bR, 0, none⟩) es.length es.length), (5, true, .pointer (some ⟨bF, 0, none⟩)), (17, true, .slice q es.length cap), (18, true, .int .i64 (es.length : Int)), (19, true, .int .i64 (n : Int))])
  (fun n => Cls [blk bF 24 [.int .i64 nm, .slice q es.length cap]] [w]) 0 ⟨by omega, fun m a h => by omega⟩ (by exact Sub.au) (fun w' hw' => hw') ?_
 rintro n ⟨hn, hn0⟩
 refine zgs ?_
 refine W.cnd ?_ ?_ <;> intro hlt <;> try exact zwx hlt
 ·have hnl : n < es.length := by omega
  obtain ⟨a, p, hqa, hab, hp, hcell, hok⟩ := he.get hnl
  have hab : a.block < w.heap.size := hab
  have hcell : CellsAt w (a.add (n * 7)) [.slice p.2.p.1 p.1.params.length p.2.p.2, .slice p.2.i.1 p.1.ins.length p.2.i.2, .int .i64 p.1.term.kind, .int .i64 p.1.term.arg, .int .i64 p.1.term.n, .slice p.2.t.c.1 p.1.term.cases.length p.2.t.c.2, .slice p.2.t.t.1 p.1.term.to_.length p.2.t.t.2] := hcell
  have hbsn : bs[n]? = some p.1 := by rw [← hbs, List.getElem?_map, hp]; rfl
  have hpl := hok.pl
  have hil := hok.il
  obtain ⟨pi, hpi, hiarr⟩ := hok.i
  have hpil : p.1.ins.length = pi.length := by rw [← hpi, List.length_map]
  rw [hqa]
  refine zgs ?_
  apply OL.alloc; rfl; rfl; exact CellsL.agg; (intro bk hbk; simp only [AllLe, and_true] at hbk)
  refine zgs ?_
  revert bk
  intro b12 hb12
  have hb121 : w.heap.size ≤ b12 := by first | exact hb12 | exact hb12.1
  (((first | apply OL.op | apply QL.op); exact Guard.au; rfl; rfl); (exact Pev.call (v := .bool (decide (v ∈ p.1.params))) rfl (by exact Args.au) (fun _ w2 hw2 => (HasInt_calls p.2.p.1 p.2.p.2 p.1.params v w2 (by omega) (hok.p.at hw2 (by exact mau) (fun k hk => by exact NotOwned.au))).mono (fun e w3 h => ⟨h.1, hw2.ext h.2⟩))))
  refine zgs ?_
  refine W.loop (G := Nat × Bool) (fun g => g.1 ≤ pi.length ∧ (g.2 = true ↔ ∃ a, a ≤ g.1 ∧ DefAt bs v n a ∧ (n ≠ k ∨ a ≤ at_ ∨ z = false))) (fun g => pi.length - g.1)
   (fun g => [(1, true, .int .i64 v), (2, true, .int .i64 (k : Int)), (3, true, .int .i64 (at_ : Int)), (4, true, .slice (some ⟨bR, 0, none⟩) es.length es.length), (5, true, .pointer (some ⟨bF, 0, none⟩)), (11, true, .int .i64 (n : Int)), (13, true, .bool g.2), (17, true, .slice (some a) es.length cap), (18, true, .int .i64 (es.length : Int)), (19, true, .int .i64 (n : Int)), (29, true, .slice p.2.i.1 pi.length p.2.i.2), (30, true, .int .i64 (pi.length : Int)), (31, true, .int .i64 (g.1 : Int))])
   (fun g => Cls [blk bF 24 [.int .i64 nm, .slice (some a) es.length cap]] [w]) (0, decide (v ∈ p.1.params)) ⟨by simp, ?_⟩ (by rw [← hpil]; exact Sub.au) (fun w' hw' => hw'.thin (.any (fun k hk => by rw [show k = b12 from hk]; exact ⟨hb121, trivial⟩) Thin.same)) ?_
  ·simp only [decide_eq_true_eq]
   constructor
   ·intro h
    exact ⟨0, by omega, ⟨p.1, hbsn, .inl ⟨rfl, h⟩⟩, .inr (.inl (Nat.zero_le _))⟩
   ·rintro ⟨a', h1, ⟨x, hx, h2⟩, _⟩
    rw [hbsn] at hx
    obtain rfl := Option.some.inj hx
    rcases h2 with ⟨_, h2⟩ | ⟨j, i, h2, _⟩
    ·exact h2
    ·omega
  rintro ⟨j, hh⟩ ⟨hj, hh0⟩
  simp only at hj hh0 ⊢
  refine zgs ?_
  refine W.cnd ?_ ?_ <;> intro hlt2 <;> try exact zwx hlt2
  ·have hjl : j < pi.length := by omega
   obtain ⟨ai, u, hqi, haib, hu, hcu, hoku⟩ := hiarr.get hjl
   have haib : ai.block < w.heap.size := haib
   have hcu : CellsAt w (ai.add (j * 4)) [.int .i64 u.1.to_, .int .i64 u.1.op, .int .i64 u.1.n, .slice u.2.1 u.1.args.length u.2.2] := hcu
   have hui : p.1.ins[j]? = some u.1 := by rw [← hpi, List.getElem?_map, hu]; rfl
   rw [hqi]
   refine zgs ?_
   apply OL.alloc; rfl; rfl; exact CellsL.agg; (intro bk hbk; simp only [AllLe, and_true] at hbk)
   refine zgs ?_
   refine At.again (j + 1, (hh || decide (u.1.to_ = v) && (!decide ((n : Int) = (k : Int)) || decide ((j : Int) < (at_ : Int)) || !z))) ⟨by simp only; omega, ?_⟩ (by simp only; omega) (by exact Sub.au) (fun w' hw' => hw'.thin (by exact Thin.au))
   simp only [Bool.or_eq_true, Bool.and_eq_true, decide_eq_true_eq, Bool.not_eq_true', decide_eq_false_iff_not]
   constructor
   ·rintro (h | ⟨h1, h2⟩)
    ·obtain ⟨a', h3, h4, h5⟩ := hh0.1 h
     exact ⟨a', by omega, h4, h5⟩
    ·refine ⟨j + 1, by omega, ⟨p.1, hbsn, .inr ⟨j, u.1, rfl, hui, h1⟩⟩, ?_⟩
     rcases h2 with (h2 | h2) | h2
     ·exact .inl (by omega)
     ·exact .inr (.inl (by omega))
     ·exact .inr (.inr h2)
   ·rintro ⟨a', h3, h4, h5⟩
    by_cases e : a' ≤ j
    ·exact .inl (hh0.2 ⟨a', e, h4, h5⟩)
    ·right
     obtain rfl : a' = j + 1 := by omega
     obtain ⟨x, hx, h6⟩ := h4
     rw [hbsn] at hx
     obtain rfl := Option.some.inj hx
     rcases h6 with ⟨h6, _⟩ | ⟨j', i, h6, h7, h8⟩
     ·omega
     ·obtain rfl : j = j' := by omega
      rw [hui] at h7
      obtain rfl := Option.some.inj h7
      refine ⟨h8, ?_⟩
      rcases h5 with h5 | h5 | h5
      ·exact .inl (.inl (by omega))
      ·exact .inl (.inr (by omega))
      ·exact .inr h5
  ·obtain rfl : j = pi.length := by omega
   refine zgs ?_
   cases hhv : hh with
   | true =>
    obtain ⟨a', h3, h4, h5⟩ := hh0.1 hhv
    refine W.cond rfl (fun h9 => ?_) (fun h9 => by cases h9)
    cases hzv : z with
    | false =>
     rw [hzv] at hbv
     refine zgs ?_
     (refine zfn ?_; intro w' hw')
     refine ⟨_, rfl, ⟨fun _ => ⟨n, a', h4, .inr (.inr fun hr => ?_)⟩, fun _ => by simp⟩, by (exact hw'.fr)⟩
     rw [hBk.2 hr] at hzv
     cases hzv
    | true =>
     rw [hzv] at hbv
     refine zgs ?_
     refine OL.callG (α := Bool) (fun r => .bool r) (fun r => r = true ↔ Ovr (graphB bs) n k) (fun _ => Cls [blk bF 24 [.int .i64 nm, .slice (some a) es.length cap]] [w]) Guard.au (by simp) rfl rfl (by exact Args.au) (fun w2 hw2 => (Over_calls es (some a) cap nm n k w2 ((hqa ▸ he : Arr bkR w (low w) es (some a)).at hw2 (by exact mau) (fun k hk => by exact NotOwned.au)) hlen hk).mono fun e w3 ⟨r, h6, h7, h8⟩ => ⟨r, h6, by rw [hbs] at h7; exact h7, hw2.ext h8⟩) ?_
     intro r hr
     refine zgs ?_
     (refine zfn ?_; intro w' hw')
     refine ⟨_, rfl, ?_, by (exact hw'.fr)⟩
     have hrc : Rc (graphB bs) (-1) k := hBk.1 hzv
     simp
     rw [hr]
     constructor
     ·intro ho
      refine ⟨n, a', h4, ?_⟩
      by_cases e : n = k
      ·rcases h5 with h5 | h5 | h5
       ·exact absurd e h5
       ·exact .inl ⟨e, h5⟩
       ·rw [hzv] at h5; cases h5
      ·exact .inr (.inl ⟨e, ho⟩)
     ·rintro ⟨b', a'', h6, h7⟩
      obtain ⟨rfl, rfl⟩ := huniq _ _ _ _ h4 h6
      rcases h7 with h7 | h7 | h7
      ·exact .inl h7.1
      ·exact h7.2
      ·exact absurd hrc h7
   | false =>
    refine W.cond rfl (fun h9 => by cases h9) (fun h9 => ?_)
    refine zgs ?_
    refine At.again (n + 1) ⟨by omega, fun m a' hm hd hx => ?_⟩ (by omega) (by exact Sub.au) (fun w' hw' => hw')
    by_cases e : m = n
    ·subst e
     have h6 : hh = true := hh0.2 ⟨a', ?_, hd, hx⟩
     ·rw [hhv] at h6; cases h6
     ·obtain ⟨x, hx2, h7⟩ := hd
      rw [hbsn] at hx2
      obtain rfl := Option.some.inj hx2
      rcases h7 with ⟨h7, _⟩ | ⟨j', i, h7, h8, _⟩
      ·omega
      ·have := (List.getElem?_eq_some_iff.1 h8).1
       omega
    ·exact hn0 m a' (by omega) hd hx
 ·obtain rfl : n = es.length := by omega
  refine zgs ?_
  (refine zfn ?_; intro w' hw')
  refine ⟨false, rfl, ⟨fun h => (by cases h), ?_⟩, by (exact hw'.fr)⟩
  rintro ⟨b', a', h1, h2⟩
  exfalso
  refine hn0 b' a' ?_ h1 ?_
  ·obtain ⟨x, hx, _⟩ := h1
   have := (List.getElem?_eq_some_iff.1 hx).1
   omega
  ·rcases h2 with h2 | h2 | h2
   ·exact .inr (.inl h2.2)
   ·exact .inl h2.1
   ·right; right
    cases hzv : z with
    | false => rfl
    | true => exact absurd (hBk.1 hzv) h2
end Go.Proofs.Ytehelljmaiophaa.ss
