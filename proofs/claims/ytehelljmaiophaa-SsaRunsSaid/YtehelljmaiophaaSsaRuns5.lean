/- Texts of the proof of SsaRuns, part 5: rules of a calculus for walking, plain laws, and walks of the functions that the law reaches. No condition. -/
import Derived.Test.YtehelljmaiophaaSsaRuns4
set_option linter.unusedVariables false
set_option linter.unusedSimpArgs false
/- The walks of the reference's runner: stop, spend. Conditions: none. -/
namespace Go.Ss
open Go.Eng Go.RowKit
structure RS where
 qF : Option Addr
 nF : Nat
 cF : Nat
 main : Int
 qa : Option Addr
 na : Nat
 ca : Nat
 steps : Int
 fuel : Int
 qo : Option Addr
 no : Nat
 co : Nat
 en : Int
 va : Int
 ed : Bool
def RS.c (m : RS) : List Value := [.slice m.qF m.nF m.cF, .int .i64 m.main, .slice m.qa m.na m.ca, .int .i64 m.steps, .int .i64 m.fuel, .slice m.qo m.no m.co, .int .i64 m.en, .int .i64 m.va, .bool m.ed]
theorem idxI_dr {n c : Int} {l : List Int} {i : Nat} (h : l[i]? = some c) : idxI n (l.drop i) i = if c = n then i else idxI n (l.drop (i + 1)) (i + 1) := by
 obtain ⟨h1, rfl⟩ := List.getElem?_eq_some_iff.1 h
 rw [List.drop_eq_getElem_cons h1, idxI]
theorem tmod_wd (n : Int) : (if 1073741823 < n.tmod 2147483648 then n.tmod 2147483648 - 2147483648 else if n.tmod 2147483648 < -1073741824 then n.tmod 2147483648 + 2147483648 else n.tmod 2147483648) = wd n := by
 have h1 : n.tmod 2147483648 = if 0 ≤ n then n % 2147483648 else -((-n) % 2147483648) := by
  split
  ·rename_i h; exact Int.tmod_eq_emod_of_nonneg h
  ·rename_i h
   have h2 : (-n).tmod 2147483648 = (-n) % 2147483648 := Int.tmod_eq_emod_of_nonneg (by omega)
   rw [← h2, Int.neg_tmod, Int.neg_neg]
 rw [h1]
 unfold wd
 (repeat' split) <;> omega
end Go.Ss
namespace Go.Proofs.Ytehelljmaiophaa.ss
set_option maxRecDepth 100000
open Go.Eng Go.RowKit Go.Ss
theorem rstop_calls (bm : Nat) (m : RS) (en : Int) (hed : m.ed = false) (H : List Eng.Item) (S : List World) (s0 : World) (hs0 : s0 ∈ S) (w : World) (hc : Cls (blk bm 110 m.c :: H) S w) :
  Calls Try.prog 113 [.pointer (some ⟨bm, 0, none⟩), .int .i64 en].toArray w fun e w' => e = .returned (.agg #[.int .i64 0, .int .i64 0, .slice none 0 0]) ∧ Cls (blk bm 110 { m with ed := true, en := en }.c :: H) S w' := by
 have hmc : m.c = [.slice m.qF m.nF m.cF, .int .i64 m.main, .slice m.qa m.na m.ca, .int .i64 m.steps, .int .i64 m.fuel, .slice m.qo m.no m.co, .int .i64 m.en, .int .i64 m.va, .bool false] := by
  unfold RS.c
  rw [hed]
 rw [hmc] at hc
 refine enter Try.func113 rfl Try.ntmps113 rfl hc (zen ?_)
 apply W.sr
 apply OL.alloc; rfl; rfl; exact CellsL.agg; (intro bk hbk; have hbk0 := hbk.mem s0 hs0)
 refine zgs ?_
 refine W.cond rfl (fun _ => ?_) (fun h => absurd h (by decide))
 refine zgs ?_
 refine At.finC (b := bk) (cs := [.int .i64 0, .int .i64 0, .slice none 0 0]) rfl rfl (by exact mau) rfl rfl (fun w' hw' => ⟨rfl, hw'.thin (.any (fun k hk => by rw [show k = bk from hk]; exact hbk) Thin.same)⟩)
theorem rspend_calls (bm : Nat) (m : RS) (n : Int) (hed : m.ed = false) (h0 : 0 ≤ m.steps ∧ m.steps ≤ 1000000) (hn : 0 ≤ n ∧ n ≤ 1000000) (H : List Eng.Item) (S : List World) (s0 : World) (hs0 : s0 ∈ S) (w : World) (hc : Cls (blk bm 110 m.c :: H) S w) :
  Calls Try.prog 111 [.pointer (some ⟨bm, 0, none⟩), .int .i64 n].toArray w fun e w' => e = .returned (.bool (decide (m.steps + n ≤ m.fuel))) ∧ Cls (blk bm 110 { m with steps := m.steps + n, ed := !decide (m.steps + n ≤ m.fuel) }.c :: H) S w' := by
 have hmc : m.c = [.slice m.qF m.nF m.cF, .int .i64 m.main, .slice m.qa m.na m.ca, .int .i64 m.steps, .int .i64 m.fuel, .slice m.qo m.no m.co, .int .i64 m.en, .int .i64 m.va, .bool false] := by
  unfold RS.c
  rw [hed]
 rw [hmc] at hc
 refine enter Try.func111 rfl Try.ntmps111 rfl hc (zen ?_)
 refine zgs ?_
 apply W.regd0; decide +kernel; kernel_rfl; decide +kernel; exact fun w hw => hw.drew
 refine zgs ?_
 by_cases hlt : m.fuel < m.steps + n
 ·refine W.cond rfl (fun _ => ?_) (fun h => by simp at h; omega)
  have hd : decide (m.steps + n ≤ m.fuel) = false := decide_eq_false (by omega)
  unfold RS.c
  rw [hd]
  refine zgs ?_
  (refine zfn ?_; intro w' hw')
  exact ⟨rfl, hw'⟩
 ·refine W.cond rfl (fun h => by simp at h; omega) (fun _ => ?_)
  have hd : decide (m.steps + n ≤ m.fuel) = true := decide_eq_true (by omega)
  unfold RS.c
  rw [hd]
  refine zgs ?_
  (refine zfn ?_; intro w' hw')
  exact ⟨rfl, hw'⟩
theorem redge_calls (t : Tm) (y : TmY) (n : Int) (w : World) (hk : t.kind = 2 ∨ t.kind = 3) (hcl : t.cases.length ≤ 1000000) (htl : t.kind = 3 → t.to_.length = t.cases.length + 1) (hI : IntsO w (low w) t.cases y.c.1) :
  Calls Try.prog 114 [.agg (tmC t y).toArray, .int .i64 n].toArray w fun e w' => e = .returned (.int .i64 (chooseE t n : Int)) ∧ Ext w w' := by
 obtain ⟨v, hv⟩ : ∃ v, chooseE t n = v := ⟨_, rfl⟩
 rw [hv]
 unfold chooseE at hv
 refine enter Try.func114 rfl Try.ntmps114 rfl (Cls.start w) (zen ?_)
 unfold tmC
 apply W.sr
 apply OL.box; rfl; rfl; exact CellsL.agg; (intro bk hbk; simp only [AllLe, and_true] at hbk)
 refine zgs ?_
 revert bk
 intro b2 hb2x
 have hb2 : w.heap.size ≤ b2 := by first | exact hb2x | exact hb2x.1
 refine W.cnd ?_ ?_ <;> intro h2 <;> try exact zwx h2
 ·rw [if_pos h2] at hv
  refine zgs ?_
  refine W.cnd ?_ ?_ <;> intro h0 <;> try exact zwx h0
  ·rw [if_pos h0] at hv
   refine zgs ?_
   (refine zfn ?_; intro w' hw')
   exact ⟨by rw [← hv]; rfl, hw'.toExt (by exact mau) (fun k hk => NotOwned.blk (by omega) NotOwned.nil)⟩
  ·rw [if_neg h0] at hv
   refine zgs ?_
   (refine zfn ?_; intro w' hw')
   exact ⟨by rw [← hv]; rfl, hw'.toExt (by exact mau) (fun k hk => NotOwned.blk (by omega) NotOwned.nil)⟩
 rw [if_neg h2] at hv
 have htl := htl (by omega)
 refine zgs ?_
 refine W.loop (G := Nat) (fun i => i ≤ t.cases.length ∧ idxI n (t.cases.drop i) i = v) (fun i => t.cases.length - i)
  (fun i => [(1, true, .int .i64 n), (2, true, .pointer (some ⟨b2, 0, none⟩)), (13, true, .slice y.c.1 t.cases.length y.c.2), (14, true, .int .i64 (t.cases.length : Int)), (15, true, .int .i64 (i : Int))])
  (fun _ => Cls [blk b2 39 [.int .i64 t.kind, .int .i64 t.arg, .int .i64 t.n, .slice y.c.1 t.cases.length y.c.2, .slice y.t.1 t.to_.length y.t.2]] [w]) 0 ⟨by omega, hv⟩ (by exact Sub.au) (fun w' hw' => hw') ?_
 rintro i ⟨hi, hvi⟩
 refine zgs ?_
 refine W.cnd ?_ ?_ <;> intro hlt <;> try exact zwx hlt
 ·obtain ⟨a, x, hqa, hab, hx, hcx⟩ := hI.get (show i < t.cases.length by omega)
  have hab : a.block < w.heap.size := hab
  rw [idxI_dr hx] at hvi
  rw [hqa]
  refine zgs ?_
  refine W.cnd ?_ ?_ <;> intro hxx <;> try exact zwx hxx
  ·rw [if_pos hxx] at hvi
   refine zgs ?_
   (refine zfn ?_; intro w' hw')
   exact ⟨by rw [← hvi], hw'.toExt (by exact mau) (fun k hk => NotOwned.blk (by omega) NotOwned.nil)⟩
  ·rw [if_neg hxx] at hvi
   refine zgs ?_
   exact At.again (i + 1) ⟨by omega, hvi⟩ (by omega) (by exact Sub.au) (fun w' hw' => hw')
 obtain rfl : i = t.cases.length := by omega
 rw [List.drop_of_length_le (Nat.le_refl _), idxI] at hvi
 refine zgs ?_
 (refine zfn ?_; intro w' hw')
 exact ⟨by rw [← hvi, htl]; congr 2; omega, hw'.toExt (by exact mau) (fun k hk => NotOwned.blk (by omega) NotOwned.nil)⟩
theorem rwrap_calls (n : Int) (hn : I64 n) (w : World) : Calls Try.prog 173 [.int .i64 n].toArray w fun e w' => e = .returned (.int .i64 (wd n)) ∧ Ext w w' := by
 have hw := tmod_wd n
 obtain ⟨z, hz⟩ : ∃ z, n.tmod 2147483648 = z := ⟨_, rfl⟩
 rw [hz] at hw
 refine enter Try.func173 rfl Try.ntmps173 rfl (Cls.start w) (zen ?_)
 refine zgs ?_
 rw [hz]
 have hzb : -2147483648 < z ∧ z < 2147483648 := by
  have h1 : z.natAbs < 2147483648 := by
   rw [← hz, Int.natAbs_tmod]
   exact Nat.mod_lt _ (by decide)
  omega
 clear hz
 refine W.cnd ?_ ?_ <;> intro h1 <;> try exact zwx h1
 ·rw [if_pos h1] at hw
  refine zgs ?_
  (refine zfn ?_; intro w' hw')
  exact ⟨by rw [hw], by (exact hw'.fr)⟩
 rw [if_neg (by omega)] at hw
 refine zgs ?_
 refine W.cnd ?_ ?_ <;> intro h2 <;> try exact zwx h2
 ·rw [if_pos h2] at hw
  refine zgs ?_
  (refine zfn ?_; intro w' hw')
  exact ⟨by rw [hw], by (exact hw'.fr)⟩
 rw [if_neg (by omega)] at hw
 refine zgs ?_
 (refine zfn ?_; intro w' hw')
 exact ⟨by rw [hw], by (exact hw'.fr)⟩
end Go.Proofs.Ytehelljmaiophaa.ss

/- The walk of the reference's compute. Conditions: none. -/
namespace Go.Ss
theorem mul_bd {a b : Int} (ha : -1073741824 ≤ a ∧ a ≤ 1073741823) (hb : -1073741824 ≤ b ∧ b ≤ 1073741823) : -1152921504606846976 ≤ a * b ∧ a * b ≤ 1152921504606846976 := by
 have h : (a * b).natAbs ≤ 1073741824 * 1073741824 := by
  rw [Int.natAbs_mul]
  exact Nat.mul_le_mul (by omega) (by omega)
 omega
end Go.Ss
namespace Go.Proofs.Ytehelljmaiophaa.ss
set_option maxRecDepth 100000
open Go.Eng Go.RowKit Go.Ss
theorem rcomp_calls (op a b : Int) (h : 1 ≤ op ∧ op ≤ 7) (ha : -1073741824 ≤ a ∧ a ≤ 1073741823) (hb : -1073741824 ≤ b ∧ b ≤ 1073741823) (h0 : op = 4 ∨ op = 5 → b ≠ 0) (w : World) : Calls Try.prog 143 [.int .i64 op, .int .i64 a, .int .i64 b].toArray w fun e w' => e = .returned (.int .i64 (binV op a b)) ∧ Ext w w' := by
 obtain ⟨hm0, hm1⟩ := mul_bd ha hb
 obtain ⟨hd0, hd1⟩ := tdiv_bd (b := b) ha
 refine enter Try.func143 rfl Try.ntmps143 rfl (Cls.start w) (zen ?_)
 refine zgs ?_
 refine W.cnd ?_ ?_ <;> intro s1 <;> try exact zwx s1
 ·have hv : binV op a b = wd (a + b) := by unfold binV; rw [if_pos (by omega)]
  refine zgs ?_
  (((first | apply OL.op | apply QL.op); exact Guard.au; rfl; rfl); (exact Pev.call rfl (by exact Args.au) (fun _ w2 hw2 => (rwrap_calls _ (by simp only [I64]; omega) w2).mono (fun e w3 h => ⟨h.1, hw2.ext h.2⟩))))
  refine zgs ?_
  (refine zfn ?_; intro w' hw')
  exact ⟨by rw [hv], by (exact hw'.fr)⟩
 refine zgs ?_
 refine W.cnd ?_ ?_ <;> intro s2 <;> try exact zwx s2
 ·have hv : binV op a b = wd (a - b) := by unfold binV; rw [if_neg (by omega), if_pos (by omega)]
  refine zgs ?_
  (((first | apply OL.op | apply QL.op); exact Guard.au; rfl; rfl); (exact Pev.call rfl (by exact Args.au) (fun _ w2 hw2 => (rwrap_calls _ (by simp only [I64]; omega) w2).mono (fun e w3 h => ⟨h.1, hw2.ext h.2⟩))))
  refine zgs ?_
  (refine zfn ?_; intro w' hw')
  exact ⟨by rw [hv], by (exact hw'.fr)⟩
 refine zgs ?_
 refine W.cnd ?_ ?_ <;> intro s3 <;> try exact zwx s3
 ·have hv : binV op a b = wd (a * b) := by unfold binV; rw [if_neg (by omega), if_neg (by omega), if_pos (by omega)]
  refine zgs ?_
  (((first | apply OL.op | apply QL.op); exact Guard.au; rfl; rfl); (exact Pev.call rfl (by exact Args.au) (fun _ w2 hw2 => (rwrap_calls _ (by simp only [I64]; omega) w2).mono (fun e w3 h => ⟨h.1, hw2.ext h.2⟩))))
  refine zgs ?_
  (refine zfn ?_; intro w' hw')
  exact ⟨by rw [hv], by (exact hw'.fr)⟩
 refine zgs ?_
 refine W.cnd ?_ ?_ <;> intro s4 <;> try exact zwx s4
 ·have hv : binV op a b = wd (a.tdiv b) := by unfold binV; rw [if_neg (by omega), if_neg (by omega), if_neg (by omega), if_pos (by omega)]
  have hb0 := h0 (.inl s4)
  have hw4 : IntKind.i64.wrap (a.tdiv b) = a.tdiv b := IntWalk.i64_in _ (by omega)
  refine zgs ?_
  rw [hw4]
  (((first | apply OL.op | apply QL.op); exact Guard.au; rfl; rfl); (exact Pev.call rfl (by exact Args.au) (fun _ w2 hw2 => (rwrap_calls _ (by simp only [I64]; omega) w2).mono (fun e w3 h => ⟨h.1, hw2.ext h.2⟩))))
  refine zgs ?_
  (refine zfn ?_; intro w' hw')
  exact ⟨by rw [hv], by (exact hw'.fr)⟩
 refine zgs ?_
 refine W.cnd ?_ ?_ <;> intro s5 <;> try exact zwx s5
 ·have hb0 := h0 (.inr s5)
  have he := Int.mul_tdiv_add_tmod a b
  rw [Int.mul_comm] at he
  have htm := tm_bd ha hb hb0
  have hv : binV op a b = wd (a - a.tdiv b * b) := by
   unfold binV
   rw [if_neg (by omega), if_neg (by omega), if_neg (by omega), if_neg (by omega), if_pos (by omega)]
   rw [show a - a.tdiv b * b = a.tmod b by omega]
   exact (wd_id htm).symm
  have hw4 : IntKind.i64.wrap (a.tdiv b) = a.tdiv b := IntWalk.i64_in _ (by omega)
  have hw5 : IntKind.i64.wrap (a.tdiv b * b) = a.tdiv b * b := IntWalk.i64_in _ (by omega)
  have hw6 : IntKind.i64.wrap (a - a.tdiv b * b) = a - a.tdiv b * b := IntWalk.i64_in _ (by omega)
  refine zgs ?_
  rw [hw4, hw5, hw6]
  (((first | apply OL.op | apply QL.op); exact Guard.au; rfl; rfl); (exact Pev.call rfl (by exact Args.au) (fun _ w2 hw2 => (rwrap_calls _ (by simp only [I64]; omega) w2).mono (fun e w3 h => ⟨h.1, hw2.ext h.2⟩))))
  refine zgs ?_
  (refine zfn ?_; intro w' hw')
  exact ⟨by rw [hv], by (exact hw'.fr)⟩
 refine zgs ?_
 refine W.cnd ?_ ?_ <;> intro s6 <;> try exact zwx s6
 ·have hv : binV op a b = b2i (decide (a < b)) := by unfold binV; rw [if_neg (by omega), if_neg (by omega), if_neg (by omega), if_neg (by omega), if_neg (by omega), if_pos (by omega)]
  refine zgs ?_
  refine W.cnd ?_ ?_ <;> intro hl <;> try exact zwx hl
  ·refine zgs ?_
   (refine zfn ?_; intro w' hw')
   exact ⟨by rw [hv, decide_eq_true hl]; rfl, by (exact hw'.fr)⟩
  ·refine zgs ?_
   (refine zfn ?_; intro w' hw')
   exact ⟨by rw [hv, decide_eq_false (by omega)]; rfl, by (exact hw'.fr)⟩
 refine zgs ?_
 have hv : binV op a b = b2i (decide (a = b)) := by unfold binV; rw [if_neg (by omega), if_neg (by omega), if_neg (by omega), if_neg (by omega), if_neg (by omega), if_neg (by omega)]
 refine W.cnd ?_ ?_ <;> intro s7 <;> try exact zwx s7
 ·refine zgs ?_
  refine W.cnd ?_ ?_ <;> intro hl <;> try exact zwx hl
  ·refine zgs ?_
   (refine zfn ?_; intro w' hw')
   exact ⟨by rw [hv, decide_eq_true hl]; rfl, by (exact hw'.fr)⟩
  ·refine zgs ?_
   (refine zfn ?_; intro w' hw')
   exact ⟨by rw [hv, decide_eq_false hl]; rfl, by (exact hw'.fr)⟩
end Go.Proofs.Ytehelljmaiophaa.ss

/- Plain: what a call of the reference's runner stands for in the machine's steps. No program in sight. No condition. -/
namespace Go.Ss
inductive CR where
 | ret (v : SV) (A : List (List SV)) (out : List Int) (left : Nat)
 | fin (f : Fin)
def bkA (fs : List Fn) (fn b : Nat) : Bk := (fnB fs fn).getD b noB
def RunsTo (fs : List Fn) (f : Frm) (A : List (List SV)) (out : List Int) (left : Nat) (r : CR) : Prop := match r with
 | .ret v A' out' left' => ∀ K, ∃ f' : Frm, Steps fs ⟨f :: K, A, out, left⟩ ⟨f' :: K, A', out', left' + 1⟩ ∧ f'.to_ = f.to_ ∧ (bkA fs f'.fn f'.blk).ins[f'.at_]? = none ∧ (bkA fs f'.fn f'.blk).term.kind = 0 ∧ f'.vals (bkA fs f'.fn f'.blk).term.arg = v
 | .fin g => ∀ K, Ends fs ⟨f :: K, A, out, left⟩ g
def RunsT (fs : List Fn) (fn b a : Nat) (vs : Int → SV) (A : List (List SV)) (out : List Int) (left : Nat) (r : CR) : Prop := ∀ t, RunsTo fs ⟨fn, b, a, t, vs⟩ A out left r
def RunsN (fs : List Fn) (fn : Int) (av : List SV) (A : List (List SV)) (out : List Int) (left : Nat) (r : CR) : Prop := RunsT fs fn.toNat 0 0 (setVs (fun _ => zV) (parB fs fn.toNat 0) av) A out left r
section
variable {fs : List Fn} {fn b a fn' b' a' left left' : Nat} {vs vs' : Int → SV} {A A' : List (List SV)} {out out' : List Int} {R : CR}
theorem RunsT.step (h : ∀ K t, stepP fs ⟨⟨fn, b, a, t, vs⟩ :: K, A, out, left⟩ = .next ⟨⟨fn', b', a', t, vs'⟩ :: K, A', out', left'⟩) (r : RunsT fs fn' b' a' vs' A' out' left' R) : RunsT fs fn b a vs A out left R := by
 intro t
 have r := r t
 cases R with
 | ret v A2 out2 left2 =>
  intro K
  obtain ⟨f', h1, h2⟩ := r K
  exact ⟨f', .step (h K t) h1, h2⟩
 | fin g => exact fun K => Ends.after (.one (h K t)) (r K)
theorem RunsT.fin {g : Fin} (h : ∀ K t, stepP fs ⟨⟨fn, b, a, t, vs⟩ :: K, A, out, left⟩ = .fin g) : RunsT fs fn b a vs A out left (.fin g) := fun t K => ⟨_, .refl _, h K t⟩
theorem call_steps {fn2 t2 : Int} {av : List SV} {left1 : Nat} {v : SV} (h : ∀ K t, stepP fs ⟨⟨fn, b, a, t, vs⟩ :: K, A, out, left⟩ = .next ⟨newF fs fn2 av t2 :: ⟨fn, b, a', t, vs⟩ :: K, A, out, left1⟩) (hc : RunsN fs fn2 av A out left1 (.ret v A' out' left')) :
  ∀ K t, Steps fs ⟨⟨fn, b, a, t, vs⟩ :: K, A, out, left⟩ ⟨⟨fn, b, a', t, setV vs t2 v⟩ :: K, A', out', left'⟩ := fun K t => by
  obtain ⟨f', h1, h2, h3, h4, h5⟩ := hc t2 (⟨fn, b, a', t, vs⟩ :: K)
  refine Steps.step (h K t) (h1.trans (.one ?_))
  have h2 : f'.to_ = t2 := h2
  have h3 : ((fnB fs f'.fn).getD f'.blk noB).ins[f'.at_]? = none := h3
  have h4 : ((fnB fs f'.fn).getD f'.blk noB).term.kind = 0 := h4
  have h5 : f'.vals ((fnB fs f'.fn).getD f'.blk noB).term.arg = v := h5
  unfold stepP
  simp only
  rw [if_neg (by omega), h3]
  simp only
  rw [if_neg (by omega), if_neg (by omega), if_pos h4, h2, h5]
  rfl
theorem RunsT.call_ret {fn2 t2 : Int} {av : List SV} {left1 : Nat} {v : SV} (h : ∀ K t, stepP fs ⟨⟨fn, b, a, t, vs⟩ :: K, A, out, left⟩ = .next ⟨newF fs fn2 av t2 :: ⟨fn, b, a', t, vs⟩ :: K, A, out, left1⟩) (hc : RunsN fs fn2 av A out left1 (.ret v A' out' left'))
  (r : RunsT fs fn b a' (setV vs t2 v) A' out' left' R) : RunsT fs fn b a vs A out left R := by
 intro t
 have key := fun K => call_steps h hc K t
 have r := r t
 cases R with
 | ret v2 A2 out2 left2 =>
  intro K
  obtain ⟨f', h1, h2⟩ := r K
  exact ⟨f', (key K).trans h1, h2⟩
 | fin g => exact fun K => Ends.after (key K) (r K)
theorem RunsT.call_fin {fn2 t2 : Int} {av : List SV} {left1 : Nat} {g : Fin} (h : ∀ K t, stepP fs ⟨⟨fn, b, a, t, vs⟩ :: K, A, out, left⟩ = .next ⟨newF fs fn2 av t2 :: ⟨fn, b, a', t, vs⟩ :: K, A, out, left1⟩) (hc : RunsN fs fn2 av A out left1 (.fin g)) : RunsT fs fn b a vs A out left (.fin g) := fun t K =>
 Ends.after (.one (h K t)) (hc t2 _)
/-! the steps by name -/
theorem RunsT.zero : RunsT fs fn b a vs A out 0 (.fin .short) := RunsT.fin fun K t => by
 unfold stepP
 simp only [if_true]
theorem stp_ok {i : In} {v : SV} {c l : Nat} (hi : (bkA fs fn b).ins[a]? = some i) (h13 : i.op ≠ 13) (h14 : i.op ≠ 14) (hr : insP i.op i.n (i.args.map vs) A out = .ok v A' out' c) (hc : c ≤ l) (K : List Frm) (t : Int) : stepP fs ⟨⟨fn, b, a, t, vs⟩ :: K, A, out, l + 1⟩ = .next ⟨⟨fn, b, a + 1, t, setV vs i.to_ v⟩ :: K, A', out', l - c⟩ := by
  have hi : ((fnB fs fn).getD b noB).ins[a]? = some i := hi
  unfold stepP
  simp only
  rw [if_neg (by omega), hi]
  simp only
  rw [if_neg h13, if_neg h14, hr]
  simp only
  rw [if_neg (by omega)]
  rfl
theorem RunsT.ins_ok {i : In} {v : SV} {c l : Nat} (hi : (bkA fs fn b).ins[a]? = some i) (h13 : i.op ≠ 13) (h14 : i.op ≠ 14) (hr : insP i.op i.n (i.args.map vs) A out = .ok v A' out' c) (hc : c ≤ l) (r : RunsT fs fn b (a + 1) (setV vs i.to_ v) A' out' (l - c) R) : RunsT fs fn b a vs A out (l + 1) R := RunsT.step (stp_ok hi h13 h14 hr hc) r
theorem RunsT.ins_short {i : In} {v : SV} {c l : Nat} (hi : (bkA fs fn b).ins[a]? = some i) (h13 : i.op ≠ 13) (h14 : i.op ≠ 14) (hr : insP i.op i.n (i.args.map vs) A out = .ok v A' out' c) (hc : l < c) : RunsT fs fn b a vs A out (l + 1) (.fin .short) :=
 RunsT.fin (fun K t => by
  have hi : ((fnB fs fn).getD b noB).ins[a]? = some i := hi
  unfold stepP
  simp only
  rw [if_neg (by omega), hi]
  simp only
  rw [if_neg h13, if_neg h14, hr]
  simp only
  rw [if_pos (by omega)])
theorem RunsT.ins_trap {i : In} {tr : Int} {l : Nat} (hi : (bkA fs fn b).ins[a]? = some i) (h13 : i.op ≠ 13) (h14 : i.op ≠ 14) (hr : insP i.op i.n (i.args.map vs) A out = .trap tr) : RunsT fs fn b a vs A out (l + 1) (.fin (.done tr 0 out l)) :=
 RunsT.fin (fun K t => by
  have hi : ((fnB fs fn).getD b noB).ins[a]? = some i := hi
  unfold stepP
  simp only
  rw [if_neg (by omega), hi]
  simp only
  rw [if_neg h13, if_neg h14, hr]
  rfl)
theorem RunsT.ins_call {i : In} {l : Nat} (hi : (bkA fs fn b).ins[a]? = some i) (h13 : i.op = 13) : ∀ K t, stepP fs ⟨⟨fn, b, a, t, vs⟩ :: K, A, out, l + 1⟩ = .next ⟨newF fs i.n (i.args.map vs) i.to_ :: ⟨fn, b, a + 1, t, vs⟩ :: K, A, out, l⟩ := fun K t => by
 have hi : ((fnB fs fn).getD b noB).ins[a]? = some i := hi
 unfold stepP
 simp only
 rw [if_neg (by omega), hi]
 simp only
 rw [if_pos h13]
 rfl
theorem RunsT.ins_app {i : In} {l : Nat} (hi : (bkA fs fn b).ins[a]? = some i) (h14 : i.op = 14) (hk : ((i.args.map vs).getD 0 zV).k = 2 ∧ (parB fs ((i.args.map vs).getD 0 zV).n.toNat 0).length = i.args.length) : ∀ K t, stepP fs ⟨⟨fn, b, a, t, vs⟩ :: K, A, out, l + 1⟩ = .next ⟨newF fs ((i.args.map vs).getD 0 zV).n (i.args.map vs) i.to_ :: ⟨fn, b, a + 1, t, vs⟩ :: K, A, out, l⟩ := fun K t => by
 have hi : ((fnB fs fn).getD b noB).ins[a]? = some i := hi
 unfold stepP
 simp only
 rw [if_neg (by omega), hi]
 simp only
 rw [if_neg (by omega), if_pos h14, if_pos hk]
 rfl
theorem RunsT.app_bad {i : In} {l : Nat} (hi : (bkA fs fn b).ins[a]? = some i) (h14 : i.op = 14) (hk : ¬ (((i.args.map vs).getD 0 zV).k = 2 ∧ (parB fs ((i.args.map vs).getD 0 zV).n.toNat 0).length = i.args.length)) : RunsT fs fn b a vs A out (l + 1) (.fin (.done 5 0 out l)) := RunsT.fin fun K t => by
 have hi : ((fnB fs fn).getD b noB).ins[a]? = some i := hi
 unfold stepP
 simp only
 rw [if_neg (by omega), hi]
 simp only
 rw [if_neg (by omega), if_pos h14, if_neg hk]
 rfl
theorem RunsT.t_trap {l : Nat} (hi : (bkA fs fn b).ins[a]? = none) (hk : (bkA fs fn b).term.kind = 4) : RunsT fs fn b a vs A out (l + 1) (.fin (.done (bkA fs fn b).term.n 0 out l)) := RunsT.fin fun K t => by
 have hi : ((fnB fs fn).getD b noB).ins[a]? = none := hi
 have hk : ((fnB fs fn).getD b noB).term.kind = 4 := hk
 unfold stepP
 simp only
 rw [if_neg (by omega), hi]
 simp only
 rw [if_pos hk]
 rfl
theorem RunsT.t_ret {l : Nat} (hi : (bkA fs fn b).ins[a]? = none) (hk : (bkA fs fn b).term.kind = 0) : RunsT fs fn b a vs A out (l + 1) (.ret (vs (bkA fs fn b).term.arg) A out l) := fun t K => ⟨_, .refl _, rfl, hi, hk, rfl⟩
theorem stp_jump {l : Nat} {e : Ed} (hi : (bkA fs fn b).ins[a]? = none) (hk : (bkA fs fn b).term.kind = 1) (he : (bkA fs fn b).term.to_.getD 0 noE = e) (K : List Frm) (t : Int) : stepP fs ⟨⟨fn, b, a, t, vs⟩ :: K, A, out, l + 1⟩ = .next ⟨⟨fn, e.block.toNat, 0, t, setVs vs (parB fs fn e.block.toNat) (e.args.map vs)⟩ :: K, A, out, l⟩ := by
 have hi : ((fnB fs fn).getD b noB).ins[a]? = none := hi
 have hk : ((fnB fs fn).getD b noB).term.kind = 1 := hk
 have he : ((fnB fs fn).getD b noB).term.to_.getD 0 noE = e := he
 unfold stepP
 simp only
 rw [if_neg (by omega), hi]
 simp only
 rw [if_neg (by omega), if_pos hk, he]
 rfl
theorem RunsT.t_jump {l : Nat} {e : Ed} (hi : (bkA fs fn b).ins[a]? = none) (hk : (bkA fs fn b).term.kind = 1) (he : (bkA fs fn b).term.to_.getD 0 noE = e) (r : RunsT fs fn e.block.toNat 0 (setVs vs (parB fs fn e.block.toNat) (e.args.map vs)) A out l R) : RunsT fs fn b a vs A out (l + 1) R := RunsT.step (stp_jump hi hk he) r
theorem stp_sw {l : Nat} {e : Ed} (hi : (bkA fs fn b).ins[a]? = none) (hk : (bkA fs fn b).term.kind = 2 ∨ (bkA fs fn b).term.kind = 3) (h0 : (vs (bkA fs fn b).term.arg).k = 0) (he : (bkA fs fn b).term.to_.getD (chooseE (bkA fs fn b).term (vs (bkA fs fn b).term.arg).n) noE = e) (K : List Frm) (t : Int) : stepP fs ⟨⟨fn, b, a, t, vs⟩ :: K, A, out, l + 1⟩ = .next ⟨⟨fn, e.block.toNat, 0, t, setVs vs (parB fs fn e.block.toNat) (e.args.map vs)⟩ :: K, A, out, l⟩ := by
 have hi : ((fnB fs fn).getD b noB).ins[a]? = none := hi
 have hk : ((fnB fs fn).getD b noB).term.kind = 2 ∨ ((fnB fs fn).getD b noB).term.kind = 3 := hk
 have h0 : (vs ((fnB fs fn).getD b noB).term.arg).k = 0 := h0
 have he : ((fnB fs fn).getD b noB).term.to_.getD (chooseE ((fnB fs fn).getD b noB).term (vs ((fnB fs fn).getD b noB).term.arg).n) noE = e := he
 unfold stepP
 simp only
 rw [if_neg (by omega), hi]
 simp only
 rw [if_neg (by omega), if_neg (by omega), if_neg (by omega), if_neg (by omega), he]
 rfl
theorem RunsT.t_sw {l : Nat} {e : Ed} (hi : (bkA fs fn b).ins[a]? = none) (hk : (bkA fs fn b).term.kind = 2 ∨ (bkA fs fn b).term.kind = 3) (h0 : (vs (bkA fs fn b).term.arg).k = 0) (he : (bkA fs fn b).term.to_.getD (chooseE (bkA fs fn b).term (vs (bkA fs fn b).term.arg).n) noE = e) (r : RunsT fs fn e.block.toNat 0 (setVs vs (parB fs fn e.block.toNat) (e.args.map vs)) A out l R) : RunsT fs fn b a vs A out (l + 1) R := RunsT.step (stp_sw hi hk h0 he) r
theorem RunsT.t_bad {l : Nat} (hi : (bkA fs fn b).ins[a]? = none) (hk : (bkA fs fn b).term.kind = 2 ∨ (bkA fs fn b).term.kind = 3) (h0 : (vs (bkA fs fn b).term.arg).k ≠ 0) : RunsT fs fn b a vs A out (l + 1) (.fin (.done 5 0 out l)) := RunsT.fin (fun K t => by
 have hi : ((fnB fs fn).getD b noB).ins[a]? = none := hi
 have hk : ((fnB fs fn).getD b noB).term.kind = 2 ∨ ((fnB fs fn).getD b noB).term.kind = 3 := hk
 have h0 : (vs ((fnB fs fn).getD b noB).term.arg).k ≠ 0 := h0
 unfold stepP
 simp only
 rw [if_neg (by omega), hi]
 simp only
 rw [if_neg (by omega), if_neg (by omega), if_neg (by omega), if_pos h0]
 rfl)
theorem RunsN.main {fn : Int} {left : Nat} {v : SV} {l : Nat} (h : RunsN fs fn [] A out left (.ret v A' out' l)) : Ends fs ⟨[newF fs fn [] 0], A, out, left⟩ (.done 0 (if v.k = 0 ∨ v.k = 1 then v.n else 0) out' l) := by
 obtain ⟨f', h1, h2, h3, h4, h5⟩ := h 0 []
 have h3 : ((fnB fs f'.fn).getD f'.blk noB).ins[f'.at_]? = none := h3
 have h4 : ((fnB fs f'.fn).getD f'.blk noB).term.kind = 0 := h4
 have h5 : f'.vals ((fnB fs f'.fn).getD f'.blk noB).term.arg = v := h5
 refine ⟨_, h1, ?_⟩
 unfold stepP
 simp only
 rw [if_neg (by omega), h3]
 simp only
 rw [if_neg (by omega), if_neg (by omega), if_pos h4, h5]
 rfl
theorem RunsN.main_fin {fn : Int} {left : Nat} {g : Fin} (h : RunsN fs fn [] A out left (.fin g)) : Ends fs ⟨[newF fs fn [] 0], A, out, left⟩ g := h 0 []
theorem Steps.ok (hU : UOk fs) {M M' : Mch} (h : Steps fs M M') (hM : MOk fs M) : MOk fs M' := by
 induction h with
 | refl => exact hM
 | step h _ ih => exact ih (stepP_ok hU hM h)
theorem Steps.le {M M' : Mch} (h : Steps fs M M') : M'.left ≤ M.left := by
 induction h with
 | refl => exact Nat.le_refl _
 | step h _ ih => exact Nat.le_trans ih (Nat.le_of_lt (stepP_left h))
theorem RunsN.le {fn2 : Int} {av : List SV} {v : SV} (h : RunsN fs fn2 av A out left (.ret v A' out' left')) : left' + 1 ≤ left := by
 obtain ⟨f', h1, _⟩ := h 0 []
 exact h1.le
def St (fs : List Fn) (fn b a : Nat) (vs : Int → SV) (A : List (List SV)) (out : List Int) (left : Nat) : Prop := MOk fs ⟨[⟨fn, b, a, 0, vs⟩], A, out, left⟩
theorem St.g (h : St fs fn b a vs A out left) : GOk fs A.length ⟨fn, b, a, 0, vs⟩ := h.st _ (.head _)
theorem St.wf (h : St fs fn b a vs A out left) (k : Int) : WfV fs.length A.length (vs k) := h.g.v k
theorem St.lf (h : St fs fn b a vs A out left) (l : Nat) : St fs fn b a vs A out l := ⟨h.st, h.ar, h.al⟩
theorem St.ins_ok (hU : UOk fs) (h : St fs fn b a vs A out left) {i : In} {v : SV} {c : Nat} (hi : (bkA fs fn b).ins[a]? = some i) (h13 : i.op ≠ 13) (h14 : i.op ≠ 14) (hr : insP i.op i.n (i.args.map vs) A out = .ok v A' out' c) (l : Nat) : St fs fn b (a + 1) (setV vs i.to_ v) A' out' l :=
 (show St fs fn b (a + 1) (setV vs i.to_ v) A' out' (c - c) from stepP_ok hU (h.lf (c + 1)) (stp_ok hi h13 h14 hr (Nat.le_refl c) [] 0)).lf l
theorem St.jump (hU : UOk fs) (h : St fs fn b a vs A out left) {e : Ed} (hi : (bkA fs fn b).ins[a]? = none) (hk : (bkA fs fn b).term.kind = 1) (he : (bkA fs fn b).term.to_.getD 0 noE = e) (l : Nat) : St fs fn e.block.toNat 0 (setVs vs (parB fs fn e.block.toNat) (e.args.map vs)) A out l :=
 (show St fs fn e.block.toNat 0 (setVs vs (parB fs fn e.block.toNat) (e.args.map vs)) A out 0 from stepP_ok hU (h.lf (0 + 1)) (stp_jump hi hk he [] 0)).lf l
theorem St.sw (hU : UOk fs) (h : St fs fn b a vs A out left) {e : Ed} (hi : (bkA fs fn b).ins[a]? = none) (hk : (bkA fs fn b).term.kind = 2 ∨ (bkA fs fn b).term.kind = 3) (h0 : (vs (bkA fs fn b).term.arg).k = 0) (he : (bkA fs fn b).term.to_.getD (chooseE (bkA fs fn b).term (vs (bkA fs fn b).term.arg).n) noE = e) (l : Nat) : St fs fn e.block.toNat 0 (setVs vs (parB fs fn e.block.toNat) (e.args.map vs)) A out l :=
 (show St fs fn e.block.toNat 0 (setVs vs (parB fs fn e.block.toNat) (e.args.map vs)) A out 0 from stepP_ok hU (h.lf (0 + 1)) (stp_sw hi hk h0 he [] 0)).lf l
theorem St.call (hU : UOk fs) (h : St fs fn b a vs A out left) {fn2 t2 : Int} {av : List SV} {l0 left1 : Nat} {v : SV} (hs : ∀ K t, stepP fs ⟨⟨fn, b, a, t, vs⟩ :: K, A, out, l0⟩ = .next ⟨newF fs fn2 av t2 :: ⟨fn, b, a', t, vs⟩ :: K, A, out, left1⟩) (hc : RunsN fs fn2 av A out left1 (.ret v A' out' left')) : St fs fn b a' (setV vs t2 v) A' out' left' :=
 Steps.ok hU (call_steps hs hc [] 0) (h.lf l0)
theorem St.new (hU : UOk fs) {fn : Int} (h0 : 0 ≤ fn) (h : fn < (fs.length : Int)) {av : List SV} (hv : ∀ v ∈ av, WfV fs.length A.length v) (hA : ∀ l ∈ A, ∀ v ∈ l, WfV fs.length A.length v) (hl : ∀ l ∈ A, l.length ≤ 1024) : St fs fn.toNat 0 0 (setVs (fun _ => zV) (parB fs fn.toNat 0) av) A out left :=
 ⟨fun g hg => by
  obtain rfl := List.mem_singleton.1 hg
  exact new_ok hU h0 h hv 0, hA, hl⟩
end
end Go.Ss

/- The reference's runner in memory: its cells, its arrays, its values in a pool. Conditions: none. -/
namespace Go.Ss
open Go.Eng Go.RowKit
def InQ (L : List (PV × Unit)) (p : PV) : Prop := p.l = [] ∨ ∃ c, InP L c ∧ c.q = p.q ∧ c.l = p.l
theorem PVO.like {F : Shp} {w : World} {O : Nat → Prop} {c p : PV} (h : PVO F w O c) (hq : c.q = p.q) (hl : c.l = p.l) : PVO F w O p := by
 cases c; cases p
 simp only [PV.q, PV.l] at hq hl
 subst hq hl
 simp only [PVO] at h ⊢
 exact h
theorem PVO.empty {F : Shp} {w : World} {O : Nat → Prop} {p : PV} (h : p.l = []) : PVO F w O p := by
 cases p
 simp only [PV.l] at h
 subst h
 exact PVO.flat
section
variable {F : Shp} {B : Nat} {O : Nat → Prop} {L M : List (PV × Unit)} {p c : PV} {w : World}
theorem InQ.of (h : InP L p) : InQ L p := .inr ⟨p, h, rfl, rfl⟩
theorem InQ.more (h : InQ L p) (hs : ∀ r, r ∈ L → r ∈ M) : InQ M p := h.imp id fun ⟨c, h1, h2⟩ => ⟨c, h1.more hs, h2⟩
theorem InQ.like (h : InQ L c) (hq : c.q = p.q) (hl : c.l = p.l) : InQ L p := by
 rcases h with h | ⟨d, h1, h2, h3⟩
 ·exact .inl (by rw [← hl]; exact h)
 ·exact .inr ⟨d, h1, h2.trans hq, h3.trans hl⟩
theorem InQ.kid (h : InQ L p) (hc : c ∈ p.l) : InQ L c := by
 rcases h with h | ⟨d, h1, h2, h3⟩
 ·rw [h] at hc; cases hc
 ·rw [← h3] at hc
  exact .of (h1.kid hc)
theorem InQ.ok (h : InQ L p) (hp : (pool (pvR F) B O L).holds w) : PVO F w (fun k => B ≤ k ∧ O k) p := by
 rcases h with h | ⟨d, h1, h2, h3⟩
 ·exact PVO.empty h
 ·exact (h1.ok hp).like h2 h3
theorem InQ.some (h : InQ L p) (hp : (pool (pvR F) B O L).holds w) (hl : 0 < p.l.length) : ∃ a, p.q = Option.some a := by
 obtain ⟨a, ha, _⟩ := (h.ok hp).kids hl
 exact ⟨a, ha⟩
theorem InQ.cells {a : Addr} (h : InQ L p) (hp : (pool (pvR F) B O L).holds w) (hq : p.q = Option.some a) {i : Nat} (hc : p.l[i]? = Option.some c) : CellsAt w (a.add (i * F.sz)) (F.cf c) := by
 obtain ⟨a', ha, _, h3⟩ := (h.ok hp).kids (List.length_pos_of_mem (List.mem_of_getElem? hc))
 rw [hq] at ha
 obtain rfl := Option.some.inj ha
 intro j v hj
 rw [add_add]
 exact h3 _ v (cat_get (f := F.cf) F.len hc j v hj)
theorem InQ.getD (h : InQ L p) (i : Nat) : InQ L (p.l.getD i zP) := by
 rw [List.getD_eq_getElem?_getD]
 cases hi : p.l[i]? with
 | none => exact .inl rfl
 | some c => exact h.kid (List.mem_of_getElem? hi)
theorem InQ.arr {H : List Eng.Item} {S : List World} (h : InQ L p) (hw : Cls H S w) (hp : pool (pvR F) B O L ∈ H) : Arr (pvR F) w (low w) (us p.l) p.q :=
 (PVO.mono (fun k hk => hw.lt _ hp k hk) (h.ok (hw.item hp))).arr
end
theorem inq_pw {L : List (PV × Unit)} {n : Int} : InQ L (pw n) := .inl rfl
theorem erwr (n : Int) : Er rN (pw n) (wV n) := Er.of rfl Ers.nil
theorem Er.nr {p : PV} {v : SV} (h : Er rN p v) : p.n = v.n := h.n
theorem ErsR.allK {k : Int} : ∀ {ps : List PV} {vs : List SV}, Ers rN ps vs → (ps.all fun p => decide (p.k = k)) = allK k vs
 | [], [], _ => rfl
 | p :: ps, v :: vs, h => by
  simp only [Ers] at h
  have := ErsR.allK (k := k) h.2
  simp only [Go.Ss.allK, List.all_cons] at this ⊢
  rw [this, h.1.k]
 | [], _ :: _, h => by simp only [Ers] at h
 | _ :: _, [], h => by simp only [Ers] at h
structure RA where
 O : Nat → Prop
 q : Option Addr
 cap : Nat
 xs : List PV
def RA.v (a : RA) : Value := .slice a.q a.xs.length a.cap
structure YS where
 m : RS
 out : List Int
 Oo : Nat → Prop
 Oa : Nat → Prop
 L : List (PV × Unit)
 Op : Nat → Prop
 A : List RA
structure YOk (y : YS) (sA : List (List SV)) : Prop where
 no : y.m.no = y.out.length
 ol : y.out.length ≤ 1000
 na : y.m.na = y.A.length
 al : y.A.length = sA.length
 ar : ∀ (j : Nat) a, y.A[j]? = some a → ∃ l, sA[j]? = some l ∧ Ers rN a.xs l
 ai : ∀ a ∈ y.A, ∀ p ∈ a.xs, InQ y.L p
 a1 : ∀ a ∈ y.A, a.xs.length ≤ 1024
 ed : y.m.ed = false
 s0 : 0 ≤ y.m.steps
 s1 : y.m.steps ≤ y.m.fuel
 f : y.m.fuel ≤ 100000
 asz : (y.A.length : Int) ≤ y.m.steps
 en : y.m.en = 0
def YS.left (y : YS) : Nat := (y.m.fuel - y.m.steps).toNat
structure RSame (m m' : RS) : Prop where
 qF : m'.qF = m.qF
 nF : m'.nF = m.nF
 cF : m'.cF = m.cF
 main : m'.main = m.main
 fuel : m'.fuel = m.fuel
 va : m'.va = m.va
theorem RSame.refl (m : RS) : RSame m m := ⟨rfl, rfl, rfl, rfl, rfl, rfl⟩
theorem RSame.trans {a b c : RS} (h : RSame a b) (k : RSame b c) : RSame a c := ⟨k.qF.trans h.qF, k.nF.trans h.nF, k.cF.trans h.cF, k.main.trans h.main, k.fuel.trans h.fuel, k.va.trans h.va⟩
def EndY (f : Fin) (y : YS) : Prop := match f with
 | .short => y.m.ed = true ∧ y.m.fuel < y.m.steps
 | .done en va out left => y.m.ed = true ∧ va = 0 ∧ y.m.en = en ∧ y.out = out ∧ y.m.no = y.out.length ∧ y.m.steps ≤ y.m.fuel ∧ y.m.fuel - y.m.steps = left
def OneR (r : Rs) (y y' : YS) (v : PV) : Prop := match r with
 | .trap t => EndY (.done t 0 y.out y.left) y' ∧ RSame y.m y'.m
 | .ok sv sA' out' c => (y.left < c ∧ EndY .short y' ∧ RSame y.m y'.m) ∨
   (c ≤ y.left ∧ YOk y' sA' ∧ y'.out = out' ∧ RSame y.m y'.m ∧ y'.left = y.left - c ∧ Er rN v sv ∧ (∀ r ∈ y.L, r ∈ y'.L) ∧ InQ y'.L v)
theorem OneR.val {sv : SV} {sA : List (List SV)} {y : YS} {v : PV} (hy : YOk y sA) (hv : Er rN v sv) (hin : InQ y.L v) : OneR (.ok sv sA y.out 0) y y v :=
 .inr ⟨Nat.zero_le _, hy, rfl, RSame.refl _, rfl, hv, fun _ h => h, hin⟩
theorem OneR.trap {t : Int} {sA : List (List SV)} {y : YS} {v : PV} (hy : YOk y sA) : OneR (.trap t) y { y with m := { y.m with ed := true, en := t } } v :=
 ⟨⟨rfl, rfl, rfl, rfl, hy.no, hy.s1, by
  have := hy.s1
  show y.m.fuel - y.m.steps = ((y.m.fuel - y.m.steps).toNat : Int)
  omega⟩, rfl, rfl, rfl, rfl, rfl, rfl⟩
theorem YOk.push {y : YS} {sA : List (List SV)} (h : YOk y sA) (x : PV) (Op' : Nat → Prop) : YOk { y with L := y.L ++ [(x, ())], Op := Op' } sA :=
 ⟨h.no, h.ol, h.na, h.al, h.ar, fun a ha p hp => (h.ai a ha p hp).more (fun r hr => List.mem_append_left _ hr), h.a1, h.ed, h.s0, h.s1, h.f, h.asz, h.en⟩
theorem eraseIdx_perm {α : Type} {A : List α} {j : Nat} {a : α} (h : A[j]? = some a) : A.Perm (a :: A.eraseIdx j) := by
 induction A generalizing j with
 | nil => simp at h
 | cons b A ih =>
  cases j with
  | zero =>
   obtain rfl := Option.some.inj h
   exact List.Perm.refl _
  | succ j => exact (List.Perm.cons b (ih (j := j) h)).trans (List.Perm.swap _ _ _)
theorem setIdx_erase {α : Type} {A : List α} {j : Nat} (a : α) : (A.set j a).eraseIdx j = A.eraseIdx j := by
 induction A generalizing j with
 | nil => rfl
 | cons b A ih =>
  cases j with
  | zero => rfl
  | succ j => show b :: _ = b :: _; rw [← ih (j := j)]
end Go.Ss
namespace Go.Proofs.Ytehelljmaiophaa.ss
open Go.Eng Go.RowKit Go.Ss
def raI (B : Nat) (a : RA) : Eng.Item := row B a.O a.q a.xs.length a.cap 113 3 (cat rC a.xs)
def rI (B bm : Nat) (y : YS) (H : List Eng.Item) : List Eng.Item := blk bm 110 y.m.c :: row B y.Oo y.m.qo y.m.no y.m.co 3 1 (ints y.out) :: row B y.Oa y.m.qa y.m.na y.m.ca 111 1 (y.A.map RA.v) :: pool (pvR rF) B y.Op y.L :: bag B (y.A.map (raI B)) :: H
theorem ra_out {B : Nat} {A : List RA} {j : Nat} {a : RA} {H : List Eng.Item} {S : List World} {w : World} (hj : A[j]? = some a) (h : Cls (bag B (A.map (raI B)) :: H) S w) : Cls (raI B a :: bag B ((A.eraseIdx j).map (raI B)) :: H) S w :=
 (h.bag_perm (L' := raI B a :: (A.eraseIdx j).map (raI B)) ((eraseIdx_perm hj).map (raI B))).bag_out
theorem ra_in {B : Nat} {A : List RA} {j : Nat} {a : RA} {H : List Eng.Item} {S : List World} {w : World} (hj : j < A.length) (h : Cls (raI B a :: bag B ((A.eraseIdx j).map (raI B)) :: H) S w) : Cls (bag B ((A.set j a).map (raI B)) :: H) S w := by
 refine (h.bag_in (fun k hk => hk.1)).bag_perm ?_
 have e := eraseIdx_perm (A := A.set j a) (j := j) (a := a) (by rw [List.getElem?_set_self hj])
 rw [setIdx_erase] at e
 exact (e.map (raI B)).symm
theorem ra_new {B : Nat} {A : List RA} {a : RA} {H : List Eng.Item} {S : List World} {w : World} (h : Cls (raI B a :: bag B (A.map (raI B)) :: H) S w) : Cls (bag B ((A ++ [a]).map (raI B)) :: H) S w := by
 refine (h.bag_in (fun k hk => hk.1)).bag_perm ?_
 rw [List.map_append]
 exact (List.perm_append_comm (l₁ := A.map (raI B)) (l₂ := [raI B a])).symm
theorem ra_cell {B : Nat} {A : List RA} {j : Nat} {a : RA} {w : World} {H : List Eng.Item} {S : List World} (hj : A[j]? = some a) (h : Cls H S w) (hm : bag B (A.map (raI B)) ∈ H) : (raI B a).holds w :=
 ((h.item hm).1 _ (List.mem_map.2 ⟨a, List.mem_of_getElem? hj, rfl⟩)).1
end Go.Proofs.Ytehelljmaiophaa.ss

/- A region that draws its order, walked part by part: quiet operations in any order, one that makes memory among quiet ones, some one behind another. General. No condition. -/
namespace Go.Eng
open Go.RowKit
def liK (ops : Array Oper) (k : Nat) : Array Bool := runL k 0 (Array.replicate ops.size false)
theorem runL_add : ∀ (a b k : Nat) (li : Array Bool), runL (a + b) k li = runL b (k + a) (runL a k li)
 | 0, b, k, li => by simp [runL]
 | a + 1, b, k, li => by rw [show a + 1 + b = (a + b) + 1 by omega, runL, runL_add a b, runL, show k + 1 + a = k + (a + 1) by omega]
theorem liK_add (ops : Array Oper) (k j : Nat) : runL j k (liK ops k) = liK ops (k + j) := by
 unfold liK
 rw [runL_add, Nat.zero_add]
theorem preB_Dn {ops : Array Oper} : ∀ (n k : Nat) (li : Array Bool), Dn ops li → preB ops n k li = true → Dn ops (runL n k li)
 | 0, _, _, h, _ => h
 | n + 1, k, li, h, hB => by
  simp only [preB, Bool.and_eq_true] at hB
  exact preB_Dn n (k + 1) _ (h.set (by simpa using hB.1.1)) hB.2
def seqS (ops : Array Oper) : Nat → Nat → Array Bool → Bool
 | 0, _, _ => true
 | n + 1, k, li => (Region.ready .any ops li == [k]) && seqS ops n (k + 1) (li.setIfInBounds k true)
theorem seqS_Dn {ops : Array Oper} : ∀ (n k : Nat) (li : Array Bool), Dn ops li → seqS ops n k li = true → Dn ops (runL n k li)
 | 0, _, _, h, _ => h
 | n + 1, k, li, h, hB => by
  simp only [seqS, Bool.and_eq_true, beq_iff_eq] at hB
  exact seqS_Dn n (k + 1) _ (h.set (by rw [hB.1]; exact .head _)) hB.2
theorem SplitN.len {k : Nat} {l x y : List Oper} (h : SplitN k l x y) : x.length = k := by
 induction h with
 | z => rfl
 | s h ih => rw [List.length_cons, ih]
section
variable {P : Program} {n : Nat} {ops : Array Oper} {Q Q' : Exit → Act → World → Prop} {l : Env} {C : World → Prop} {k j : Nat} {rest x y r : List Oper}
theorem wpAny_seqTo {f : Nat} (hp : ∀ e a w, e ≠ .normal → Q' e a w → Q e a w) : ∀ (x : List Oper) (k : Nat) (li : Array Bool) (a : Act) (w : World), (∀ i, i < x.length → x[i]? = ops[k + i]?) → seqS ops x.length k li = true →
  (∀ a w, Q' .normal a w → wpAny P .any ops Q f (runL x.length k li) a w) → wpList P ops Q' x a w → wpAny P .any ops Q (x.length + f) li a w
 | [], k, li, a, w, _, _, hE, h => by
  rw [List.length_nil, Nat.zero_add]
  exact hE a w h
 | o :: x, k, li, a, w, hx, hB, hE, h => by
  simp only [List.length_cons, seqS, Bool.and_eq_true, beq_iff_eq] at hB
  have h0 : ops[k]? = some o := by simpa using (hx 0 (by simp)).symm
  rw [List.length_cons, show x.length + 1 + f = (x.length + f) + 1 by omega]
  refine ⟨fun h' => (by rw [hB.1] at h'; cases h'), fun i hi => ?_⟩
  rw [hB.1, List.mem_singleton] at hi
  subst hi
  have ih := fun a' w' h3 => wpAny_seqTo hp x (i + 1) (li.setIfInBounds i true) a' w' (fun j hj => by have := hx (j + 1) (by simp only [List.length_cons]; omega); simpa [Nat.add_assoc, Nat.add_comm 1 j] using this) hB.2 hE h3
  refine wpOp_mono ih ?_
  unfold wpOp
  simp only [h0]
  unfold wpList at h
  split
  ·rename_i hw
   rw [if_pos hw] at h
   rcases h with h | ⟨h, a', w', hq⟩
   ·refine .inl ?_
    unfold Oper.wp at h ⊢
    exact upon_Q hp h
   ·exact .inr ⟨h, a', w', hp _ _ _ (by simp) hq⟩
  ·rename_i hw
   rw [if_neg hw] at h
   exact h
def RLat (P : Program) (ops : Array Oper) (Q : Exit → Act → World → Prop) (k : Nat) (rest : List Oper) (a : Act) (w : World) : Prop :=
 (∀ j, rest[j]? = ops[k + j]?) → Dn ops (liK ops k) → wpAny P .any ops Q rest.length (liK ops k) a w
structure RL (P : Program) (n : Nat) (ops : Array Oper) (Q : Exit → Act → World → Prop) (k : Nat) (rest : List Oper) (l : Env) (C : World → Prop) : Prop where
 run : ∀ a w, Sees n l a → C w → RLat P ops Q k rest a w
def RQ (P : Program) (ops : Array Oper) (k : Nat) (r : List Oper) (Q : Exit → Act → World → Prop) : Exit → Act → World → Prop := fun e a w => match e with
 | .normal => RLat P ops Q k r a w
 | e => Q e a w
theorem W.rg {id : Nat} {l0 : List Oper} (h : RL P n l0.toArray Q 0 l0 l C) (hm : P.follows .mixedOrders = true) (hC : ∀ w, C w → C { w with drawn := w.drawn + 1 }) : W P n (.region id l0.toArray true) Q l C :=
 ⟨fun a w hs hc => wp_region_any hm (h.run a _ hs (hC w hc) (fun j => by simp) (fun j o _ hj => by rw [show liK l0.toArray 0 = Array.replicate l0.toArray.size false from rfl, getD_rep] at hj; cases hj))⟩
theorem tail_at {x y : List Oper} (hr : ∀ j, (x ++ y)[j]? = ops[k + j]?) : (∀ i, i < x.length → x[i]? = ops[k + i]?) ∧ ∀ i, y[i]? = ops[k + x.length + i]? :=
 ⟨fun i hi => by rw [← hr i, List.getElem?_append_left hi], fun i => by rw [Nat.add_assoc, ← hr, List.getElem?_append_right (Nat.le_add_right _ _), Nat.add_sub_cancel_left]⟩
def segB (ops : Array Oper) (k j : Nat) : Bool := Region.noSelect ops && (waitB ops (k + j) && (preB ops j k (liK ops k) && allB (k + j) (liK ops (k + j))))
theorem RL.q (j : Nat) (hs : SplitN j rest x y) (hB : segB ops k j = true) (h : QL P n ops C (fun a' => ∀ w', C w' → RLat P ops Q (k + j) y a' w') x l) : RL P n ops Q k rest l C := ⟨fun a w hs' hc hr hD => by
 obtain rfl := hs.len
 have := hs.eq
 subst this
 simp only [segB, Bool.and_eq_true] at hB
 obtain ⟨h1, h2, h3, h4⟩ := hB
 obtain ⟨h5, h6⟩ := tail_at hr
 rw [← liK_add] at h4
 refine wpAny_of_H (m := k + x.length) _ _ _ _ hc ?_
 rw [List.length_append]
 refine wpH_lex h1 h2 x k _ a hD rfl h5 h3 h4 (h.run a hs') (fun a' hK w' hw' => ?_)
 have h7 := hK w' hw' h6 (by rw [← liK_add]; exact preB_Dn _ _ _ hD h3)
 rwa [liK_add]⟩
theorem QL.rg (h : RL P n ops Q k r l C) : QL P n ops C (fun a' => ∀ w', C w' → RLat P ops Q k r a' w') [] l := ⟨fun a hs w hc => h.run a w hs hc⟩
theorem RL.s (j : Nat) (hs : SplitN j rest x y) (hB : seqS ops j k (liK ops k) = true) (h : OL P n ops (RQ P ops (k + j) y Q) x l C) : RL P n ops Q k rest l C := ⟨fun a w hs' hc hr hD => by
 obtain rfl := hs.len
 have := hs.eq
 subst this
 obtain ⟨h5, h6⟩ := tail_at hr
 rw [List.length_append]
 refine wpAny_seqTo (Q' := RQ P ops (k + x.length) y Q) (fun e a w hne h => by cases e <;> first | exact h | exact absurd rfl hne) x k _ a w h5 hB (fun a' w' h7 => ?_) (h.run a w hs' hc)
 rw [liK_add]
 exact h7 h6 (by rw [← liK_add]; exact seqS_Dn _ _ _ hD hB)⟩
theorem At.rn (h : RL P n ops Q k r l C) : At n (RQ P ops k r Q) .normal l C := ⟨h.run⟩
theorem RL.z (hB : (Region.ready .any ops (liK ops k)).isEmpty = true) (h : At n Q .normal l C) : RL P n ops Q k [] l C := ⟨fun a w hs hc _ _ => ⟨by simpa using hB, h.run a w hs hc⟩⟩
def mkS (ops : Array Oper) (k j : Nat) : Bool := Region.noSelect ops && (waitB ops (k + j + 1) && (preB ops j k (liK ops k) && ((Region.ready .any ops (liK ops (k + j)) == [k + j]) && allB (k + j + 1) (liK ops (k + j + 1)))))
theorem RL.m {F : Option Nat → World → Prop} {lK : Env} {d : Nat} {val : Nat → Value} (j : Nat) {oa : Oper} (hs : SplitN j rest x (oa :: y)) (hB : mkS ops k j = true) (hC : ∀ w, C w → F none w) (hd : oa.dst = some d) (hg : Guard lK ops oa.guard true) (hdn : Nat.blt d n = true)
  (hq : ∀ o, QL P n ops (F o) (fun a' => Sees n lK a') x l) (hS : slotsB n (lK.map (·.1)) x = true)
  (hv : ∀ a w, Sees n lK a → F none w → ∃ b w', (execOp a.eval oa).run P w = .ok (.value (val b)) w' ∧ F (some b) w')
  (h : ∀ b, RL P n ops Q (k + j + 1) y ((d, true, val b) :: lK) (F (some b))) : RL P n ops Q k rest l C := ⟨fun a w hs' hc hr hD => by
 obtain rfl := hs.len
 have := hs.eq
 subst this
 simp only [mkS, Bool.and_eq_true, beq_iff_eq] at hB
 obtain ⟨h1, h2, h3, h4, h7⟩ := hB
 obtain ⟨h5, h6⟩ := tail_at hr
 have hoa : ops[k + x.length]? = some oa := by simpa using (h6 0).symm
 have e1 : (runL x.length k (liK ops k)).setIfInBounds (k + x.length) true = liK ops (k + x.length + 1) := by
  rw [liK_add, ← liK_add ops (k + x.length) 1]
  rfl
 have hD2 : Dn ops (liK ops (k + x.length + 1)) := by
  rw [← e1]
  refine (preB_Dn _ _ _ hD h3).set ?_
  rw [liK_add, h4]
  exact .head _
 refine wpAny_of_V (F := F) (m := k + x.length) (d := d) (oa := oa) (val := val) hoa hd _ _ none _ _ (hC w hc) ?_
 rw [List.length_append, List.length_cons, show x.length + (y.length + 1) = x.length + 1 + y.length by omega]
 refine wpV_lex (lK := lK) h1 h2 hoa hd x k _ a hs'.sz hD rfl h5 h3 hS (by rw [liK_add]; exact h4) (by rw [e1]; exact h7) (fun o => (hq o).run a hs')
  (fun a' ha' => ⟨⟨hg.wanted ha', fun w hw => hv a' w ha' hw⟩, fun b w' hw' => ?_⟩)
 rw [e1]
 exact (h b).run _ w' (ha'.put (Nat.le_of_ble_eq_true hdn) true (val b)) hw' (fun i => by have := h6 (i + 1); simpa [Nat.add_assoc, Nat.add_comm 1 i] using this) hD2⟩
variable {H : List Item} {S : List World}
theorem RL.mb {lK : Env} {d : Nat} {val : Nat → Value} {e : TypeId} {cs : List Value} (j : Nat) {oa : Oper} (hs : SplitN j rest x (oa :: y)) (hB : mkS ops k j = true) (hd : oa.dst = some d) (hg : Guard lK ops oa.guard true) (hdn : Nat.blt d n = true)
  (hv : ∀ a w, Sees n lK a → Cls H S w → ∃ w', (execOp a.eval oa).run P w = .ok (.value (val w.heap.size)) w' ∧ Cls (blk w.heap.size e cs :: H) S w')
  (hq : ∀ (c : Bool) (b : Nat), AllLe S b → QL P n ops (Cls ((bif c then blk b e cs else nothing) :: H) S) (fun a' => Sees n lK a') x l) (hS : slotsB n (lK.map (·.1)) x = true)
  (h : ∀ b, AllLe S b → RL P n ops Q (k + j + 1) y ((d, true, val b) :: lK) (Cls (blk b e cs :: H) S)) : RL P n ops Q k rest l (Cls H S) := by
 by_cases hex : ∃ b, AllLe S b
 ·obtain ⟨b0, hb0⟩ := hex
  have h0 := hq false b0 hb0
  refine RL.m (F := fun o => match o with | none => Cls (nothing :: H) S | some b => fun w => AllLe S b ∧ Cls (blk b e cs :: H) S w) (val := val) j hs hB (fun w hw => hw.nothing_in) hd hg hdn (fun o => ?_) hS (fun a w hs hc => ?_) (fun b => ⟨fun a w hs hc => (h b hc.1).run a w hs hc.2⟩)
  ·cases o with
   | none => exact h0
   | some b =>
    by_cases hb : AllLe S b
    ·have h1 := hq true b hb
     have e1 : (fun w => AllLe S b ∧ Cls (blk b e cs :: H) S w) = Cls (blk b e cs :: H) S := by
      funext w
      exact propext ⟨fun h => h.2, fun h => ⟨hb, h⟩⟩
     show QL P n ops (fun w => AllLe S b ∧ Cls (blk b e cs :: H) S w) _ x l
     rw [e1]
     exact h1
    ·exact ⟨fun a hs => wpQuiet_none (fun w hw => hb hw.1) x a (h0.run a hs)⟩
  ·have hc' := Cls.nothing_out hc
   obtain ⟨w', h1, h2⟩ := hv a w hs hc'
   exact ⟨w.heap.size, w', h1, AllLe.mk hc', h2⟩
 ·exact ⟨fun a w hs hc => absurd ⟨w.heap.size, AllLe.mk hc⟩ hex⟩
theorem buildSlice_run {t e ty : TypeId} {d : Option Nat} {pos : String} {af : Array Edge} {g : Option (Nat × Bool)} {sz len : Nat} {parts : List (Nat × Operand)} {cs : List Value} (hu : slElem P t = some (e, sz)) (hz : (zeroV P e).isSome = true) (hp : Elems l sz 0 parts cs) (hlen : parts.length = len) (hl : Nat.ble (len * sz) 16777216 = true)
  (a : Act) (w : World) (hs : Sees n l a) (hc : Cls H S w) : ∃ w', (execOp a.eval ⟨d, .buildSlice t len parts.toArray, ty, pos, af, g⟩).run P w = .ok (.value (.slice (some ⟨w.heap.size, 0, none⟩) len len)) w' ∧ Cls (blk w.heap.size e cs :: H) S w' := ⟨w.alloc (.cells cs.toArray e), by
   unfold slElem at hu
   cases h1 : P.underlying t with
   | none => simp [h1] at hu
   | some d1 =>
    rw [h1] at hu
    cases d1 <;> simp only [reduceCtorEq] at hu
    rename_i e'
    cases h2 : sizeN P e' with
    | none => simp [h2] at hu
    | some k' =>
     rw [h2] at hu
     simp only [Option.some.injEq, Prod.mk.injEq] at hu
     obtain ⟨rfl, rfl⟩ := hu
     cases hzz : zeroV P e' with
     | none => simp [hzz] at hz
     | some z =>
      have hle := Nat.le_of_ble_eq_true hl
      have hparts : (parts.toArray.map fun p => (p.1, a.eval p.2)).toList = parts.map fun p => (p.1, a.eval p.2) := by simp
      have hfill := fun (cells : Array Value) (hc : cells.size = len * k') => hp.run hs cells (by rw [hlen, Nat.zero_add]; exact hc)
      simp only [execOp, Instr.buildSlice, Sem.run_bind, run_underlying h1, run_sizeN h2, Result.andThen_ok]
      rw [if_neg (by omega)]
      by_cases h0 : len * k' = 0
      ·simp only [h0, if_true, Sem.run_pure, Sem.run_bind, Result.andThen_ok, hparts]
       rw [hfill _ (by rw [range_map_size, h0])]
       simp [newRow]
      ·simp only [h0, if_false, Sem.run_bind, run_zeroV hzz, Sem.run_pure, Result.andThen_ok, hparts]
       rw [hfill _ range_map_size]
       simp [newRow], hc.alloc e cs⟩
theorem RL.ms {lK : Env} {d : Nat} {t e ty : TypeId} {pos : String} {af : Array Edge} {g : Option (Nat × Bool)} {sz len : Nat} {parts : List (Nat × Operand)} {cs : List Value} (j : Nat) (hs : SplitN j rest x (⟨some d, .buildSlice t len parts.toArray, ty, pos, af, g⟩ :: y)) (hB : mkS ops k j = true) (hdn : Nat.blt d n = true)
  (hu : slElem P t = some (e, sz)) (hz : (zeroV P e).isSome = true) (hlen : parts.length = len) (hl : Nat.ble (len * sz) 16777216 = true)
  (hq : ∀ (c : Bool) (b : Nat), AllLe S b → QL P n ops (Cls ((bif c then blk b e cs else nothing) :: H) S) (fun a' => Sees n lK a') x l) (hS : slotsB n (lK.map (·.1)) x = true) (hg : Guard lK ops g true) (hp : Elems lK sz 0 parts cs)
  (h : ∀ b, AllLe S b → RL P n ops Q (k + j + 1) y ((d, true, .slice (some ⟨b, 0, none⟩) len len) :: lK) (Cls (blk b e cs :: H) S)) : RL P n ops Q k rest l (Cls H S) :=
 RL.mb (val := fun b => .slice (some ⟨b, 0, none⟩) len len) j hs hB rfl hg hdn (buildSlice_run hu hz hp hlen hl) hq hS h
end
end Go.Eng

/- A switch over one number: comparisons that are known to hold or not. General. No condition. -/
namespace Go.Eng
open Go.RowKit
section
variable {P : Program} {n : Nat} {l : Env} {C : World → Prop} {Q : Exit → Act → World → Prop} {y z : Code}
theorem W.cT {x : Operand} (h : W P n y Q l C) (hx : evl l x = some (true, .bool true) := by rfl) : W P n (.cond x y z) Q l C := W.cond hx (fun _ => h) (fun e => absurd e (by decide))
theorem W.cF {x : Operand} (h : W P n z Q l C) (hx : evl l x = some (true, .bool false) := by rfl) : W P n (.cond x y z) Q l C := W.cond hx (fun e => absurd e (by decide)) (fun _ => h)
variable {id a b : Nat} {x : Operand} {c v : Int} {k : Bool} {t yt ty1 ty2 : TypeId} {p1 p2 : String} {f1 f2 : Array Edge}
theorem W.cmp (hk : decide (v = c) = k) (h : W P n (.cond (.tmp b) y z) Q ((b, true, .bool k) :: (a, true, .bool k) :: l) C) (hx : evl l x = some (true, .int .i64 v)) (ha : (Nat.ble (a + 1) n && Nat.ble (b + 1) n) = true) :
  W P n (.seq (.region id [⟨some a, .binOp .eql t x (.const (.int .i64 c)) yt, ty1, p1, f1, none⟩, ⟨some b, .assign (.tmp a), ty2, p2, f2, none⟩].toArray false) (.cond (.tmp b) y z)) Q l C := by
 simp only [Bool.and_eq_true] at ha
 refine W.seq (W.reg (obn ha.1 hx rfl Bin.eql (oas ha.2 (v := .bool (decide (v = c))) (by simp only [evl, look, Nat.beq_refl, cond_true]) (OL.nil (At.next ?_)))))
 rw [hk]
 exact h
theorem W.no (h : W P n z Q ((b, true, .bool false) :: (a, true, .bool false) :: l) C) (hx : evl l x = some (true, .int .i64 v) := by rfl) (hv : v ≠ c := by omega) (ha : (Nat.ble (a + 1) n && Nat.ble (b + 1) n) = true := by rfl) :
  W P n (.seq (.region id [⟨some a, .binOp .eql t x (.const (.int .i64 c)) yt, ty1, p1, f1, none⟩, ⟨some b, .assign (.tmp a), ty2, p2, f2, none⟩].toArray false) (.cond (.tmp b) y z)) Q l C :=
 W.cmp (decide_eq_false hv) (W.cF h (by simp only [evl, look, Nat.beq_refl, cond_true])) hx ha
theorem W.yes (h : W P n y Q ((b, true, .bool true) :: (a, true, .bool true) :: l) C) (hx : evl l x = some (true, .int .i64 v) := by rfl) (hv : v = c := by omega) (ha : (Nat.ble (a + 1) n && Nat.ble (b + 1) n) = true := by rfl) :
  W P n (.seq (.region id [⟨some a, .binOp .eql t x (.const (.int .i64 c)) yt, ty1, p1, f1, none⟩, ⟨some b, .assign (.tmp a), ty2, p2, f2, none⟩].toArray false) (.cond (.tmp b) y z)) Q l C :=
 W.cmp (decide_eq_true hv) (W.cT h (by simp only [evl, look, Nat.beq_refl, cond_true])) hx ha
theorem W.cmpR (hk : decide (v = c) = k) (h : At n Q .normal ((b, true, .bool k) :: (a, true, .bool k) :: l) C) (hx : evl l x = some (true, .int .i64 v)) (ha : (Nat.ble (a + 1) n && Nat.ble (b + 1) n) = true) :
  W P n (.region id [⟨some a, .binOp .eql t x (.const (.int .i64 c)) yt, ty1, p1, f1, none⟩, ⟨some b, .assign (.tmp a), ty2, p2, f2, none⟩].toArray false) Q l C := by
 simp only [Bool.and_eq_true] at ha
 refine W.reg (obn ha.1 hx rfl Bin.eql (oas ha.2 (v := .bool (decide (v = c))) (by simp only [evl, look, Nat.beq_refl, cond_true]) (OL.nil ?_)))
 rw [hk]
 exact h
theorem W.noR (h : At n Q .normal ((b, true, .bool false) :: (a, true, .bool false) :: l) C) (hx : evl l x = some (true, .int .i64 v) := by rfl) (hv : v ≠ c := by omega) (ha : (Nat.ble (a + 1) n && Nat.ble (b + 1) n) = true := by rfl) :
  W P n (.region id [⟨some a, .binOp .eql t x (.const (.int .i64 c)) yt, ty1, p1, f1, none⟩, ⟨some b, .assign (.tmp a), ty2, p2, f2, none⟩].toArray false) Q l C := W.cmpR (decide_eq_false hv) h hx ha
theorem W.yesR (h : At n Q .normal ((b, true, .bool true) :: (a, true, .bool true) :: l) C) (hx : evl l x = some (true, .int .i64 v) := by rfl) (hv : v = c := by omega) (ha : (Nat.ble (a + 1) n && Nat.ble (b + 1) n) = true := by rfl) :
  W P n (.region id [⟨some a, .binOp .eql t x (.const (.int .i64 c)) yt, ty1, p1, f1, none⟩, ⟨some b, .assign (.tmp a), ty2, p2, f2, none⟩].toArray false) Q l C := W.cmpR (decide_eq_true hv) h hx ha
end
end Go.Eng

/- The walk of the reference's kinds. Conditions: none. -/
namespace Go.Proofs.Ytehelljmaiophaa.ss
set_option maxRecDepth 100000
open Go.Eng Go.RowKit Go.Ss
theorem is_calls (vs : List PV) (q : Option Addr) (cap : Nat) (kd : Int) (ats : List Int) (ba b5 : Nat) (w : World) (hA : Arr (pvR rF) w (low w) (us vs) q) (hats : ∀ a ∈ ats, 0 ≤ a ∧ a < (vs.length : Int)) (hl : ats.length ≤ 1000) (hvl : vs.length ≤ 1000) (hI : CellsAt w ⟨ba, 0, none⟩ (ints ats)) (hba : ba < w.heap.size) (h5 : CellsAt w ⟨b5, 0, none⟩ [.slice q vs.length cap]) (hb5 : b5 < w.heap.size) :
  Calls Try.prog 172 [.int .i64 kd, .slice (some ⟨ba, 0, none⟩) ats.length ats.length, .pointer (some ⟨b5, 0, none⟩)].toArray w fun e w' => e = .returned (.bool (ats.all fun a => decide ((vs.getD a.toNat zP).k = kd))) ∧ Ext w w' := by
 refine enter Try.func172 rfl Try.ntmps172 rfl (Cls.start w) (zen ?_)
 refine zgw ?_
 refine W.loop (G := Nat) (fun i => i ≤ ats.length ∧ (ats.all fun a => decide ((vs.getD a.toNat zP).k = kd)) = (ats.drop i).all fun a => decide ((vs.getD a.toNat zP).k = kd)) (fun i => ats.length - i)
  (fun i => [(0, true, .int .i64 kd), (2, true, .pointer (some ⟨b5, 0, none⟩)), (8, true, .slice (some ⟨ba, 0, none⟩) ats.length ats.length), (9, true, .int .i64 (ats.length : Int)), (10, true, .int .i64 (i : Int))])
  (fun _ => Cls [] [w]) 0 ⟨by omega, rfl⟩ (by exact Sub.au) (fun w' hw' => hw') ?_
 rintro i ⟨hi, hr⟩
 refine zgw ?_
 refine W.cnd ?_ ?_ <;> intro hlt <;> try exact zwx hlt
 ·obtain ⟨a, ha⟩ : ∃ a, ats[i]? = some a := ⟨_, List.getElem?_eq_getElem (by omega)⟩
  have hdr : ats.drop i = a :: ats.drop (i + 1) := by
   obtain ⟨h1, h2⟩ := List.getElem?_eq_some_iff.1 ha
   rw [List.drop_eq_getElem_cons h1, h2]
  rw [hdr, List.all_cons] at hr
  obtain ⟨ha0, ha1⟩ := hats a (List.mem_of_getElem? ha)
  obtain ⟨p, hp⟩ : ∃ p, vs[a.toNat]? = some p := ⟨_, List.getElem?_eq_getElem (by omega)⟩
  rw [getD_at hp] at hr
  obtain ⟨qa, hqa, hqb, hcell, hok⟩ := hA.pv hp
  have hqb : qa.block < w.heap.size := hqb
  have hcell : CellsAt w (qa.add (a.toNat * 3)) (rC p) := hcell
  subst hqa
  have hia : w.cell? ⟨ba, 0 + (i : Int).toNat * 1, none⟩ = some (.int .i64 a) := by
   have := hI i (.int .i64 a) (by unfold ints; rw [List.getElem?_map, ha]; rfl)
   have h := this
   rw [add_mid] at h
   rw [show (i : Int).toNat * 1 = i by omega]
   exact h
  have h50 : w.cell? ⟨b5, 0, none⟩ = some (.slice (some qa) vs.length cap) := h5 0 _ rfl
  refine zgw ?_
  by_cases hk : p.k = kd
  ·refine W.cond rfl (fun h => by simp [hk] at h) (fun _ => ?_)
   rw [decide_eq_true hk, Bool.true_and] at hr
   refine zgw ?_
   exact At.again (i + 1) ⟨by omega, hr⟩ (by omega) (by exact Sub.au) (fun w' hw' => hw')
  ·refine W.cond rfl (fun _ => ?_) (fun h => by simp at h; exact absurd h hk)
   rw [decide_eq_false hk, Bool.false_and] at hr
   refine zgw ?_
   (refine zfn ?_; intro w' hw')
   exact ⟨by rw [hr], by (exact hw'.fr)⟩
 ·rw [List.drop_eq_nil_of_le (by omega), List.all_nil] at hr
  refine zgw ?_
  (refine zfn ?_; intro w' hw')
  exact ⟨by rw [hr], by (exact hw'.fr)⟩
theorem is_at {H : List Eng.Item} {S : List World} {w w2 : World} {vs : List PV} {q : Option Addr} {cap : Nat} {t5 ta : TypeId} {b5 ba : Nat} (kd : Int) (ats : List Int) (r : Bool) (hr : (ats.all fun a => decide ((vs.getD a.toNat zP).k = kd)) = r) (hw2 : Cls H S w2) (hs : w ∈ S) (hno : ∀ k, k < w.heap.size → NotOwned H k) (hA : Arr (pvR rF) w (low w) (us vs) q) (h5 : blk b5 t5 [.slice q vs.length cap] ∈ H) (ha : blk ba ta (ints ats) ∈ H)
  (hats : ∀ a ∈ ats, 0 ≤ a ∧ a < (vs.length : Int)) (hl : ats.length ≤ 1000) (hvl : vs.length ≤ 1000) : Calls Try.prog 172 [.int .i64 kd, .slice (some ⟨ba, 0, none⟩) ats.length ats.length, .pointer (some ⟨b5, 0, none⟩)].toArray w2 fun e w' => e = .returned (.bool r) ∧ Cls H S w' :=
 (is_calls vs q cap kd ats ba b5 w2 (hA.at hw2 hs hno) hats hl hvl (fun j v hj => by rw [add_mid, blk_cell (hw2.item ha), Nat.zero_add]; exact hj) (hw2.lt _ ha _ rfl) (fun j v hj => by rw [add_mid, blk_cell (hw2.item h5), Nat.zero_add]; exact hj) (hw2.lt _ h5 _ rfl)).mono fun e w3 h => ⟨by rw [h.1, hr], hw2.ext h.2⟩
def kindT (fs : List Go.Ss.Fn) (op n k0 n0 l0 k1 l1 : Int) (all0 : Bool) (len : Nat) : Bool :=
 if (1 ≤ op ∧ op ≤ 7) ∨ op = 18 then decide (k0 = 0) && decide (k1 = 0)
 else if op = 15 ∨ op = 16 then decide (k0 = 0)
 else if op = 10 ∨ op = 12 then decide (k0 = 1)
 else if op = 21 then decide (k0 = 1) && decide (k1 = 0)
 else if op = 11 then (decide (k0 = 1) || decide (k0 = 2)) && decide (n < l0)
 else if op = 17 then decide (k0 = 3)
 else if op = 19 ∨ op = 20 then decide (k0 = 3) && decide (k1 = 0)
 else if op = 22 then all0
 else if op = 23 then decide (k0 = 4) && decide (k1 = 4) && decide (l0 = l1)
 else if op = 24 then decide (k0 = 4) && decide (n < l0)
 else if op = 14 then decide (k0 = 2) && decide ((parB fs n0.toNat 0).length = len)
 else true
def kindP (fs : List Go.Ss.Fn) (i : Go.Ss.In) (vs : List PV) : Bool := kindT fs i.op i.n (vs.getD 0 zP).k (vs.getD 0 zP).n (vs.getD 0 zP).l.length (vs.getD 1 zP).k (vs.getD 1 zP).l.length (vs.all fun p => decide (p.k = 0)) vs.length
theorem two_of {α : Type} {l : List α} (h : l.length = 2) : ∃ a b, l = [a, b] := by
 match l, h with
 | [a, b], _ => exact ⟨a, b, rfl⟩
theorem one_of {α : Type} {l : List α} (h : l.length = 1) : ∃ a, l = [a] := by
 match l, h with
 | [a], _ => exact ⟨a, rfl⟩
theorem is0 (p : PV) (r : List PV) (kd : Int) : (([0] : List Int).all fun a => decide (((p :: r).getD a.toNat zP).k = kd)) = decide (p.k = kd) := Bool.and_true _
theorem is1 (p u : PV) (r : List PV) (kd : Int) : (([1] : List Int).all fun a => decide (((p :: u :: r).getD a.toNat zP).k = kd)) = decide (u.k = kd) := Bool.and_true _
theorem is01 (p u : PV) (r : List PV) (kd : Int) : (([0, 1] : List Int).all fun a => decide (((p :: u :: r).getD a.toNat zP).k = kd)) = (decide (p.k = kd) && decide (u.k = kd)) := by
 show (decide (p.k = kd) && (decide (u.k = kd) && true)) = _
 rw [Bool.and_true]
theorem at1 {p : PV} {l : List PV} : ∀ a ∈ ([0] : List Int), 0 ≤ a ∧ a < ((p :: l).length : Int) := fun a h => by
 simp only [List.mem_singleton] at h
 simp only [List.length_cons]
 omega
theorem at2 {p u : PV} {l : List PV} : ∀ a ∈ ([0, 1] : List Int), 0 ≤ a ∧ a < ((p :: u :: l).length : Int) := fun a h => by
 simp only [List.mem_cons, List.not_mem_nil, or_false] at h
 simp only [List.length_cons]
 omega
theorem at2' {p u : PV} {l : List PV} : ∀ a ∈ ([1] : List Int), 0 ≤ a ∧ a < ((p :: u :: l).length : Int) := fun a h => by
 simp only [List.mem_singleton] at h
 simp only [List.length_cons]
 omega
def OpA (op : Int) : Prop := ((1 ≤ op ∧ op ≤ 7) ∨ op = 18) ∨ (op = 15 ∨ op = 16) ∨ (op = 10 ∨ op = 12)
def OpB (op : Int) : Prop := (op = 21) ∨ (op = 11) ∨ (op = 17) ∨ (op = 19 ∨ op = 20)
def OpC (op : Int) : Prop := (op = 22) ∨ (op = 23)
theorem kinds_A (fns : List (Go.Ss.Fn × FnY)) (bm : Nat) (m : RS) (i : Go.Ss.In) (iy : Sc) (hform : formE i = 0) (vs : List PV) (q : Option Addr) (cap : Nat) (hop : OpA i.op)  (hvl : vs.length = i.args.length) (w : World) (hA : Arr (pvR rF) w (low w) (us vs) q) (hm : CellsAt w ⟨bm, 0, none⟩ m.c) (hbm : bm < w.heap.size) (hu : Arr fnR w (low w) fns m.qF) (hnF : m.nF = fns.length)
  (hclo : i.op = 14 → (vs.getD 0 zP).k = 2 → 0 ≤ (vs.getD 0 zP).n ∧ (vs.getD 0 zP).n.toNat < fns.length ∧ 0 < (fnB (fns.map Prod.fst) (vs.getD 0 zP).n.toNat).length) :
  Calls Try.prog 142 [.pointer (some ⟨bm, 0, none⟩), .agg (inC i iy).toArray, .slice q vs.length cap].toArray w fun e w' => e = .returned (.bool (kindP (fns.map Prod.fst) i vs)) ∧ Ext w w' := by
 obtain ⟨fa0, fa2, fa3, fa1, fa16, fa24⟩ := form_args hform
 have fa14 : i.op = 14 → i.args.length ≠ 0 := by
  obtain ⟨_, _, _, h3, _⟩ := form_zero hform
  exact h3
 obtain ⟨r, hr⟩ : ∃ r, kindP (fns.map Prod.fst) i vs = r := ⟨_, rfl⟩
 rw [hr]
 unfold kindP kindT at hr
 refine enter Try.func142 rfl Try.ntmps142 rfl (Cls.start w) (zen ?_)
 unfold inC
 apply W.sr
 apply OL.box; rfl; rfl; exact CellsL.agg; (intro bk hbk; simp only [AllLe, and_true] at hbk)
 apply OL.box; rfl; rfl; exact CellsL.one rfl; (intro bk hbk; simp only [AllLe, and_true] at hbk)
 refine zgw ?_
 rename_i b4 hb4x
 revert bk
 intro b5 hb5x
 have hb4 : w.heap.size ≤ b4 := by first | exact hb4x | exact hb4x.1
 have hb5 : w.heap.size ≤ b5 := by first | exact hb5x | exact hb5x.1
 clear hb4x hb5x
 by_cases ga : (1 ≤ i.op ∧ i.op ≤ 7) ∨ i.op = 18
 ·rw [if_pos ga] at hr
  refine W.joinc [(0, true, .pointer (some ⟨bm, 0, none⟩)), (4, true, .pointer (some ⟨b4, 0, none⟩)), (5, true, .pointer (some ⟨b5, 0, none⟩)), (7, true, .func (.func 172) #[] #[.pointer (some ⟨b5, 0, none⟩)]), (11, true, .int .i64 i.op), (12, true, .bool true)] (Cls [blk b5 111 [.slice q vs.length cap], blk b4 85 [.int .i64 i.to_, .int .i64 i.op, .int .i64 i.n, .slice iy.1 i.args.length iy.2]] [w]) ?_ ?_
  ·refine W.cnd ?_ ?_ <;> intro ka0 <;> try exact zwx ka0
   ·apply W.skip
    exact At.joined (by rw [decide_eq_true ka0]; exact Sub.au) (fun w' hw' => hw')
   refine zgw ?_
   refine W.cnd ?_ ?_ <;> intro ka1 <;> try exact zwx ka1
   ·apply W.skip
    exact At.joined (by rw [decide_eq_true ka1]; exact Sub.au) (fun w' hw' => hw')
   refine zgw ?_
   refine W.cnd ?_ ?_ <;> intro ka2 <;> try exact zwx ka2
   ·apply W.skip
    exact At.joined (by rw [decide_eq_true ka2]; exact Sub.au) (fun w' hw' => hw')
   refine zgw ?_
   refine W.cnd ?_ ?_ <;> intro ka3 <;> try exact zwx ka3
   ·apply W.skip
    exact At.joined (by rw [decide_eq_true ka3]; exact Sub.au) (fun w' hw' => hw')
   refine zgw ?_
   refine W.cnd ?_ ?_ <;> intro ka4 <;> try exact zwx ka4
   ·apply W.skip
    exact At.joined (by rw [decide_eq_true ka4]; exact Sub.au) (fun w' hw' => hw')
   refine zgw ?_
   refine W.cnd ?_ ?_ <;> intro ka5 <;> try exact zwx ka5
   ·apply W.skip
    exact At.joined (by rw [decide_eq_true ka5]; exact Sub.au) (fun w' hw' => hw')
   refine zgw ?_
   refine W.cnd ?_ ?_ <;> intro ka6 <;> try exact zwx ka6
   ·apply W.skip
    exact At.joined (by rw [decide_eq_true ka6]; exact Sub.au) (fun w' hw' => hw')
   refine zgw ?_
   exact At.joined (by exact Sub.au) (fun w' hw' => hw')
  refine W.cond rfl (fun _ => ?_) (fun h => by cases h)
  obtain ⟨p0, p1, rfl⟩ := two_of (show vs.length = 2 by omega)
  refine zgw ?_
  apply OL.buildSlice; rfl; rfl; rfl; exact Elems.au; rfl; rfl; (intro bk hbk; simp only [AllLe, and_true] at hbk)
  (((first | (with_reducible apply OL.op) | (with_reducible apply QL.op)); (exact Guard.au); rfl; rfl); (apply Pev.callv (first := []) (cap := [.pointer (some ⟨b5, 0, none⟩)])); rfl; ((first | exact fun _ => rfl | exact fun h => h | (intro h; simp_all; done))); rfl; (exact Args.au); (exact (fun _ w2 hw2 => is_at 0 [0, 1] _ (is01 p0 p1 [] 0) hw2 (by exact mau) (fun k hk => by exact NotOwned.au) hA (by exact mau) (by exact mau) at2 (by simp) (by omega))))
  refine zgw ?_
  (refine zfn ?_; intro w' hw')
  exact ⟨by subst hr; rfl, hw'.toExt (by exact mau) (fun k hk => by exact NotOwned.au)⟩
 rw [if_neg ga] at hr
 refine W.cnd ?_ ?_ <;> intro ng1 <;> try exact zwx ng1
 refine zgw ?_
 by_cases gb : i.op = 15 ∨ i.op = 16
 ·rw [if_pos gb] at hr
  refine W.joinc [(0, true, .pointer (some ⟨bm, 0, none⟩)), (4, true, .pointer (some ⟨b4, 0, none⟩)), (5, true, .pointer (some ⟨b5, 0, none⟩)), (7, true, .func (.func 172) #[] #[.pointer (some ⟨b5, 0, none⟩)]), (11, true, .int .i64 i.op), (24, true, .bool true)] (Cls [blk b5 111 [.slice q vs.length cap], blk b4 85 [.int .i64 i.to_, .int .i64 i.op, .int .i64 i.n, .slice iy.1 i.args.length iy.2]] [w]) ?_ ?_
  ·refine W.cnd ?_ ?_ <;> intro kb0 <;> try exact zwx kb0
   ·apply W.skip
    exact At.joined (by rw [decide_eq_true kb0]; exact Sub.au) (fun w' hw' => hw')
   refine zgw ?_
   exact At.joined (by exact Sub.au) (fun w' hw' => hw')
  refine W.cond rfl (fun _ => ?_) (fun h => by cases h)
  obtain ⟨p0, vr, rfl⟩ : ∃ p r, vs = p :: r := by cases vs with | nil => (simp at hvl; omega) | cons p r => exact ⟨p, r, rfl⟩
  refine zgw ?_
  apply OL.buildSlice; rfl; rfl; rfl; exact Elems.au; rfl; rfl; (intro bk hbk; simp only [AllLe, and_true] at hbk)
  (((first | (with_reducible apply OL.op) | (with_reducible apply QL.op)); (exact Guard.au); rfl; rfl); (apply Pev.callv (first := []) (cap := [.pointer (some ⟨b5, 0, none⟩)])); rfl; ((first | exact fun _ => rfl | exact fun h => h | (intro h; simp_all; done))); rfl; (exact Args.au); (exact (fun _ w2 hw2 => is_at 0 [0] _ (is0 p0 vr 0) hw2 (by exact mau) (fun k hk => by exact NotOwned.au) hA (by exact mau) (by exact mau) at1 (by simp) (by omega))))
  refine zgw ?_
  (refine zfn ?_; intro w' hw')
  exact ⟨by subst hr; rfl, hw'.toExt (by exact mau) (fun k hk => by exact NotOwned.au)⟩
 rw [if_neg gb] at hr
 refine W.cnd ?_ ?_ <;> intro ng2 <;> try exact zwx ng2
 refine zgw ?_
 by_cases gc : i.op = 10 ∨ i.op = 12
 ·rw [if_pos gc] at hr
  refine W.joinc [(0, true, .pointer (some ⟨bm, 0, none⟩)), (4, true, .pointer (some ⟨b4, 0, none⟩)), (5, true, .pointer (some ⟨b5, 0, none⟩)), (7, true, .func (.func 172) #[] #[.pointer (some ⟨b5, 0, none⟩)]), (11, true, .int .i64 i.op), (30, true, .bool true)] (Cls [blk b5 111 [.slice q vs.length cap], blk b4 85 [.int .i64 i.to_, .int .i64 i.op, .int .i64 i.n, .slice iy.1 i.args.length iy.2]] [w]) ?_ ?_
  ·refine W.cnd ?_ ?_ <;> intro kc0 <;> try exact zwx kc0
   ·apply W.skip
    exact At.joined (by rw [decide_eq_true kc0]; exact Sub.au) (fun w' hw' => hw')
   refine zgw ?_
   exact At.joined (by exact Sub.au) (fun w' hw' => hw')
  refine W.cond rfl (fun _ => ?_) (fun h => by cases h)
  obtain ⟨p0, rfl⟩ := one_of (show vs.length = 1 by omega)
  refine zgw ?_
  apply OL.buildSlice; rfl; rfl; rfl; exact Elems.au; rfl; rfl; (intro bk hbk; simp only [AllLe, and_true] at hbk)
  (((first | (with_reducible apply OL.op) | (with_reducible apply QL.op)); (exact Guard.au); rfl; rfl); (apply Pev.callv (first := []) (cap := [.pointer (some ⟨b5, 0, none⟩)])); rfl; ((first | exact fun _ => rfl | exact fun h => h | (intro h; simp_all; done))); rfl; (exact Args.au); (exact (fun _ w2 hw2 => is_at 1 [0] _ (is0 p0 [] 1) hw2 (by exact mau) (fun k hk => by exact NotOwned.au) hA (by exact mau) (by exact mau) at1 (by simp) (by omega))))
  refine zgw ?_
  (refine zfn ?_; intro w' hw')
  exact ⟨by subst hr; rfl, hw'.toExt (by exact mau) (fun k hk => by exact NotOwned.au)⟩
 rw [if_neg gc] at hr
 refine W.cnd ?_ ?_ <;> intro ng3 <;> try exact zwx ng3
 refine zgw ?_
 exact absurd hop (by unfold OpA; omega)
theorem kinds_B (fns : List (Go.Ss.Fn × FnY)) (bm : Nat) (m : RS) (i : Go.Ss.In) (iy : Sc) (hform : formE i = 0) (vs : List PV) (q : Option Addr) (cap : Nat) (hop : OpB i.op) (na : ¬ ((1 ≤ i.op ∧ i.op ≤ 7) ∨ i.op = 18)) (nb : ¬ (i.op = 15 ∨ i.op = 16)) (nc : ¬ (i.op = 10 ∨ i.op = 12)) (hvl : vs.length = i.args.length) (w : World) (hA : Arr (pvR rF) w (low w) (us vs) q) (hm : CellsAt w ⟨bm, 0, none⟩ m.c) (hbm : bm < w.heap.size) (hu : Arr fnR w (low w) fns m.qF) (hnF : m.nF = fns.length)
  (hclo : i.op = 14 → (vs.getD 0 zP).k = 2 → 0 ≤ (vs.getD 0 zP).n ∧ (vs.getD 0 zP).n.toNat < fns.length ∧ 0 < (fnB (fns.map Prod.fst) (vs.getD 0 zP).n.toNat).length) :
  Calls Try.prog 142 [.pointer (some ⟨bm, 0, none⟩), .agg (inC i iy).toArray, .slice q vs.length cap].toArray w fun e w' => e = .returned (.bool (kindP (fns.map Prod.fst) i vs)) ∧ Ext w w' := by
 obtain ⟨fa0, fa2, fa3, fa1, fa16, fa24⟩ := form_args hform
 have fa14 : i.op = 14 → i.args.length ≠ 0 := by
  obtain ⟨_, _, _, h3, _⟩ := form_zero hform
  exact h3
 obtain ⟨r, hr⟩ : ∃ r, kindP (fns.map Prod.fst) i vs = r := ⟨_, rfl⟩
 rw [hr]
 unfold kindP kindT at hr
 refine enter Try.func142 rfl Try.ntmps142 rfl (Cls.start w) (zen ?_)
 unfold inC
 apply W.sr
 apply OL.box; rfl; rfl; exact CellsL.agg; (intro bk hbk; simp only [AllLe, and_true] at hbk)
 apply OL.box; rfl; rfl; exact CellsL.one rfl; (intro bk hbk; simp only [AllLe, and_true] at hbk)
 refine zgw ?_
 rename_i b4 hb4x
 revert bk
 intro b5 hb5x
 have hb4 : w.heap.size ≤ b4 := by first | exact hb4x | exact hb4x.1
 have hb5 : w.heap.size ≤ b5 := by first | exact hb5x | exact hb5x.1
 clear hb4x hb5x
 rw [if_neg na] at hr
 rw [if_neg nb] at hr
 rw [if_neg nc] at hr
 by_cases gd : i.op = 21
 ·rw [if_pos gd] at hr
  refine W.cond rfl (fun _ => ?_) (fun h => by simp at h; omega)
  obtain ⟨p0, p1, rfl⟩ := two_of (show vs.length = 2 by omega)
  have hr : (decide (p0.k = 1) && decide (p1.k = 0)) = r := hr
  by_cases hk : p0.k = 1
  ·rw [decide_eq_true hk, Bool.true_and] at hr
   refine zgw ?_
   apply OL.buildSlice; rfl; rfl; rfl; exact Elems.au; rfl; rfl; (intro bk hbk; simp only [AllLe, and_true] at hbk)
   (((first | (with_reducible apply OL.op) | (with_reducible apply QL.op)); (exact Guard.au); rfl; rfl); (apply Pev.callv (first := []) (cap := [.pointer (some ⟨b5, 0, none⟩)])); rfl; ((first | exact fun _ => rfl | exact fun h => h | (intro h; simp_all; done))); rfl; (exact Args.au); (exact (fun _ w2 hw2 => is_at 1 [0] true ((is0 p0 [p1] 1).trans (decide_eq_true hk)) hw2 (by exact mau) (fun k hk => by exact NotOwned.au) hA (by exact mau) (by exact mau) at1 (by simp) (by omega))))
   refine zgw ?_
   refine OL.ungate (Guard.yes rfl rfl) rfl ?_
   apply OL.buildSlice; rfl; rfl; rfl; exact Elems.au; rfl; rfl; (intro bk hbk; simp only [AllLe, and_true] at hbk)
   (((first | (with_reducible apply OL.op) | (with_reducible apply QL.op)); (exact Guard.au); rfl; rfl); (apply Pev.callv (first := []) (cap := [.pointer (some ⟨b5, 0, none⟩)])); rfl; ((first | exact fun _ => rfl | exact fun h => h | (intro h; simp_all; done))); rfl; (exact Args.au); (exact (fun _ w2 hw2 => is_at 0 [1] _ (is1 p0 p1 [] 0) hw2 (by exact mau) (fun k hk => by exact NotOwned.au) hA (by exact mau) (by exact mau) at2' (by simp) (by omega))))
   refine zgw ?_
   (refine zfn ?_; intro w' hw')
   exact ⟨by subst hr; rfl, hw'.toExt (by exact mau) (fun k hk => by exact NotOwned.au)⟩
  ·rw [decide_eq_false hk, Bool.false_and] at hr
   refine zgw ?_
   apply OL.buildSlice; rfl; rfl; rfl; exact Elems.au; rfl; rfl; (intro bk hbk; simp only [AllLe, and_true] at hbk)
   (((first | (with_reducible apply OL.op) | (with_reducible apply QL.op)); (exact Guard.au); rfl; rfl); (apply Pev.callv (first := []) (cap := [.pointer (some ⟨b5, 0, none⟩)])); rfl; ((first | exact fun _ => rfl | exact fun h => h | (intro h; simp_all; done))); rfl; (exact Args.au); (exact (fun _ w2 hw2 => is_at 1 [0] false ((is0 p0 [p1] 1).trans (decide_eq_false hk)) hw2 (by exact mau) (fun k hk => by exact NotOwned.au) hA (by exact mau) (by exact mau) at1 (by simp) (by omega))))
   refine zgw ?_
   (refine zfn ?_; intro w' hw')
   exact ⟨by subst hr; rfl, hw'.toExt (by exact mau) (fun k hk => by exact NotOwned.au)⟩
 rw [if_neg gd] at hr
 refine W.cnd ?_ ?_ <;> intro ng4 <;> try exact zwx ng4
 refine zgw ?_
 by_cases ge : i.op = 11
 ·rw [if_pos ge] at hr
  refine W.cond rfl (fun _ => ?_) (fun h => by simp at h; omega)
  obtain ⟨p0, rfl⟩ := one_of (show vs.length = 1 by omega)
  obtain ⟨qa, hqa, hqb, hcell, hok⟩ := hA.pv (i := 0) (p := p0) rfl
  have hqb : qa.block < w.heap.size := hqb
  have hcell : CellsAt w (qa.add (0 * 3)) (rC p0) := hcell
  subst hqa
  have hr : ((decide (p0.k = 1) || decide (p0.k = 2)) && decide (i.n < (p0.l.length : Int))) = r := hr
  by_cases hk : p0.k = 1
  ·simp only [decide_eq_true hk, Bool.true_or, Bool.true_and] at hr
   refine W.seq (W.rg ?_ (by kernel_rfl) (fun w hw => hw.drew))
   refine RL.ms (lK := ?lK1) (cs := [.int .i64 0]) 1 (by (repeat (first | exact SplitN.z | apply SplitN.s))) (by decide +kernel) (by rfl) (by rfl) (by rfl) (by rfl) (by rfl) (fun c0 bq hbq => ?_) ?_ ?_ ?_ ?_; rotate_left
   ·refine zgw ?_
    exact QL.sees
   ·rfl
   ·exact Guard.none
   ·exact Elems.au
   intro b9 hb9
   have hb9 := hb9.1
   refine RL.s 2 (by (repeat (first | exact SplitN.z | apply SplitN.s))) (by decide +kernel) ?_
   (((first | (with_reducible apply OL.op) | (with_reducible apply QL.op)); (exact Guard.au); rfl; rfl); (apply Pev.callv (first := []) (cap := [.pointer (some ⟨b5, 0, none⟩)])); rfl; ((first | exact fun _ => rfl | exact fun h => h | (intro h; simp_all; done))); rfl; (exact Args.au); (exact (fun _ w2 hw2 => is_at 1 [0] true ((is0 p0 [] 1).trans (decide_eq_true hk)) hw2 (by exact mau) (fun k hk => by exact NotOwned.au) hA (by exact mau) (by exact mau) at1 (by simp) (by omega))))
   refine zgw ?_
   refine RL.q 15 (by (repeat (first | exact SplitN.z | apply SplitN.s))) (by decide +kernel) ?_
   refine zgw ?_
   refine RL.z (by decide +kernel) ?_
   refine zgw ?_
   (refine zfn ?_; intro w' hw')
   exact ⟨by subst hr; rfl, hw'.toExt (by exact mau) (fun k hk => by exact NotOwned.au)⟩
  rw [decide_eq_false hk, Bool.false_or] at hr
  refine W.seq (W.rg ?_ (by kernel_rfl) (fun w hw => hw.drew))
  refine RL.ms (lK := ?lK2) (cs := [.int .i64 0]) 1 (by (repeat (first | exact SplitN.z | apply SplitN.s))) (by decide +kernel) (by rfl) (by rfl) (by rfl) (by rfl) (by rfl) (fun c0 bq hbq => ?_) ?_ ?_ ?_ ?_; rotate_left
  ·refine zgw ?_
   exact QL.sees
  ·rfl
  ·exact Guard.none
  ·exact Elems.au
  intro b9 hb9
  have hb9 := hb9.1
  refine RL.s 2 (by (repeat (first | exact SplitN.z | apply SplitN.s))) (by decide +kernel) ?_
  (((first | (with_reducible apply OL.op) | (with_reducible apply QL.op)); (exact Guard.au); rfl; rfl); (apply Pev.callv (first := []) (cap := [.pointer (some ⟨b5, 0, none⟩)])); rfl; ((first | exact fun _ => rfl | exact fun h => h | (intro h; simp_all; done))); rfl; (exact Args.au); (exact (fun _ w2 hw2 => is_at 1 [0] false ((is0 p0 [] 1).trans (decide_eq_false hk)) hw2 (by exact mau) (fun k hk => by exact NotOwned.au) hA (by exact mau) (by exact mau) at1 (by simp) (by omega))))
  refine zgw ?_
  refine RL.ms (lK := ?lK3) (cs := [.int .i64 0]) 1 (by (repeat (first | exact SplitN.z | apply SplitN.s))) (by decide +kernel) (by rfl) (by rfl) (by rfl) (by rfl) (by rfl) (fun c0 bq hbq => ?_) ?_ ?_ ?_ ?_; rotate_left
  ·refine zgw ?_
   exact QL.sees
  ·rfl
  ·(show Guard _ _ (some (3, false)) (!false); exact Guard.no rfl rfl)
  ·exact Elems.au
  intro b8 hb8
  have hb8 := hb8.1
  by_cases hk2 : p0.k = 2
  ·rw [decide_eq_true hk2, Bool.true_and] at hr
   refine RL.s 1 (by (repeat (first | exact SplitN.z | apply SplitN.s))) (by decide +kernel) ?_
   (((first | (with_reducible apply OL.op) | (with_reducible apply QL.op)); (exact Guard.au); rfl; rfl); (apply Pev.callv (first := []) (cap := [.pointer (some ⟨b5, 0, none⟩)])); rfl; ((first | exact fun _ => rfl | exact fun h => h | (intro h; simp_all; done))); rfl; (exact Args.au); (exact (fun _ w2 hw2 => is_at 2 [0] true ((is0 p0 [] 2).trans (decide_eq_true hk2)) hw2 (by exact mau) (fun k hk => by exact NotOwned.au) hA (by exact mau) (by exact mau) at1 (by simp) (by omega))))
   refine zgw ?_
   refine RL.q 12 (by (repeat (first | exact SplitN.z | apply SplitN.s))) (by decide +kernel) ?_
   refine zgw ?_
   refine RL.z (by decide +kernel) ?_
   refine zgw ?_
   (refine zfn ?_; intro w' hw')
   exact ⟨by subst hr; rfl, hw'.toExt (by exact mau) (fun k hk => by exact NotOwned.au)⟩
  ·rw [decide_eq_false hk2, Bool.false_and] at hr
   refine RL.s 1 (by (repeat (first | exact SplitN.z | apply SplitN.s))) (by decide +kernel) ?_
   (((first | (with_reducible apply OL.op) | (with_reducible apply QL.op)); (exact Guard.au); rfl; rfl); (apply Pev.callv (first := []) (cap := [.pointer (some ⟨b5, 0, none⟩)])); rfl; ((first | exact fun _ => rfl | exact fun h => h | (intro h; simp_all; done))); rfl; (exact Args.au); (exact (fun _ w2 hw2 => is_at 2 [0] false ((is0 p0 [] 2).trans (decide_eq_false hk2)) hw2 (by exact mau) (fun k hk => by exact NotOwned.au) hA (by exact mau) (by exact mau) at1 (by simp) (by omega))))
   refine zgw ?_
   refine RL.q 12 (by (repeat (first | exact SplitN.z | apply SplitN.s))) (by decide +kernel) ?_
   refine zgw ?_
   refine RL.z (by decide +kernel) ?_
   refine zgw ?_
   (refine zfn ?_; intro w' hw')
   exact ⟨by subst hr; rfl, hw'.toExt (by exact mau) (fun k hk => by exact NotOwned.au)⟩
 rw [if_neg ge] at hr
 refine W.cnd ?_ ?_ <;> intro ng5 <;> try exact zwx ng5
 refine zgw ?_
 by_cases gf : i.op = 17
 ·rw [if_pos gf] at hr
  refine W.cond rfl (fun _ => ?_) (fun h => by simp at h; omega)
  obtain ⟨p0, rfl⟩ := one_of (show vs.length = 1 by omega)
  refine zgw ?_
  apply OL.buildSlice; rfl; rfl; rfl; exact Elems.au; rfl; rfl; (intro bk hbk; simp only [AllLe, and_true] at hbk)
  (((first | (with_reducible apply OL.op) | (with_reducible apply QL.op)); (exact Guard.au); rfl; rfl); (apply Pev.callv (first := []) (cap := [.pointer (some ⟨b5, 0, none⟩)])); rfl; ((first | exact fun _ => rfl | exact fun h => h | (intro h; simp_all; done))); rfl; (exact Args.au); (exact (fun _ w2 hw2 => is_at 3 [0] _ (is0 p0 [] 3) hw2 (by exact mau) (fun k hk => by exact NotOwned.au) hA (by exact mau) (by exact mau) at1 (by simp) (by omega))))
  refine zgw ?_
  (refine zfn ?_; intro w' hw')
  exact ⟨by subst hr; rfl, hw'.toExt (by exact mau) (fun k hk => by exact NotOwned.au)⟩
 rw [if_neg gf] at hr
 refine W.cnd ?_ ?_ <;> intro ng6 <;> try exact zwx ng6
 refine zgw ?_
 by_cases gg : i.op = 19 ∨ i.op = 20
 ·rw [if_pos gg] at hr
  refine W.joinc [(0, true, .pointer (some ⟨bm, 0, none⟩)), (4, true, .pointer (some ⟨b4, 0, none⟩)), (5, true, .pointer (some ⟨b5, 0, none⟩)), (7, true, .func (.func 172) #[] #[.pointer (some ⟨b5, 0, none⟩)]), (11, true, .int .i64 i.op), (71, true, .bool true)] (Cls [blk b5 111 [.slice q vs.length cap], blk b4 85 [.int .i64 i.to_, .int .i64 i.op, .int .i64 i.n, .slice iy.1 i.args.length iy.2]] [w]) ?_ ?_
  ·refine W.cnd ?_ ?_ <;> intro kg0 <;> try exact zwx kg0
   ·apply W.skip
    exact At.joined (by rw [decide_eq_true kg0]; exact Sub.au) (fun w' hw' => hw')
   refine zgw ?_
   exact At.joined (by exact Sub.au) (fun w' hw' => hw')
  refine W.cond rfl (fun _ => ?_) (fun h => by cases h)
  obtain ⟨p0, p1, vr, rfl⟩ : ∃ p u r, vs = p :: u :: r := by
   match vs, hvl with
   | p :: u :: r, _ => exact ⟨p, u, r, rfl⟩
   | [_], h => simp only [List.length_cons, List.length_nil] at h; omega
   | [], h => simp only [List.length_nil] at h; omega
  have hr : (decide (p0.k = 3) && decide (p1.k = 0)) = r := hr
  by_cases hk : p0.k = 3
  ·rw [decide_eq_true hk, Bool.true_and] at hr
   refine zgw ?_
   apply OL.buildSlice; rfl; rfl; rfl; exact Elems.au; rfl; rfl; (intro bk hbk; simp only [AllLe, and_true] at hbk)
   (((first | (with_reducible apply OL.op) | (with_reducible apply QL.op)); (exact Guard.au); rfl; rfl); (apply Pev.callv (first := []) (cap := [.pointer (some ⟨b5, 0, none⟩)])); rfl; ((first | exact fun _ => rfl | exact fun h => h | (intro h; simp_all; done))); rfl; (exact Args.au); (exact (fun _ w2 hw2 => is_at 3 [0] true ((is0 p0 (p1 :: vr) 3).trans (decide_eq_true hk)) hw2 (by exact mau) (fun k hk => by exact NotOwned.au) hA (by exact mau) (by exact mau) at1 (by simp) (by omega))))
   refine zgw ?_
   refine OL.ungate (Guard.yes rfl rfl) rfl ?_
   apply OL.buildSlice; rfl; rfl; rfl; exact Elems.au; rfl; rfl; (intro bk hbk; simp only [AllLe, and_true] at hbk)
   (((first | (with_reducible apply OL.op) | (with_reducible apply QL.op)); (exact Guard.au); rfl; rfl); (apply Pev.callv (first := []) (cap := [.pointer (some ⟨b5, 0, none⟩)])); rfl; ((first | exact fun _ => rfl | exact fun h => h | (intro h; simp_all; done))); rfl; (exact Args.au); (exact (fun _ w2 hw2 => is_at 0 [1] _ (is1 p0 p1 vr 0) hw2 (by exact mau) (fun k hk => by exact NotOwned.au) hA (by exact mau) (by exact mau) at2' (by simp) (by omega))))
   refine zgw ?_
   (refine zfn ?_; intro w' hw')
   exact ⟨by subst hr; rfl, hw'.toExt (by exact mau) (fun k hk => by exact NotOwned.au)⟩
  ·rw [decide_eq_false hk, Bool.false_and] at hr
   refine zgw ?_
   apply OL.buildSlice; rfl; rfl; rfl; exact Elems.au; rfl; rfl; (intro bk hbk; simp only [AllLe, and_true] at hbk)
   (((first | (with_reducible apply OL.op) | (with_reducible apply QL.op)); (exact Guard.au); rfl; rfl); (apply Pev.callv (first := []) (cap := [.pointer (some ⟨b5, 0, none⟩)])); rfl; ((first | exact fun _ => rfl | exact fun h => h | (intro h; simp_all; done))); rfl; (exact Args.au); (exact (fun _ w2 hw2 => is_at 3 [0] false ((is0 p0 (p1 :: vr) 3).trans (decide_eq_false hk)) hw2 (by exact mau) (fun k hk => by exact NotOwned.au) hA (by exact mau) (by exact mau) at1 (by simp) (by omega))))
   refine zgw ?_
   (refine zfn ?_; intro w' hw')
   exact ⟨by subst hr; rfl, hw'.toExt (by exact mau) (fun k hk => by exact NotOwned.au)⟩
 rw [if_neg gg] at hr
 refine W.cnd ?_ ?_ <;> intro ng7 <;> try exact zwx ng7
 refine zgw ?_
 exact absurd hop (by unfold OpB; omega)
theorem kinds_C (fns : List (Go.Ss.Fn × FnY)) (bm : Nat) (m : RS) (i : Go.Ss.In) (iy : Sc) (hform : formE i = 0) (vs : List PV) (q : Option Addr) (cap : Nat) (hop : OpC i.op) (na : ¬ ((1 ≤ i.op ∧ i.op ≤ 7) ∨ i.op = 18)) (nb : ¬ (i.op = 15 ∨ i.op = 16)) (nc : ¬ (i.op = 10 ∨ i.op = 12)) (nd : ¬ (i.op = 21)) (ne : ¬ (i.op = 11)) (nf : ¬ (i.op = 17)) (ng : ¬ (i.op = 19 ∨ i.op = 20)) (hvl : vs.length = i.args.length) (w : World) (hA : Arr (pvR rF) w (low w) (us vs) q) (hm : CellsAt w ⟨bm, 0, none⟩ m.c) (hbm : bm < w.heap.size) (hu : Arr fnR w (low w) fns m.qF) (hnF : m.nF = fns.length)
  (hclo : i.op = 14 → (vs.getD 0 zP).k = 2 → 0 ≤ (vs.getD 0 zP).n ∧ (vs.getD 0 zP).n.toNat < fns.length ∧ 0 < (fnB (fns.map Prod.fst) (vs.getD 0 zP).n.toNat).length) :
  Calls Try.prog 142 [.pointer (some ⟨bm, 0, none⟩), .agg (inC i iy).toArray, .slice q vs.length cap].toArray w fun e w' => e = .returned (.bool (kindP (fns.map Prod.fst) i vs)) ∧ Ext w w' := by
 obtain ⟨fa0, fa2, fa3, fa1, fa16, fa24⟩ := form_args hform
 have fa14 : i.op = 14 → i.args.length ≠ 0 := by
  obtain ⟨_, _, _, h3, _⟩ := form_zero hform
  exact h3
 obtain ⟨r, hr⟩ : ∃ r, kindP (fns.map Prod.fst) i vs = r := ⟨_, rfl⟩
 rw [hr]
 unfold kindP kindT at hr
 refine enter Try.func142 rfl Try.ntmps142 rfl (Cls.start w) (zen ?_)
 unfold inC
 apply W.sr
 apply OL.box; rfl; rfl; exact CellsL.agg; (intro bk hbk; simp only [AllLe, and_true] at hbk)
 apply OL.box; rfl; rfl; exact CellsL.one rfl; (intro bk hbk; simp only [AllLe, and_true] at hbk)
 refine zgw ?_
 rename_i b4 hb4x
 revert bk
 intro b5 hb5x
 have hb4 : w.heap.size ≤ b4 := by first | exact hb4x | exact hb4x.1
 have hb5 : w.heap.size ≤ b5 := by first | exact hb5x | exact hb5x.1
 clear hb4x hb5x
 rw [if_neg na] at hr
 rw [if_neg nb] at hr
 rw [if_neg nc] at hr
 rw [if_neg nd] at hr
 rw [if_neg ne] at hr
 rw [if_neg nf] at hr
 rw [if_neg ng] at hr
 by_cases gh : i.op = 22
 ·rw [if_pos gh] at hr
  refine W.cond rfl (fun _ => ?_) (fun h => by simp at h; omega)
  refine zgw ?_
  refine W.loop (G := Nat) (fun j => j ≤ vs.length ∧ ((vs.drop j).all fun p => decide (p.k = 0)) = r) (fun j => vs.length - j)
   (fun j => [(0, true, .pointer (some ⟨bm, 0, none⟩)), (4, true, .pointer (some ⟨b4, 0, none⟩)), (5, true, .pointer (some ⟨b5, 0, none⟩)), (7, true, .func (.func 172) #[] #[.pointer (some ⟨b5, 0, none⟩)]), (85, true, .int .i64 (vs.length : Int)), (86, true, .int .i64 (j : Int))])
   (fun _ => Cls [blk b5 111 [.slice q vs.length cap], blk b4 85 [.int .i64 i.to_, .int .i64 i.op, .int .i64 i.n, .slice iy.1 i.args.length iy.2]] [w]) 0 ⟨by omega, hr⟩ (by exact Sub.au) (fun w' hw' => hw') ?_
  rintro j ⟨hj, hr⟩
  refine zgw ?_
  refine W.cnd ?_ ?_ <;> intro hlt <;> try exact zwx hlt
  ·obtain ⟨p, hp⟩ : ∃ p, vs[j]? = some p := ⟨_, List.getElem?_eq_getElem (by omega)⟩
   have hdr : vs.drop j = p :: vs.drop (j + 1) := by
    obtain ⟨h1, h2⟩ := List.getElem?_eq_some_iff.1 hp
    rw [List.drop_eq_getElem_cons h1, h2]
   rw [hdr, List.all_cons] at hr
   have hk1 : (([(j : Int)] : List Int).all fun a => decide ((vs.getD a.toNat zP).k = 0)) = decide (p.k = 0) := by
    show (decide ((vs.getD (j : Int).toNat zP).k = 0) && true) = _
    rw [Bool.and_true, Int.toNat_natCast, getD_at hp]
   by_cases hk : p.k = 0
   ·rw [decide_eq_true hk, Bool.true_and] at hr
    refine zgw ?_
    apply OL.buildSlice; rfl; rfl; rfl; exact Elems.au; rfl; rfl; (intro bk hbk; simp only [AllLe, and_true] at hbk)
    (((first | (with_reducible apply OL.op) | (with_reducible apply QL.op)); (exact Guard.au); rfl; rfl); (apply Pev.callv (first := []) (cap := [.pointer (some ⟨b5, 0, none⟩)])); rfl; ((first | exact fun _ => rfl | exact fun h => h | (intro h; simp_all; done))); rfl; (exact Args.au); (exact (fun _ w2 hw2 => is_at 0 [(j : Int)] true (hk1.trans (decide_eq_true hk)) hw2 (by exact mau) (fun k hk => by exact NotOwned.au) hA (by exact mau) (by exact mau) (fun a h => by simp only [List.mem_singleton] at h; omega) (by simp) (by omega))))
    refine zgw ?_
    exact At.again (j + 1) ⟨by omega, hr⟩ (by omega) (by exact Sub.au) (fun w' hw' => hw'.thin (by exact Thin.au))
   ·rw [decide_eq_false hk, Bool.false_and] at hr
    refine zgw ?_
    apply OL.buildSlice; rfl; rfl; rfl; exact Elems.au; rfl; rfl; (intro bk hbk; simp only [AllLe, and_true] at hbk)
    (((first | (with_reducible apply OL.op) | (with_reducible apply QL.op)); (exact Guard.au); rfl; rfl); (apply Pev.callv (first := []) (cap := [.pointer (some ⟨b5, 0, none⟩)])); rfl; ((first | exact fun _ => rfl | exact fun h => h | (intro h; simp_all; done))); rfl; (exact Args.au); (exact (fun _ w2 hw2 => is_at 0 [(j : Int)] false (hk1.trans (decide_eq_false hk)) hw2 (by exact mau) (fun k hk => by exact NotOwned.au) hA (by exact mau) (by exact mau) (fun a h => by simp only [List.mem_singleton] at h; omega) (by simp) (by omega))))
    refine zgw ?_
    (refine zfn ?_; intro w' hw')
    exact ⟨by subst hr; rfl, hw'.toExt (by exact mau) (fun k hk => by exact NotOwned.au)⟩
  rw [List.drop_eq_nil_of_le (by omega), List.all_nil] at hr
  refine zgw ?_
  (refine zfn ?_; intro w' hw')
  exact ⟨by subst hr; rfl, hw'.toExt (by exact mau) (fun k hk => by exact NotOwned.au)⟩
 rw [if_neg gh] at hr
 refine W.cnd ?_ ?_ <;> intro ng8 <;> try exact zwx ng8
 refine zgw ?_
 by_cases gi : i.op = 23
 ·rw [if_pos gi] at hr
  refine W.cond rfl (fun _ => ?_) (fun h => by simp at h; omega)
  obtain ⟨p0, p1, rfl⟩ := two_of (show vs.length = 2 by omega)
  obtain ⟨qa, hqa, hqb, hcell, hok⟩ := hA.pv (i := 0) (p := p0) rfl
  have hqb : qa.block < w.heap.size := hqb
  have hcell : CellsAt w (qa.add (0 * 3)) (rC p0) := hcell
  subst hqa
  obtain ⟨qa', hqa', _, hcell1, _⟩ := hA.pv (i := 1) (p := p1) rfl
  obtain rfl := Option.some.inj hqa'
  have hcell1 : CellsAt w (qa.add (1 * 3)) (rC p1) := hcell1
  have hc12 : w.cell? ⟨qa.block, qa.off + 1 * 3 + 2, none⟩ = some (.slice p1.q p1.l.length p1.cap) := hcell1 2 _ rfl
  have hr : (decide (p0.k = 4) && decide (p1.k = 4) && decide ((p0.l.length : Int) = p1.l.length)) = r := hr
  have hi01 := is01 p0 p1 [] 4
  obtain ⟨c, hcc⟩ : ∃ c, (decide (p0.k = 4) && decide (p1.k = 4)) = c := ⟨_, rfl⟩
  rw [hcc] at hr hi01
  cases c with
  | true =>
   rw [Bool.true_and] at hr
   refine W.seq (W.rg ?_ (by kernel_rfl) (fun w hw => hw.drew))
   refine RL.ms (lK := ?lK4) (cs := [.int .i64 0, .int .i64 1]) 1 (by (repeat (first | exact SplitN.z | apply SplitN.s))) (by decide +kernel) (by rfl) (by rfl) (by rfl) (by rfl) (by rfl) (fun c0 bq hbq => ?_) ?_ ?_ ?_ ?_; rotate_left
   ·refine zgw ?_
    exact QL.sees
   ·rfl
   ·exact Guard.none
   ·exact Elems.au
   intro b9 hb9
   have hb9 := hb9.1
   refine RL.s 2 (by (repeat (first | exact SplitN.z | apply SplitN.s))) (by decide +kernel) ?_
   (((first | (with_reducible apply OL.op) | (with_reducible apply QL.op)); (exact Guard.au); rfl; rfl); (apply Pev.callv (first := []) (cap := [.pointer (some ⟨b5, 0, none⟩)])); rfl; ((first | exact fun _ => rfl | exact fun h => h | (intro h; simp_all; done))); rfl; (exact Args.au); (exact (fun _ w2 hw2 => is_at 4 [0, 1] true hi01 hw2 (by exact mau) (fun k hk => by exact NotOwned.au) hA (by exact mau) (by exact mau) at2 (by simp) (by omega))))
   refine zgw ?_
   refine RL.q 13 (by (repeat (first | exact SplitN.z | apply SplitN.s))) (by decide +kernel) ?_
   refine zgw ?_
   refine RL.z (by decide +kernel) ?_
   refine zgw ?_
   (refine zfn ?_; intro w' hw')
   exact ⟨by subst hr; rfl, hw'.toExt (by exact mau) (fun k hk => by exact NotOwned.au)⟩
  | false =>
   rw [Bool.false_and] at hr
   refine W.seq (W.rg ?_ (by kernel_rfl) (fun w hw => hw.drew))
   refine RL.ms (lK := ?lK5) (cs := [.int .i64 0, .int .i64 1]) 1 (by (repeat (first | exact SplitN.z | apply SplitN.s))) (by decide +kernel) (by rfl) (by rfl) (by rfl) (by rfl) (by rfl) (fun c0 bq hbq => ?_) ?_ ?_ ?_ ?_; rotate_left
   ·refine zgw ?_
    exact QL.sees
   ·rfl
   ·exact Guard.none
   ·exact Elems.au
   intro b9 hb9
   have hb9 := hb9.1
   refine RL.s 2 (by (repeat (first | exact SplitN.z | apply SplitN.s))) (by decide +kernel) ?_
   (((first | (with_reducible apply OL.op) | (with_reducible apply QL.op)); (exact Guard.au); rfl; rfl); (apply Pev.callv (first := []) (cap := [.pointer (some ⟨b5, 0, none⟩)])); rfl; ((first | exact fun _ => rfl | exact fun h => h | (intro h; simp_all; done))); rfl; (exact Args.au); (exact (fun _ w2 hw2 => is_at 4 [0, 1] false hi01 hw2 (by exact mau) (fun k hk => by exact NotOwned.au) hA (by exact mau) (by exact mau) at2 (by simp) (by omega))))
   refine zgw ?_
   refine RL.q 13 (by (repeat (first | exact SplitN.z | apply SplitN.s))) (by decide +kernel) ?_
   refine zgw ?_
   refine RL.z (by decide +kernel) ?_
   refine zgw ?_
   (refine zfn ?_; intro w' hw')
   exact ⟨by subst hr; rfl, hw'.toExt (by exact mau) (fun k hk => by exact NotOwned.au)⟩
 rw [if_neg gi] at hr
 refine W.cnd ?_ ?_ <;> intro ng9 <;> try exact zwx ng9
 refine zgw ?_
 exact absurd hop (by unfold OpC; omega)
theorem kinds_D (fns : List (Go.Ss.Fn × FnY)) (bm : Nat) (m : RS) (i : Go.Ss.In) (iy : Sc) (hform : formE i = 0) (vs : List PV) (q : Option Addr) (cap : Nat) (na : ¬ ((1 ≤ i.op ∧ i.op ≤ 7) ∨ i.op = 18)) (nb : ¬ (i.op = 15 ∨ i.op = 16)) (nc : ¬ (i.op = 10 ∨ i.op = 12)) (nd : ¬ (i.op = 21)) (ne : ¬ (i.op = 11)) (nf : ¬ (i.op = 17)) (ng : ¬ (i.op = 19 ∨ i.op = 20)) (nh : ¬ (i.op = 22)) (ni : ¬ (i.op = 23)) (hvl : vs.length = i.args.length) (w : World) (hA : Arr (pvR rF) w (low w) (us vs) q) (hm : CellsAt w ⟨bm, 0, none⟩ m.c) (hbm : bm < w.heap.size) (hu : Arr fnR w (low w) fns m.qF) (hnF : m.nF = fns.length)
  (hclo : i.op = 14 → (vs.getD 0 zP).k = 2 → 0 ≤ (vs.getD 0 zP).n ∧ (vs.getD 0 zP).n.toNat < fns.length ∧ 0 < (fnB (fns.map Prod.fst) (vs.getD 0 zP).n.toNat).length) :
  Calls Try.prog 142 [.pointer (some ⟨bm, 0, none⟩), .agg (inC i iy).toArray, .slice q vs.length cap].toArray w fun e w' => e = .returned (.bool (kindP (fns.map Prod.fst) i vs)) ∧ Ext w w' := by
 obtain ⟨fa0, fa2, fa3, fa1, fa16, fa24⟩ := form_args hform
 have fa14 : i.op = 14 → i.args.length ≠ 0 := by
  obtain ⟨_, _, _, h3, _⟩ := form_zero hform
  exact h3
 obtain ⟨r, hr⟩ : ∃ r, kindP (fns.map Prod.fst) i vs = r := ⟨_, rfl⟩
 rw [hr]
 unfold kindP kindT at hr
 refine enter Try.func142 rfl Try.ntmps142 rfl (Cls.start w) (zen ?_)
 unfold inC
 apply W.sr
 apply OL.box; rfl; rfl; exact CellsL.agg; (intro bk hbk; simp only [AllLe, and_true] at hbk)
 apply OL.box; rfl; rfl; exact CellsL.one rfl; (intro bk hbk; simp only [AllLe, and_true] at hbk)
 refine zgw ?_
 rename_i b4 hb4x
 revert bk
 intro b5 hb5x
 have hb4 : w.heap.size ≤ b4 := by first | exact hb4x | exact hb4x.1
 have hb5 : w.heap.size ≤ b5 := by first | exact hb5x | exact hb5x.1
 clear hb4x hb5x
 rw [if_neg na] at hr
 rw [if_neg nb] at hr
 rw [if_neg nc] at hr
 rw [if_neg nd] at hr
 rw [if_neg ne] at hr
 rw [if_neg nf] at hr
 rw [if_neg ng] at hr
 rw [if_neg nh] at hr
 rw [if_neg ni] at hr
 by_cases gj : i.op = 24
 ·rw [if_pos gj] at hr
  refine W.cond rfl (fun _ => ?_) (fun h => by simp at h; omega)
  obtain ⟨p0, rfl⟩ := one_of (show vs.length = 1 by omega)
  obtain ⟨qa, hqa, hqb, hcell, hok⟩ := hA.pv (i := 0) (p := p0) rfl
  have hqb : qa.block < w.heap.size := hqb
  have hcell : CellsAt w (qa.add (0 * 3)) (rC p0) := hcell
  subst hqa
  have hr : (decide (p0.k = 4) && decide (i.n < (p0.l.length : Int))) = r := hr
  by_cases hk : p0.k = 4
  ·rw [decide_eq_true hk, Bool.true_and] at hr
   refine W.seq (W.rg ?_ (by kernel_rfl) (fun w hw => hw.drew))
   refine RL.ms (lK := ?lK6) (cs := [.int .i64 0]) 1 (by (repeat (first | exact SplitN.z | apply SplitN.s))) (by decide +kernel) (by rfl) (by rfl) (by rfl) (by rfl) (by rfl) (fun c0 bq hbq => ?_) ?_ ?_ ?_ ?_; rotate_left
   ·refine zgw ?_
    exact QL.sees
   ·rfl
   ·exact Guard.none
   ·exact Elems.au
   intro b9 hb9
   have hb9 := hb9.1
   refine RL.s 2 (by (repeat (first | exact SplitN.z | apply SplitN.s))) (by decide +kernel) ?_
   (((first | (with_reducible apply OL.op) | (with_reducible apply QL.op)); (exact Guard.au); rfl; rfl); (apply Pev.callv (first := []) (cap := [.pointer (some ⟨b5, 0, none⟩)])); rfl; ((first | exact fun _ => rfl | exact fun h => h | (intro h; simp_all; done))); rfl; (exact Args.au); (exact (fun _ w2 hw2 => is_at 4 [0] true ((is0 p0 [] 4).trans (decide_eq_true hk)) hw2 (by exact mau) (fun k hk => by exact NotOwned.au) hA (by exact mau) (by exact mau) at1 (by simp) (by omega))))
   refine zgw ?_
   refine RL.q 10 (by (repeat (first | exact SplitN.z | apply SplitN.s))) (by decide +kernel) ?_
   refine zgw ?_
   refine RL.z (by decide +kernel) ?_
   refine zgw ?_
   (refine zfn ?_; intro w' hw')
   exact ⟨by subst hr; rfl, hw'.toExt (by exact mau) (fun k hk => by exact NotOwned.au)⟩
  ·rw [decide_eq_false hk, Bool.false_and] at hr
   refine W.seq (W.rg ?_ (by kernel_rfl) (fun w hw => hw.drew))
   refine RL.ms (lK := ?lK7) (cs := [.int .i64 0]) 1 (by (repeat (first | exact SplitN.z | apply SplitN.s))) (by decide +kernel) (by rfl) (by rfl) (by rfl) (by rfl) (by rfl) (fun c0 bq hbq => ?_) ?_ ?_ ?_ ?_; rotate_left
   ·refine zgw ?_
    exact QL.sees
   ·rfl
   ·exact Guard.none
   ·exact Elems.au
   intro b9 hb9
   have hb9 := hb9.1
   refine RL.s 2 (by (repeat (first | exact SplitN.z | apply SplitN.s))) (by decide +kernel) ?_
   (((first | (with_reducible apply OL.op) | (with_reducible apply QL.op)); (exact Guard.au); rfl; rfl); (apply Pev.callv (first := []) (cap := [.pointer (some ⟨b5, 0, none⟩)])); rfl; ((first | exact fun _ => rfl | exact fun h => h | (intro h; simp_all; done))); rfl; (exact Args.au); (exact (fun _ w2 hw2 => is_at 4 [0] false ((is0 p0 [] 4).trans (decide_eq_false hk)) hw2 (by exact mau) (fun k hk => by exact NotOwned.au) hA (by exact mau) (by exact mau) at1 (by simp) (by omega))))
   refine zgw ?_
   refine RL.q 10 (by (repeat (first | exact SplitN.z | apply SplitN.s))) (by decide +kernel) ?_
   refine zgw ?_
   refine RL.z (by decide +kernel) ?_
   refine zgw ?_
   (refine zfn ?_; intro w' hw')
   exact ⟨by subst hr; rfl, hw'.toExt (by exact mau) (fun k hk => by exact NotOwned.au)⟩
 rw [if_neg gj] at hr
 refine W.cnd ?_ ?_ <;> intro ng10 <;> try exact zwx ng10
 refine zgw ?_
 by_cases gk : i.op = 14
 ·rw [if_pos gk] at hr
  refine W.cond rfl (fun _ => ?_) (fun h => by simp at h; omega)
  obtain ⟨p0, vr, rfl⟩ : ∃ p r, vs = p :: r := by cases vs with | nil => (have := fa14 (by omega); simp only [List.length_nil] at hvl; omega) | cons p r => exact ⟨p, r, rfl⟩
  obtain ⟨qa, hqa, hqb, hcell, hok⟩ := hA.pv (i := 0) (p := p0) rfl
  have hqb : qa.block < w.heap.size := hqb
  have hcell : CellsAt w (qa.add (0 * 3)) (rC p0) := hcell
  subst hqa
  have hc01 : w.cell? ⟨qa.block, qa.off + 0 * 3 + 1, none⟩ = some (.int .i64 p0.n) := hcell 1 _ rfl
  have hr : (decide (p0.k = 2) && decide ((parB (fns.map Prod.fst) p0.n.toNat 0).length = (p0 :: vr).length)) = r := hr
  by_cases hk : p0.k = 2
  ·rw [decide_eq_true hk, Bool.true_and] at hr
   obtain ⟨hn0, hnl, hbl⟩ := hclo (by omega) hk
   have hn0 : 0 ≤ p0.n := hn0
   have hnl : p0.n.toNat < fns.length := hnl
   have hbl : 0 < (fnB (fns.map Prod.fst) p0.n.toNat).length := hbl
   obtain ⟨am, xm, hqm, ham, hxm, hcM, hokM⟩ := hu.get hnl
   have ham : am.block < w.heap.size := ham
   have hcM : CellsAt w (am.add (p0.n.toNat * 2)) [.int .i64 xm.1.name, .slice xm.2.q xm.1.blocks.length xm.2.c] := hcM
   have hfB : fnB (fns.map Prod.fst) p0.n.toNat = xm.1.blocks := by
    unfold fnB
    rw [List.getD_eq_getElem?_getD, List.getElem?_map, hxm]
    rfl
   unfold parB at hr
   rw [hfB] at hr hbl
   obtain ⟨es, hes, hArr⟩ := hokM.b
   have hesl : 0 < es.length := by rw [← List.length_map (f := Prod.fst), hes]; exact hbl
   obtain ⟨ab, xb, hqb2, hab2, hxb, hcB, hokB⟩ := hArr.get hesl
   have hab2 : ab.block < w.heap.size := hab2
   have hcB : CellsAt w (ab.add (0 * 7)) (bkC xb.1 xb.2) := hcB
   have hb0 : xm.1.blocks.getD 0 noB = xb.1 := by
    rw [← hes, List.getD_eq_getElem?_getD, List.getElem?_map, hxb]
    rfl
   rw [hb0] at hr
   have hcm0 : w.cell? ⟨bm, 0, none⟩ = some (.slice m.qF m.nF m.cF) := hm 0 _ rfl
   have hcB0 : w.cell? ((ab.add (0 * 7)).add 0) = some (.slice xb.2.p.1 xb.1.params.length xb.2.p.2) := hcB 0 _ rfl
   rw [hqm, hnF] at hcm0
   have hbls : xm.1.blocks.length = es.length := by rw [← hes, List.length_map]
   have hcM1 : w.cell? ((am.add (p0.n.toNat * 2)).add 1) = some (.slice (some ab) es.length xm.2.c) := by rw [← hbls, ← hqb2]; exact hcM 1 _ rfl
   refine W.seq (W.rg ?_ (by kernel_rfl) (fun w hw => hw.drew))
   refine RL.ms (lK := ?lK8) (cs := [.int .i64 0]) 1 (by (repeat (first | exact SplitN.z | apply SplitN.s))) (by decide +kernel) (by rfl) (by rfl) (by rfl) (by rfl) (by rfl) (fun c0 bq hbq => ?_) ?_ ?_ ?_ ?_; rotate_left
   ·refine zgw ?_
    exact QL.sees
   ·rfl
   ·exact Guard.none
   ·exact Elems.au
   intro b9 hb9
   have hb9 := hb9.1
   refine RL.s 2 (by (repeat (first | exact SplitN.z | apply SplitN.s))) (by decide +kernel) ?_
   (((first | (with_reducible apply OL.op) | (with_reducible apply QL.op)); (exact Guard.au); rfl; rfl); (apply Pev.callv (first := []) (cap := [.pointer (some ⟨b5, 0, none⟩)])); rfl; ((first | exact fun _ => rfl | exact fun h => h | (intro h; simp_all; done))); rfl; (exact Args.au); (exact (fun _ w2 hw2 => is_at 2 [0] true ((is0 p0 vr 2).trans (decide_eq_true hk)) hw2 (by exact mau) (fun k hk => by exact NotOwned.au) hA (by exact mau) (by exact mau) at1 (by simp) (by omega))))
   refine zgw ?_
   refine RL.q 21 (by (repeat (first | exact SplitN.z | apply SplitN.s))) (by decide +kernel) ?_
   refine zgw ?_
   refine RL.z (by decide +kernel) ?_
   refine zgw ?_
   (refine zfn ?_; intro w' hw')
   exact ⟨by subst hr; congr 3; exact decide_eq_decide.2 (by omega), hw'.toExt (by exact mau) (fun k hk => by exact NotOwned.au)⟩
  ·rw [decide_eq_false hk, Bool.false_and] at hr
   refine W.seq (W.rg ?_ (by kernel_rfl) (fun w hw => hw.drew))
   refine RL.ms (lK := ?lK9) (cs := [.int .i64 0]) 1 (by (repeat (first | exact SplitN.z | apply SplitN.s))) (by decide +kernel) (by rfl) (by rfl) (by rfl) (by rfl) (by rfl) (fun c0 bq hbq => ?_) ?_ ?_ ?_ ?_; rotate_left
   ·refine zgw ?_
    exact QL.sees
   ·rfl
   ·exact Guard.none
   ·exact Elems.au
   intro b9 hb9
   have hb9 := hb9.1
   refine RL.s 2 (by (repeat (first | exact SplitN.z | apply SplitN.s))) (by decide +kernel) ?_
   (((first | (with_reducible apply OL.op) | (with_reducible apply QL.op)); (exact Guard.au); rfl; rfl); (apply Pev.callv (first := []) (cap := [.pointer (some ⟨b5, 0, none⟩)])); rfl; ((first | exact fun _ => rfl | exact fun h => h | (intro h; simp_all; done))); rfl; (exact Args.au); (exact (fun _ w2 hw2 => is_at 2 [0] false ((is0 p0 vr 2).trans (decide_eq_false hk)) hw2 (by exact mau) (fun k hk => by exact NotOwned.au) hA (by exact mau) (by exact mau) at1 (by simp) (by omega))))
   refine zgw ?_
   refine RL.q 21 (by (repeat (first | exact SplitN.z | apply SplitN.s))) (by decide +kernel) ?_
   refine zgw ?_
   refine RL.z (by decide +kernel) ?_
   refine zgw ?_
   (refine zfn ?_; intro w' hw')
   exact ⟨by subst hr; rfl, hw'.toExt (by exact mau) (fun k hk => by exact NotOwned.au)⟩
 rw [if_neg gk] at hr
 refine W.cnd ?_ ?_ <;> intro ng11 <;> try exact zwx ng11
 refine zgw ?_
 (refine zfn ?_; intro w' hw')
 exact ⟨by subst hr; rfl, hw'.toExt (by exact mau) (fun k hk => by exact NotOwned.au)⟩
theorem kinds_calls (fns : List (Go.Ss.Fn × FnY)) (bm : Nat) (m : RS) (i : Go.Ss.In) (iy : Sc) (hform : formE i = 0) (vs : List PV) (q : Option Addr) (cap : Nat) (hvl : vs.length = i.args.length) (w : World) (hA : Arr (pvR rF) w (low w) (us vs) q) (hm : CellsAt w ⟨bm, 0, none⟩ m.c) (hbm : bm < w.heap.size) (hu : Arr fnR w (low w) fns m.qF) (hnF : m.nF = fns.length)
  (hclo : i.op = 14 → (vs.getD 0 zP).k = 2 → 0 ≤ (vs.getD 0 zP).n ∧ (vs.getD 0 zP).n.toNat < fns.length ∧ 0 < (fnB (fns.map Prod.fst) (vs.getD 0 zP).n.toNat).length) :
  Calls Try.prog 142 [.pointer (some ⟨bm, 0, none⟩), .agg (inC i iy).toArray, .slice q vs.length cap].toArray w fun e w' => e = .returned (.bool (kindP (fns.map Prod.fst) i vs)) ∧ Ext w w' := by
 by_cases hxA : OpA i.op
 ·exact kinds_A fns bm m i iy hform vs q cap hxA  hvl w hA hm hbm hu hnF hclo
 unfold OpA at hxA
 by_cases hxB : OpB i.op
 ·exact kinds_B fns bm m i iy hform vs q cap hxB (by omega) (by omega) (by omega) hvl w hA hm hbm hu hnF hclo
 unfold OpB at hxB
 by_cases hxC : OpC i.op
 ·exact kinds_C fns bm m i iy hform vs q cap hxC (by omega) (by omega) (by omega) (by omega) (by omega) (by omega) (by omega) hvl w hA hm hbm hu hnF hclo
 unfold OpC at hxC
 exact kinds_D fns bm m i iy hform vs q cap (by omega) (by omega) (by omega) (by omega) (by omega) (by omega) (by omega) (by omega) (by omega) hvl w hA hm hbm hu hnF hclo
end Go.Proofs.Ytehelljmaiophaa.ss

/- The walk of the reference's effect. Conditions: none. -/
namespace Go.Eng
open Go.RowKit
theorem putL_takeC : ∀ (vs l : List Value) (o m : Nat), (putL l o vs).take m = putL (l.take m) o vs
 | [], _, _, _ => rfl
 | v :: vs, l, o, m => by rw [putL, putL_takeC vs, List.take_set, putL]
section
variable {P : Program} {n : Nat} {l : Env} {H : List Item} {S : List World} {ops : Array Oper} {rest : List Oper} {Q : Exit → Act → World → Prop} {t ty : TypeId} {x y : Operand} {pos : String} {af : Array Edge}
theorem Pev.load_fa {C : World → Prop} {c cx : Bool} {d : Option Nat} {g : Option (Nat × Bool)} {a : Addr} {k : Nat} {vs : List Value} (hx : evl l x = some (cx, .pointer (some a))) (hcx : c = true → cx = true) (hs : aggN P t = some k) (hf : c = true → ∀ w, C w → CellsAt w a vs) (hk : vs.length = k) : Pev P n l C ⟨d, .load t x, ty, pos, af, g⟩ c (.agg vs.toArray) :=
 Pev.load_f hx hcx hs hk hf
theorem OL.storeRA {g0 o p base m cap size k : Nat} {O : Nat → Prop} {e : TypeId} {xs vs : List Value} {v : Value} {F : Item → List Item} (hx : evl l x = some (true, .pointer (some ⟨g0, o, none⟩))) (hy : evl l y = some (true, v)) (hv : CellsL v vs)
  (hs : sizeN P t = some k) (hk : vs.length = k) (h1 : oneL vs = true) (hH : Hole p H (row base O (some ⟨g0, 0, none⟩) m cap e size xs) F) (hl : o + vs.length ≤ xs.length)
  (kk : OL P n ops Q rest l (Cls (F (row base O (some ⟨g0, 0, none⟩) m cap e size (putL xs o vs))) S)) : OL P n ops Q (⟨none, .store t x y, ty, pos, af, none⟩ :: rest) l (Cls H S) := by
 obtain ⟨hp, hF⟩ := hH.eq
 rw [hF] at kk
 refine OL.store_ (C' := Cls (H.set p (row base O (some ⟨g0, 0, none⟩) m cap e size (putL xs o vs))) S) rfl rfl (fun a w hs' hc => ?_) kk
 have hi := hc.item (List.mem_of_getElem? hp)
 obtain ⟨hO, hxl, hor⟩ := hi
 rcases hor with ⟨h3, _⟩ | ⟨gg, cap', cur, h3, hb, hg, h4, h5, h6, h7⟩
 ·cases h3
 ·simp only [Value.slice.injEq, Option.some.injEq, Addr.mk.injEq] at h3
  obtain ⟨⟨rfl, _⟩, _, rfl⟩ := h3
  have hcl : o + vs.length ≤ cur.toList.length := by
   rw [← h7, List.length_take] at hl
   omega
  obtain ⟨w', hr', hh, hkp⟩ := run_storeAt_blk (P := P) (o := o) (vs := vs) (cs := cur.toList) (t' := e) (w := w) (b := g0) (by simpa using hg) hs hv.eq hk hcl h1
  refine ⟨w', ?_, hc.turn p hp (j := row base O (some ⟨g0, 0, none⟩) m cap e size (putL xs o vs)) ⟨hkp.os, hkp.tape, hkp.output, hkp.size, fun k hk hn => hkp.block k hk (fun e2 => hn (by rw [show k = g0 from e2]; exact ⟨hb, hO _ rfl⟩))⟩ ?_ (fun q hq => ⟨.inl hq, Nat.lt_of_lt_of_le (hc.lt _ (List.mem_of_getElem? hp) q hq) hkp.size⟩) (fun q hq => hq)⟩
  ·simp only [execOp, hs'.eval hx rfl, hs'.eval hy rfl, Sem.run_bind, hr', Result.andThen_ok]; rfl
  ·refine ⟨hO, by rw [putL_length']; exact hxl, .inr ⟨g0, cap, (putL cur.toList o vs).toArray, rfl, hb, hh, h4, h5, by rw [List.size_toArray, putL_length']; simpa using h6, ?_⟩⟩
   rw [← h7]
   exact putL_takeC _ _ _ _
end
end Go.Eng
namespace Go.Ss
open Go.Eng Go.RowKit
structure OneH (nf : Nat) (i : Go.Ss.In) (y : YS) (sA : List (List SV)) (vs : List PV) (svs : List SV) (q : Option Addr) (cap : Nat) : Prop where
 form : formE i = 0
 ok : YOk y sA
 vl : vs.length = i.args.length
 er : Ers rN vs svs
 inq : InQ y.L (.mk 0 0 q cap 0 vs)
 wf : ∀ v ∈ svs, WfV nf sA.length v
 a1 : (y.A.length : Int) + 1 ≤ y.m.steps
section
variable {nf : Nat} {i : Go.Ss.In} {y : YS} {sA : List (List SV)} {vs : List PV} {svs : List SV} {q : Option Addr} {cap : Nat} (h : OneH nf i y sA vs svs q cap)
include h
theorem OneH.adr {B : Nat} {w : World} (hp : (pool (pvR rF) B y.Op y.L).holds w) (hl : 0 < vs.length) : ∃ a, q = some a := h.inq.some hp hl
theorem OneH.at_ {p : PV} (j : Nat) (hj : vs[j]? = some p) {a : Addr} (ha : q = some a) : ∀ {B : Nat} (w : World), (pool (pvR rF) B y.Op y.L).holds w → CellsAt w (a.add (j * 3)) (rC p) := fun w hp => h.inq.cells hp ha hj
theorem OneH.arr (hA : ∀ v ∈ svs, v.k = 3 → 0 ≤ v.n ∧ v.n < (sA.length : Int)) {p : PV} {v : SV} (hv : v ∈ svs) (he : Er rN p v) (hk : p.k = 3) : ∃ a, 0 ≤ p.n ∧ p.n.toNat < y.A.length ∧ y.A[p.n.toNat]? = some a ∧ Ers rN a.xs (rowA sA v) ∧ a ∈ y.A := by
 obtain ⟨h0, h1⟩ := hA v hv (by rw [← he.k]; exact hk)
 have hn := he.nr
 have hal := h.ok.al
 have hlt : p.n.toNat < y.A.length := by omega
 refine ⟨y.A[p.n.toNat], by omega, hlt, List.getElem?_eq_getElem hlt, ?_, List.getElem_mem hlt⟩
 obtain ⟨l, h2, h3⟩ := h.ok.ar p.n.toNat _ (List.getElem?_eq_getElem hlt)
 unfold rowA
 rw [← hn, List.getD_eq_getElem?_getD, h2]
 exact h3
theorem OneH.kid {p : PV} (hm : p ∈ vs) : InQ y.L p := h.inq.kid hm
end
end Go.Ss
namespace Go.Proofs.Ytehelljmaiophaa.ss
set_option maxRecDepth 100000
open Go.Eng Go.RowKit Go.Ss
def OneS (f : FuncId) (bm : Nat) (i : Go.Ss.In) (iy : Sc) (y : YS) (sA : List (List SV)) (vs : List PV) (svs : List SV) (q : Option Addr) (cap : Nat) (H : List Eng.Item) (S : List World) (s0 w : World) : Prop :=
 Calls Try.prog f [.pointer (some ⟨bm, 0, none⟩), .agg (inC i iy).toArray, .slice q vs.length cap].toArray w fun e w' => ∃ v y', e = .returned (.agg (rC v).toArray) ∧ OneR (insP i.op i.n svs sA y.out) y y' v ∧ Cls (rI s0.heap.size bm y' H) S w'
theorem rstop2 {bm : Nat} {m : RS} (en : Int) (hed : m.ed = false) {a b : Eng.Item} {R : List Eng.Item} {S : List World} (s0 : World) (hs0 : s0 ∈ S) {w : World} (hc : Cls (a :: b :: blk bm 110 m.c :: R) S w) :
  Calls Try.prog 113 [.pointer (some ⟨bm, 0, none⟩), .int .i64 en].toArray w fun e w' => e = .returned (.agg #[.int .i64 0, .int .i64 0, .slice none 0 0]) ∧ Cls (a :: b :: blk bm 110 { m with ed := true, en := en }.c :: R) S w' :=
 (rstop_calls bm m en hed (a :: b :: R) S s0 hs0 w (hc.perm (List.perm_middle (l₁ := [a, b]) (l₂ := R)))).mono fun e w' h => ⟨h.1, h.2.perm (List.perm_middle (l₁ := [a, b]) (l₂ := R)).symm⟩
theorem rspend2 {bm : Nat} {m : RS} (n : Int) (z f : Bool) (hz : decide (m.steps + n ≤ m.fuel) = z) (hf : (!z) = f) (hed : m.ed = false) (h0 : 0 ≤ m.steps ∧ m.steps ≤ 1000000) (hn : 0 ≤ n ∧ n ≤ 1000000) {a b : Eng.Item} {R : List Eng.Item} {S : List World} (s0 : World) (hs0 : s0 ∈ S) {w : World} (hc : Cls (a :: b :: blk bm 110 m.c :: R) S w) :
  Calls Try.prog 111 [.pointer (some ⟨bm, 0, none⟩), .int .i64 n].toArray w fun e w' => e = .returned (.bool z) ∧ Cls (a :: b :: blk bm 110 [.slice m.qF m.nF m.cF, .int .i64 m.main, .slice m.qa m.na m.ca, .int .i64 (m.steps + n), .int .i64 m.fuel, .slice m.qo m.no m.co, .int .i64 m.en, .int .i64 m.va, .bool f] :: R) S w' := by
 subst hz hf
 exact (rspend_calls bm m n hed h0 hn (a :: b :: R) S s0 hs0 w (hc.perm (List.perm_middle (l₁ := [a, b]) (l₂ := R)))).mono fun e w' h => ⟨h.1, h.2.perm (List.perm_middle (l₁ := [a, b]) (l₂ := R)).symm⟩
theorem bag_up {a b c d e f i : Eng.Item} {R : List Eng.Item} {S : List World} {w : World} (h : Cls (a :: b :: c :: d :: e :: f :: i :: R) S w) : Cls (i :: a :: b :: c :: d :: e :: f :: R) S w := h.perm (List.perm_middle (l₁ := [a, b, c, d, e, f]) (l₂ := R))
theorem bag_dn {a b c d e f i : Eng.Item} {R : List Eng.Item} {S : List World} {w : World} (h : Cls (i :: a :: b :: c :: d :: e :: f :: R) S w) : Cls (a :: b :: c :: d :: e :: f :: i :: R) S w := h.perm (List.perm_middle (l₁ := [a, b, c, d, e, f]) (l₂ := R)).symm
theorem map_same {A : List RA} {j : Nat} {a : RA} (hj : A[j]? = some a) (x : PV) (m : Nat) : (A.set j { a with xs := a.xs.set m x }).map RA.v = A.map RA.v := by
 rw [List.map_set]
 apply List.ext_getElem?
 intro k
 rw [List.getElem?_set]
 split
 ·rename_i e
  subst e
  split
  ·rw [List.getElem?_map, hj]
   simp only [RA.v, List.length_set, Option.map_some]
  ·rename_i hk
   rw [List.getElem?_eq_none (by omega)]
 ·rfl
theorem drop2 {b c : Nat} {t u : TypeId} {x z : List Value} {R : List Eng.Item} {S : List World} {w : World} (hb : AllLe S b) (hc : AllLe S c) (h : Cls (blk b t x :: blk c u z :: R) S w) : Cls R S w :=
 h.thin (.any (fun k hk => by rw [show k = b from hk]; exact hb) (.any (fun k hk => by rw [show k = c from hk]; exact hc) Thin.same))
theorem eff_15 (bm nf : Nat) (i : Go.Ss.In) (iy : Sc) (y : YS) (sA : List (List SV)) (vs : List PV) (svs : List SV) (q : Option Addr) (cap : Nat) (h : OneH nf i y sA vs svs q cap) (hop : i.op = 15) (hk : (vs.getD 0 zP).k = 0) (H : List Eng.Item) (S : List World) (s0 : World) (hs0 : s0 ∈ S) (w : World)
  (hc : Cls (rI s0.heap.size bm y H) S w) : OneS 144 bm i iy y sA vs svs q cap H S s0 w := by
 have hbs : ∃ s ∈ S, s0.heap.size ≤ s.heap.size := ⟨s0, hs0, Nat.le_refl _⟩
 obtain ⟨fa0, fa2, fa3, fa1, fa16, _⟩ := form_args h.form
 have hvl := h.vl
 obtain ⟨p0, v0, rfl, rfl, he0⟩ := h.er.one (by omega)
 unfold rI at hc
 obtain ⟨qa, rfl⟩ := h.adr (hc.item (by exact mau)) (by simp)
 have hp0 := fun w' hp => h.at_ 0 rfl rfl (B := s0.heap.size) w' hp
 have hk : p0.k = 0 := hk
 have hr : insP i.op i.n [v0] sA y.out = if y.out.length = 1000 then .trap 6 else .ok zV sA (y.out ++ [v0.n]) 0 := by
  rw [hop]
  show (if v0.k ≠ 0 then Rs.trap 5 else if y.out.length = 1000 then .trap 6 else .ok zV sA (y.out ++ [v0.n]) 0) = _
  rw [if_neg (by rw [← he0.k]; omega)]
 unfold OneS
 rw [hr]
 have hno := h.ok.no
 have hol := h.ok.ol
 have hed := h.ok.ed
 have hs0' := h.ok.s0
 have hs1' := h.ok.s1
 have hfu := h.ok.f
 have hna := h.ok.na
 have has := h.a1
 unfold RS.c at hc
 refine enter Try.func144 rfl Try.ntmps144 rfl hc (zen ?_)
 unfold inC
 apply W.sr
 apply OL.box; rfl; rfl; exact CellsL.agg; (intro bk hbk; have hbk0 := hbk.mem s0 hs0)
 apply OL.alloc; rfl; rfl; exact CellsL.agg; (intro bk hbk; have hbk0 := hbk.mem s0 hs0)
 refine zgw ?_
 rename_i b4 hb4 hb40
 revert hbk0
 revert bk
 intro b6 hb6 hb60
 by_cases ho : y.out.length = 1000
 ·rw [if_pos ho]
  refine W.cond rfl (fun _ => ?_) (fun hh => by simp at hh; omega)
  refine zgw ?_
  refine OL.callF rfl rfl (by exact Args.au) (fun w2 hw2 => rstop2 (m := y.m) 6 hed s0 hs0 hw2) ?_
  refine zgw ?_
  exact At.finC (b := b6) (cs := [.int .i64 0, .int .i64 0, .slice none 0 0]) rfl rfl (by exact mau) rfl rfl (fun w' hw' => ⟨zP, _, rfl, OneR.trap h.ok, drop2 hb6 hb4 hw'⟩)
 rw [if_neg ho]
 refine W.cond rfl (fun hh => by simp at hh; omega) (fun _ => ?_)
 refine zgw ?_
 apply W.regz; apply ZSplit.pure rfl; apply ZSplit.pure rfl; apply ZSplit.pure rfl; apply ZSplit.pure rfl; apply ZSplit.pure rfl; apply ZSplit.pure rfl; apply ZSplit.pure rfl; apply ZSplit.pure rfl; apply ZSplit.pure rfl; apply ZSplit.pure rfl; apply ZSplit.tail; apply ZSplit.tail; apply ZSplit.tail; apply ZSplit.tail; apply ZSplit.tail; apply ZSplit.tail; exact ZSplit.nil; kernel_rfl; decide +kernel; exact fun w hw => hw.drew
 refine zgw ?_
 apply OL.buildSlice; rfl; rfl; rfl; exact Elems.au; rfl; rfl; (intro bk hbk; have hbk0 := hbk.mem s0 hs0)
 apply OL.nil
 refine At.tk (fun w hw => hw.thin ?_) ?_; exact Thin.au
 refine zgw ?_
 apply OL.append; rfl; rfl; rfl; rfl; exact Hole.au; exact .head _; exact Take.au; rfl; rfl; assumption; omega; intro O1 g1 cap1
 refine zgw ?_
 rename_i hbx0
 refine At.finC (b := b6) (cs := [.int .i64 0, .int .i64 0, .slice none 0 0]) rfl rfl (by exact mau) rfl rfl (fun w' hw' => ⟨zP, { y with m := { y.m with qo := some ⟨g1, 0, none⟩, no := y.m.no + 1, co := cap1 }, out := y.out ++ [p0.n], Oo := O1 }, rfl, .inr ⟨Nat.zero_le _, ⟨?_, ?_, hna, h.ok.al, h.ok.ar, h.ok.ai, h.ok.a1, hed, hs0', hs1', hfu, h.ok.asz, h.ok.en⟩, by rw [he0.nr], ⟨rfl, rfl, rfl, rfl, rfl, rfl⟩, rfl, rN.z, fun _ hh => hh, .inl rfl⟩, ?_⟩)
 ·simp only [List.length_append, List.length_singleton, hno]
 ·simp only [List.length_append, List.length_singleton]
  omega
 ·have e : ints (y.out ++ [p0.n]) = ints y.out ++ [.int .i64 p0.n] := by simp [ints]
  unfold rI
  rw [e]
  exact drop2 hb6 hb4 (hw'.thin (.any (fun k hk => by rw [show k = bk from hk]; exact hbk) Thin.same))
theorem eff_18 (bm nf : Nat) (i : Go.Ss.In) (iy : Sc) (y : YS) (sA : List (List SV)) (vs : List PV) (svs : List SV) (q : Option Addr) (cap : Nat) (h : OneH nf i y sA vs svs q cap) (hop : i.op = 18) (hk : (vs.getD 0 zP).k = 0 ∧ (vs.getD 1 zP).k = 0) (H : List Eng.Item) (S : List World) (s0 : World) (hs0 : s0 ∈ S) (w : World)
  (hc : Cls (rI s0.heap.size bm y H) S w) : OneS 144 bm i iy y sA vs svs q cap H S s0 w := by
 have hbs : ∃ s ∈ S, s0.heap.size ≤ s.heap.size := ⟨s0, hs0, Nat.le_refl _⟩
 obtain ⟨fa0, fa2, fa3, fa1, fa16, _⟩ := form_args h.form
 have hvl := h.vl
 obtain ⟨p0, p1, v0, v1, rfl, rfl, he0, he1⟩ := h.er.two (by omega)
 unfold rI at hc
 obtain ⟨qa, rfl⟩ := h.adr (hc.item (by exact mau)) (by simp)
 have hp0 := fun w' hp => h.at_ 0 rfl rfl (B := s0.heap.size) w' hp
 have hp1 := fun w' hp => h.at_ 1 rfl rfl (B := s0.heap.size) w' hp
 have hk0 : p0.k = 0 := hk.1
 have hk1 : p1.k = 0 := hk.2
 have hr : insP i.op i.n [v0, v1] sA y.out = if p0.n < 0 ∨ p1.n ≤ p0.n then .trap 2 else .ok zV sA y.out 0 := by
  rw [hop]
  show (if allK 0 [v0, v1] = false then Rs.trap 5 else if v0.n < 0 ∨ v1.n ≤ v0.n then .trap 2 else .ok zV sA y.out 0) = _
  rw [if_neg (by simp [allK, ← he0.k, ← he1.k, hk0, hk1]), he0.nr, he1.nr]
 have hb0 := (h.wf v0 (by simp)).word (by rw [← he0.k]; exact hk0)
 have hb1 := (h.wf v1 (by simp)).word (by rw [← he1.k]; exact hk1)
 rw [← he0.nr] at hb0
 rw [← he1.nr] at hb1
 unfold OneS
 rw [hr]
 have hno := h.ok.no
 have hol := h.ok.ol
 have hed := h.ok.ed
 have hs0' := h.ok.s0
 have hs1' := h.ok.s1
 have hfu := h.ok.f
 have hna := h.ok.na
 have has := h.a1
 unfold RS.c at hc
 refine enter Try.func144 rfl Try.ntmps144 rfl hc (zen ?_)
 unfold inC
 apply W.sr
 apply OL.box; rfl; rfl; exact CellsL.agg; (intro bk hbk; have hbk0 := hbk.mem s0 hs0)
 apply OL.alloc; rfl; rfl; exact CellsL.agg; (intro bk hbk; have hbk0 := hbk.mem s0 hs0)
 refine zgw ?_
 apply W.regd0; decide +kernel; kernel_rfl; decide +kernel; exact fun w hw => hw.drew
 refine zgw ?_
 rename_i b4 hb4 hb40
 revert hbk0
 revert bk
 intro b6 hb6 hb60
 (((first | apply OL.op | apply QL.op); exact Guard.au; rfl; rfl); (exact Pev.call (v := .bool (decide (0 ≤ p0.n) && decide (p0.n ≤ p1.n - 1))) rfl (by exact Args.au) (fun _ w2 hw2 => (Within_calls p0.n 0 (p1.n - 1) w2).mono (fun e w3 h => ⟨h.1, hw2.ext h.2⟩))))
 refine zgw ?_
 by_cases ho : p0.n < 0 ∨ p1.n ≤ p0.n
 ·rw [if_pos ho]
  refine W.cond rfl (fun _ => ?_) (fun hh => by simp at hh; omega)
  refine zgw ?_
  refine OL.callF rfl rfl (by exact Args.au) (fun w2 hw2 => rstop2 (m := y.m) 2 hed s0 hs0 hw2) ?_
  refine zgw ?_
  exact At.finC (b := b6) (cs := [.int .i64 0, .int .i64 0, .slice none 0 0]) rfl rfl (by exact mau) rfl rfl (fun w' hw' => ⟨zP, _, rfl, OneR.trap h.ok, drop2 hb6 hb4 hw'⟩)
 rw [if_neg ho]
 refine W.cond rfl (fun hh => by simp at hh; omega) (fun _ => ?_)
 refine zgw ?_
 exact At.finC (b := b6) (cs := [.int .i64 0, .int .i64 0, .slice none 0 0]) rfl rfl (by exact mau) rfl rfl (fun w' hw' => ⟨zP, _, rfl, OneR.val h.ok rN.z (.inl rfl), drop2 hb6 hb4 hw'⟩)
theorem eff_21 (bm nf : Nat) (i : Go.Ss.In) (iy : Sc) (y : YS) (sA : List (List SV)) (vs : List PV) (svs : List SV) (q : Option Addr) (cap : Nat) (h : OneH nf i y sA vs svs q cap) (hop : i.op = 21) (hk : (vs.getD 0 zP).k = 1 ∧ (vs.getD 1 zP).k = 0) (H : List Eng.Item) (S : List World) (s0 : World) (hs0 : s0 ∈ S) (w : World)
  (hc : Cls (rI s0.heap.size bm y H) S w) : OneS 144 bm i iy y sA vs svs q cap H S s0 w := by
 have hbs : ∃ s ∈ S, s0.heap.size ≤ s.heap.size := ⟨s0, hs0, Nat.le_refl _⟩
 obtain ⟨fa0, fa2, fa3, fa1, fa16, _⟩ := form_args h.form
 have hvl := h.vl
 obtain ⟨p0, p1, v0, v1, rfl, rfl, he0, he1⟩ := h.er.two (by omega)
 unfold rI at hc
 obtain ⟨qa, rfl⟩ := h.adr (hc.item (by exact mau)) (by simp)
 have hp0 := fun w' hp => h.at_ 0 rfl rfl (B := s0.heap.size) w' hp
 have hp1 := fun w' hp => h.at_ 1 rfl rfl (B := s0.heap.size) w' hp
 have hk0 : p0.k = 1 := hk.1
 have hk1 : p1.k = 0 := hk.2
 have hr : insP i.op i.n [v0, v1] sA y.out = if p1.n < 0 ∨ (p0.l.length : Int) ≤ p1.n then .trap 2 else .ok (v0.l.getD p1.n.toNat zV) sA y.out 0 := by
  rw [hop]
  show (if v0.k ≠ 1 ∨ v1.k ≠ 0 then Rs.trap 5 else if v1.n < 0 ∨ (v0.l.length : Int) ≤ v1.n then .trap 2 else .ok (v0.l.getD v1.n.toNat zV) sA y.out 0) = _
  rw [if_neg (by rw [← he0.k, ← he1.k]; omega), he1.nr, he0.l.len]
 have hpl := ((h.kid (p := p0) (by simp)).ok (hc.item (show pool (pvR rF) s0.heap.size y.Op y.L ∈ _ by exact mau))).len
 have hpn := (h.wf v1 (by simp)).word (by rw [← he1.k]; exact hk1)
 rw [← he1.nr] at hpn
 unfold OneS
 rw [hr]
 have hno := h.ok.no
 have hol := h.ok.ol
 have hed := h.ok.ed
 have hs0' := h.ok.s0
 have hs1' := h.ok.s1
 have hfu := h.ok.f
 have hna := h.ok.na
 have has := h.a1
 unfold RS.c at hc
 refine enter Try.func144 rfl Try.ntmps144 rfl hc (zen ?_)
 unfold inC
 apply W.sr
 apply OL.box; rfl; rfl; exact CellsL.agg; (intro bk hbk; have hbk0 := hbk.mem s0 hs0)
 apply OL.alloc; rfl; rfl; exact CellsL.agg; (intro bk hbk; have hbk0 := hbk.mem s0 hs0)
 refine zgw ?_
 apply W.regd0; decide +kernel; kernel_rfl; decide +kernel; exact fun w hw => hw.drew
 refine zgw ?_
 rename_i b4 hb4 hb40
 revert hbk0
 revert bk
 intro b6 hb6 hb60
 (((first | apply OL.op | apply QL.op); exact Guard.au; rfl; rfl); (exact Pev.call (v := .bool (decide (0 ≤ p1.n) && decide (p1.n ≤ (p0.l.length : Int) - 1))) rfl (by exact Args.au) (fun _ w2 hw2 => (Within_calls p1.n 0 ((p0.l.length : Int) - 1) w2).mono (fun e w3 h => ⟨h.1, hw2.ext h.2⟩))))
 refine zgw ?_
 by_cases ho : p1.n < 0 ∨ (p0.l.length : Int) ≤ p1.n
 ·rw [if_pos ho]
  refine W.cond rfl (fun _ => ?_) (fun hh => by simp at hh; omega)
  refine zgw ?_
  refine OL.callF rfl rfl (by exact Args.au) (fun w2 hw2 => rstop2 (m := y.m) 2 hed s0 hs0 hw2) ?_
  refine zgw ?_
  exact At.finC (b := b6) (cs := [.int .i64 0, .int .i64 0, .slice none 0 0]) rfl rfl (by exact mau) rfl rfl (fun w' hw' => ⟨zP, _, rfl, OneR.trap h.ok, drop2 hb6 hb4 hw'⟩)
 rw [if_neg ho]
 refine W.cond rfl (fun hh => by simp at hh; omega) (fun _ => ?_)
 obtain ⟨a2, ha2⟩ := (h.kid (p := p0) (by simp)).some (hc.item (show pool (pvR rF) s0.heap.size y.Op y.L ∈ _ by exact mau)) (by omega)
 obtain ⟨c, hcc⟩ : ∃ c, p0.l[p1.n.toNat]? = some c := ⟨_, List.getElem?_eq_getElem (by omega)⟩
 have hp2 := fun w' hp => (h.kid (p := p0) (by simp)).cells (F := rF) (B := s0.heap.size) (O := y.Op) (w := w') hp ha2 hcc
 have hp0 : ∀ w', (pool (pvR rF) s0.heap.size y.Op y.L).holds w' → CellsAt w' (qa.add (0 * 3)) [.int .i64 p0.k, .int .i64 p0.n, .slice (some a2) p0.l.length p0.cap] := fun w' hp => by rw [← ha2]; exact hp0 w' hp
 refine zgw ?_
 apply W.regq; apply Split.s rfl; apply Split.s rfl; apply Split.s rfl; apply Split.s rfl; apply Split.s rfl; apply Split.s rfl; apply Split.s rfl; apply Split.s rfl; apply Split.s rfl; apply Split.s rfl; exact Split.z rfl; kernel_rfl; decide +kernel; exact fun w hw => hw.drew
 refine zgw ?_
 exact At.finC (b := b6) (cs := [.int .i64 c.k, .int .i64 c.n, .slice c.q c.l.length c.cap]) rfl rfl (by exact mau) rfl rfl (fun w' hw' => ⟨c, y, rfl, OneR.val h.ok (by rw [← getD_at hcc]; exact he0.l.getD rN.z _) (by rw [← getD_at hcc]; exact (h.kid (p := p0) (by simp)).getD _), drop2 hb6 hb4 hw'⟩)
theorem eff_17 (bm nf : Nat) (i : Go.Ss.In) (iy : Sc) (y : YS) (sA : List (List SV)) (vs : List PV) (svs : List SV) (q : Option Addr) (cap : Nat) (h : OneH nf i y sA vs svs q cap) (hop : i.op = 17) (hk : (vs.getD 0 zP).k = 3) (H : List Eng.Item) (S : List World) (s0 : World) (hs0 : s0 ∈ S) (w : World)
  (hc : Cls (rI s0.heap.size bm y H) S w) : OneS 144 bm i iy y sA vs svs q cap H S s0 w := by
 have hbs : ∃ s ∈ S, s0.heap.size ≤ s.heap.size := ⟨s0, hs0, Nat.le_refl _⟩
 obtain ⟨fa0, fa2, fa3, fa1, fa16, _⟩ := form_args h.form
 have hvl := h.vl
 obtain ⟨p0, v0, rfl, rfl, he0⟩ := h.er.one (by omega)
 unfold rI at hc
 obtain ⟨qa, rfl⟩ := h.adr (hc.item (by exact mau)) (by simp)
 have hp0 := fun w' hp => h.at_ 0 rfl rfl (B := s0.heap.size) w' hp
 have hk0 : p0.k = 3 := hk
 have hA3 : ∀ v ∈ [v0], v.k = 3 → 0 ≤ v.n ∧ v.n < (sA.length : Int) := fun v hv hk => (h.wf v hv).arr hk
 obtain ⟨a, hpn, hplt, hat, hera, hamem⟩ := h.arr hA3 (p := p0) (v := v0) (by simp) he0 hk0
 have hal := h.ok.a1 a hamem
 obtain ⟨ga, hga⟩ := row_some (hc.item (show row s0.heap.size y.Oa y.m.qa y.m.na y.m.ca 111 1 (y.A.map RA.v) ∈ _ by exact mau)) (by have := h.ok.na; omega)
 have hAv : (y.A.map RA.v)[0 + p0.n.toNat * 1]? = some (.slice a.q a.xs.length a.cap) := by
  rw [show 0 + p0.n.toNat * 1 = p0.n.toNat by omega, List.getElem?_map, hat]
  rfl
 have hr : insP i.op i.n [v0] sA y.out = .ok (wV (a.xs.length : Int)) sA y.out 0 := by
  rw [hop]
  show (if v0.k ≠ 3 then Rs.trap 5 else .ok (wV (rowA sA v0).length) sA y.out 0) = _
  rw [if_neg (by rw [← he0.k]; omega), hera.len]
 unfold OneS
 rw [hr]
 have hno := h.ok.no
 have hol := h.ok.ol
 have hed := h.ok.ed
 have hs0' := h.ok.s0
 have hs1' := h.ok.s1
 have hfu := h.ok.f
 have hna := h.ok.na
 have has := h.a1
 unfold RS.c at hc
 rw [hga] at hc
 refine enter Try.func144 rfl Try.ntmps144 rfl hc (zen ?_)
 unfold inC
 apply W.sr
 apply OL.box; rfl; rfl; exact CellsL.agg; (intro bk hbk; have hbk0 := hbk.mem s0 hs0)
 apply OL.alloc; rfl; rfl; exact CellsL.agg; (intro bk hbk; have hbk0 := hbk.mem s0 hs0)
 refine zgw ?_
 apply W.regq; apply Split.s rfl; apply Split.s rfl; apply Split.s rfl; apply Split.s rfl; apply Split.s rfl; apply Split.s rfl; apply Split.s rfl; apply Split.s rfl; apply Split.s rfl; apply Split.s rfl; apply Split.s rfl; apply Split.s rfl; exact Split.z rfl; kernel_rfl; decide +kernel; exact fun w hw => hw.drew
 refine zgw ?_
 rename_i b4 hb4 hb40
 revert hbk0
 revert bk
 intro b6 hb6 hb60
 exact At.finC (b := b6) (cs := [.int .i64 0, .int .i64 a.xs.length, .slice none 0 0]) rfl rfl (by exact mau) rfl rfl (fun w' hw' => ⟨pw a.xs.length, y, rfl, OneR.val h.ok (erwr _) (.inl rfl), (by unfold rI RS.c; rw [hga]; exact drop2 hb6 hb4 hw')⟩)
theorem eff_19 (bm nf : Nat) (i : Go.Ss.In) (iy : Sc) (y : YS) (sA : List (List SV)) (vs : List PV) (svs : List SV) (q : Option Addr) (cap : Nat) (h : OneH nf i y sA vs svs q cap) (hop : i.op = 19) (hk : (vs.getD 0 zP).k = 3 ∧ (vs.getD 1 zP).k = 0) (H : List Eng.Item) (S : List World) (s0 : World) (hs0 : s0 ∈ S) (w : World)
  (hc : Cls (rI s0.heap.size bm y H) S w) : OneS 144 bm i iy y sA vs svs q cap H S s0 w := by
 have hbs : ∃ s ∈ S, s0.heap.size ≤ s.heap.size := ⟨s0, hs0, Nat.le_refl _⟩
 obtain ⟨fa0, fa2, fa3, fa1, fa16, _⟩ := form_args h.form
 have hvl := h.vl
 obtain ⟨p0, p1, v0, v1, rfl, rfl, he0, he1⟩ := h.er.two (by omega)
 unfold rI at hc
 obtain ⟨qa, rfl⟩ := h.adr (hc.item (by exact mau)) (by simp)
 have hp0 := fun w' hp => h.at_ 0 rfl rfl (B := s0.heap.size) w' hp
 have hp1 := fun w' hp => h.at_ 1 rfl rfl (B := s0.heap.size) w' hp
 have hk0 : p0.k = 3 := hk.1
 have hk1 : p1.k = 0 := hk.2
 have hA3 : ∀ v ∈ [v0, v1], v.k = 3 → 0 ≤ v.n ∧ v.n < (sA.length : Int) := fun v hv hk => (h.wf v hv).arr hk
 obtain ⟨a, hpn, hplt, hat, hera, hamem⟩ := h.arr hA3 (p := p0) (v := v0) (by simp) he0 hk0
 have hal := h.ok.a1 a hamem
 obtain ⟨ga, hga⟩ := row_some (hc.item (show row s0.heap.size y.Oa y.m.qa y.m.na y.m.ca 111 1 (y.A.map RA.v) ∈ _ by exact mau)) (by have := h.ok.na; omega)
 have hAv : (y.A.map RA.v)[0 + p0.n.toNat * 1]? = some (.slice a.q a.xs.length a.cap) := by
  rw [show 0 + p0.n.toNat * 1 = p0.n.toNat by omega, List.getElem?_map, hat]
  rfl
 have hr : insP i.op i.n [v0, v1] sA y.out = if p1.n < 0 ∨ (a.xs.length : Int) ≤ p1.n then .trap 2 else .ok ((rowA sA v0).getD p1.n.toNat zV) sA y.out 0 := by
  rw [hop]
  show (if v0.k ≠ 3 ∨ v1.k ≠ 0 then Rs.trap 5 else if v1.n < 0 ∨ ((rowA sA v0).length : Int) ≤ v1.n then .trap 2 else .ok ((rowA sA v0).getD v1.n.toNat zV) sA y.out 0) = _
  rw [if_neg (by rw [← he0.k, ← he1.k]; omega), he1.nr, hera.len]
 have hpn1 := (h.wf v1 (by simp)).word (by rw [← he1.k]; exact hk1)
 rw [← he1.nr] at hpn1
 unfold OneS
 rw [hr]
 have hno := h.ok.no
 have hol := h.ok.ol
 have hed := h.ok.ed
 have hs0' := h.ok.s0
 have hs1' := h.ok.s1
 have hfu := h.ok.f
 have hna := h.ok.na
 have has := h.a1
 unfold RS.c at hc
 rw [hga] at hc
 refine enter Try.func144 rfl Try.ntmps144 rfl hc (zen ?_)
 unfold inC
 apply W.sr
 apply OL.box; rfl; rfl; exact CellsL.agg; (intro bk hbk; have hbk0 := hbk.mem s0 hs0)
 apply OL.alloc; rfl; rfl; exact CellsL.agg; (intro bk hbk; have hbk0 := hbk.mem s0 hs0)
 refine zgw ?_
 apply W.regd0; decide +kernel; kernel_rfl; decide +kernel; exact fun w hw => hw.drew
 refine zgw ?_
 rename_i b4 hb4 hb40
 revert hbk0
 revert bk
 intro b6 hb6 hb60
 (((first | apply OL.op | apply QL.op); exact Guard.au; rfl; rfl); (exact Pev.call (v := .bool (decide (0 ≤ p1.n) && decide (p1.n ≤ (a.xs.length : Int) - 1))) rfl (by exact Args.au) (fun _ w2 hw2 => (Within_calls p1.n 0 ((a.xs.length : Int) - 1) w2).mono (fun e w3 h => ⟨h.1, hw2.ext h.2⟩))))
 refine zgw ?_
 by_cases ho : p1.n < 0 ∨ (a.xs.length : Int) ≤ p1.n
 ·rw [if_pos ho]
  refine W.cond rfl (fun _ => ?_) (fun hh => by simp at hh; omega)
  refine zgw ?_
  refine OL.callF rfl rfl (by exact Args.au) (fun w2 hw2 => rstop2 (m := { y.m with qa := some ⟨ga, 0, none⟩ }) 2 hed s0 hs0 hw2) ?_
  refine zgw ?_
  exact At.finC (b := b6) (cs := [.int .i64 0, .int .i64 0, .slice none 0 0]) rfl rfl (by exact mau) rfl rfl (fun w' hw' => ⟨zP, _, rfl, OneR.trap h.ok, (by unfold rI RS.c; rw [hga]; exact drop2 hb6 hb4 hw')⟩)
 rw [if_neg ho]
 refine W.cond rfl (fun hh => by simp at hh; omega) (fun _ => ?_)
 obtain ⟨g, hg⟩ : ∃ g, a.q = some ⟨g, 0, none⟩ := row_some (ra_cell hat hc (by exact mau)) (by omega)
 rw [hg]
 obtain ⟨c, hcc⟩ : ∃ c, a.xs[p1.n.toNat]? = some c := ⟨_, List.getElem?_eq_getElem (by omega)⟩
 have hp2 : ∀ w', (bag s0.heap.size (y.A.map (raI s0.heap.size))).holds w' → CellsAt w' ⟨g, 0 + p1.n.toNat * 3, none⟩ (rC c) := fun w' hb j v hj => by
  have h1 := (hb.1 _ (List.mem_map.2 ⟨a, hamem, rfl⟩)).1
  unfold raI at h1
  rw [hg] at h1
  rw [add_mid, Nat.zero_add]
  exact row_cell h1 (cat_get (f := rC) (fun p => rfl) hcc j v hj)
 refine zgw ?_
 refine W.cond rfl (fun _ => ?_) (fun hh => by simp at hh; omega)
 refine zgw ?_
 exact At.finC (b := b6) (cs := [.int .i64 c.k, .int .i64 c.n, .slice c.q c.l.length c.cap]) rfl rfl (by exact mau) rfl rfl (fun w' hw' => ⟨c, y, rfl, OneR.val h.ok (by rw [← getD_at hcc]; exact hera.getD rN.z _) (h.ok.ai a hamem c (List.mem_of_getElem? hcc)), (by unfold rI RS.c; rw [hga]; exact drop2 hb6 hb4 hw')⟩)
theorem eff_20 (bm nf : Nat) (i : Go.Ss.In) (iy : Sc) (y : YS) (sA : List (List SV)) (vs : List PV) (svs : List SV) (q : Option Addr) (cap : Nat) (h : OneH nf i y sA vs svs q cap) (hop : i.op = 20) (hk : (vs.getD 0 zP).k = 3 ∧ (vs.getD 1 zP).k = 0) (H : List Eng.Item) (S : List World) (s0 : World) (hs0 : s0 ∈ S) (w : World)
  (hc : Cls (rI s0.heap.size bm y H) S w) : OneS 144 bm i iy y sA vs svs q cap H S s0 w := by
 have hbs : ∃ s ∈ S, s0.heap.size ≤ s.heap.size := ⟨s0, hs0, Nat.le_refl _⟩
 obtain ⟨fa0, fa2, fa3, fa1, fa16, _⟩ := form_args h.form
 have hvl := h.vl
 obtain ⟨p0, p1, p2, v0, v1, v2, rfl, rfl, he0, he1, he2⟩ := h.er.three (by omega)
 unfold rI at hc
 obtain ⟨qa, rfl⟩ := h.adr (hc.item (by exact mau)) (by simp)
 have hp0 := fun w' hp => h.at_ 0 rfl rfl (B := s0.heap.size) w' hp
 have hp1 := fun w' hp => h.at_ 1 rfl rfl (B := s0.heap.size) w' hp
 have hp2 := fun w' hp => h.at_ 2 rfl rfl (B := s0.heap.size) w' hp
 have hk0 : p0.k = 3 := hk.1
 have hk1 : p1.k = 0 := hk.2
 have hA3 : ∀ v ∈ [v0, v1, v2], v.k = 3 → 0 ≤ v.n ∧ v.n < (sA.length : Int) := fun v hv hk => (h.wf v hv).arr hk
 obtain ⟨a, hpn, hplt, hat, hera, hamem⟩ := h.arr hA3 (p := p0) (v := v0) (by simp) he0 hk0
 have hal := h.ok.a1 a hamem
 obtain ⟨ga, hga⟩ := row_some (hc.item (show row s0.heap.size y.Oa y.m.qa y.m.na y.m.ca 111 1 (y.A.map RA.v) ∈ _ by exact mau)) (by have := h.ok.na; omega)
 have hAv : (y.A.map RA.v)[0 + p0.n.toNat * 1]? = some (.slice a.q a.xs.length a.cap) := by
  rw [show 0 + p0.n.toNat * 1 = p0.n.toNat by omega, List.getElem?_map, hat]
  rfl
 have hr : insP i.op i.n [v0, v1, v2] sA y.out = if p1.n < 0 ∨ (a.xs.length : Int) ≤ p1.n then .trap 2 else .ok zV (sA.set p0.n.toNat ((rowA sA v0).set p1.n.toNat v2)) y.out 0 := by
  rw [hop]
  show (if v0.k ≠ 3 ∨ v1.k ≠ 0 then Rs.trap 5 else if v1.n < 0 ∨ ((rowA sA v0).length : Int) ≤ v1.n then .trap 2 else .ok zV (sA.set v0.n.toNat ((rowA sA v0).set v1.n.toNat v2)) y.out 0) = _
  rw [if_neg (by rw [← he0.k, ← he1.k]; omega), he1.nr, hera.len, he0.nr]
 have hpn1 := (h.wf v1 (by simp)).word (by rw [← he1.k]; exact hk1)
 rw [← he1.nr] at hpn1
 unfold OneS
 rw [hr]
 have hno := h.ok.no
 have hol := h.ok.ol
 have hed := h.ok.ed
 have hs0' := h.ok.s0
 have hs1' := h.ok.s1
 have hfu := h.ok.f
 have hna := h.ok.na
 have has := h.a1
 unfold RS.c at hc
 rw [hga] at hc
 refine enter Try.func144 rfl Try.ntmps144 rfl hc (zen ?_)
 unfold inC
 apply W.sr
 apply OL.box; rfl; rfl; exact CellsL.agg; (intro bk hbk; have hbk0 := hbk.mem s0 hs0)
 apply OL.alloc; rfl; rfl; exact CellsL.agg; (intro bk hbk; have hbk0 := hbk.mem s0 hs0)
 refine zgw ?_
 apply W.regd0; decide +kernel; kernel_rfl; decide +kernel; exact fun w hw => hw.drew
 refine zgw ?_
 rename_i b4 hb4 hb40
 revert hbk0
 revert bk
 intro b6 hb6 hb60
 (((first | apply OL.op | apply QL.op); exact Guard.au; rfl; rfl); (exact Pev.call (v := .bool (decide (0 ≤ p1.n) && decide (p1.n ≤ (a.xs.length : Int) - 1))) rfl (by exact Args.au) (fun _ w2 hw2 => (Within_calls p1.n 0 ((a.xs.length : Int) - 1) w2).mono (fun e w3 h => ⟨h.1, hw2.ext h.2⟩))))
 refine zgw ?_
 by_cases ho : p1.n < 0 ∨ (a.xs.length : Int) ≤ p1.n
 ·rw [if_pos ho]
  refine W.cond rfl (fun _ => ?_) (fun hh => by simp at hh; omega)
  refine zgw ?_
  refine OL.callF rfl rfl (by exact Args.au) (fun w2 hw2 => rstop2 (m := { y.m with qa := some ⟨ga, 0, none⟩ }) 2 hed s0 hs0 hw2) ?_
  refine zgw ?_
  exact At.finC (b := b6) (cs := [.int .i64 0, .int .i64 0, .slice none 0 0]) rfl rfl (by exact mau) rfl rfl (fun w' hw' => ⟨zP, _, rfl, OneR.trap h.ok, (by unfold rI RS.c; rw [hga]; exact drop2 hb6 hb4 hw')⟩)
 rw [if_neg ho]
 refine W.cond rfl (fun hh => by simp at hh; omega) (fun _ => ?_)
 obtain ⟨g, hg⟩ : ∃ g, a.q = some ⟨g, 0, none⟩ := row_some (ra_cell hat hc (by exact mau)) (by omega)
 rw [hg]
 refine zgw ?_
 refine W.cond rfl (fun hh => by simp at hh; omega) (fun _ => ?_)
 refine zgw ?_
 apply W.regq; apply Split.s rfl; apply Split.s rfl; apply Split.s rfl; apply Split.s rfl; apply Split.s rfl; apply Split.s rfl; apply Split.s rfl; apply Split.s rfl; apply Split.s rfl; exact Split.z rfl; kernel_rfl; decide +kernel; exact fun w hw => hw.drew
 refine zgw ?_
 refine OL.cls (fun w' hw' => by
  have h1 := ra_out hat (bag_up hw')
  unfold raI at h1
  rw [hg] at h1
  exact h1) ?_
 (refine OL.storeRA rfl rfl CellsL.agg rfl rfl rfl Hole.au ?_ ?_)
 ·show 0 + p1.n.toNat * 3 + 3 ≤ _
  rw [cat_length (sz := 3) (f := rC) (fun p => rfl)]
  omega
 refine zgw ?_
 refine At.finC (b := b6) (cs := [.int .i64 0, .int .i64 0, .slice none 0 0]) rfl rfl (by exact mau) rfl rfl (fun w' hw' => ⟨zP, { y with A := y.A.set p0.n.toNat { a with xs := a.xs.set p1.n.toNat p2 } }, rfl, .inr ⟨Nat.zero_le _, ⟨h.ok.no, h.ok.ol, ?_, ?_, ?_, ?_, ?_, hed, hs0', hs1', hfu, ?_, h.ok.en⟩, rfl, RSame.refl _, rfl, rN.z, fun _ hh => hh, .inl rfl⟩, ?_⟩)
 ·rw [List.length_set]; exact hna
 ·rw [List.length_set, List.length_set]; exact h.ok.al
 ·intro j b hb
  rw [List.getElem?_set] at hb ⊢
  split at hb
  ·rename_i e
   rw [if_pos e, if_pos (by have := h.ok.al; omega)]
   obtain rfl := Option.some.inj hb
   exact ⟨_, rfl, hera.set he2⟩
  ·rename_i e
   rw [if_neg e]
   exact h.ok.ar j b hb
 ·intro b hb p hp
  rcases List.mem_or_eq_of_mem_set hb with hb | rfl
  ·exact h.ok.ai b hb p hp
  ·rcases List.mem_or_eq_of_mem_set hp with hp | rfl
   ·exact h.ok.ai a hamem p hp
   ·exact h.kid (by simp)
 ·intro b hb
  rcases List.mem_or_eq_of_mem_set hb with hb | rfl
  ·exact h.ok.a1 b hb
  ·rw [List.length_set]; exact hal
 ·rw [List.length_set]; exact h.ok.asz
 ·have e1 := cat_set (f := rC) (sz := 3) (fun p => rfl) (by decide) (l := a.xs) (i := p1.n.toNat) (x := p2) (by omega)
  have e2 : (Cls (raI s0.heap.size { a with xs := a.xs.set p1.n.toNat p2 } :: bag s0.heap.size ((y.A.eraseIdx p0.n.toNat).map (raI s0.heap.size)) :: blk b6 113 [.int .i64 0, .int .i64 0, .slice none 0 0] :: blk b4 85 (inC i iy) :: blk bm 110 { y.m with qa := some ⟨ga, 0, none⟩ }.c :: row s0.heap.size y.Oo y.m.qo y.m.no y.m.co 3 1 (ints y.out) :: row s0.heap.size y.Oa (some ⟨ga, 0, none⟩) y.m.na y.m.ca 111 1 (y.A.map RA.v) :: pool (pvR rF) s0.heap.size y.Op y.L :: H) S w') := by
   unfold raI
   simp only [List.length_set]
   rw [hg, ← e1, show p1.n.toNat * 3 = 0 + p1.n.toNat * 3 by omega]
   exact hw'
  have e3 := bag_dn (ra_in hplt e2)
  unfold rI
  rw [map_same hat]
  have e4 := drop2 hb6 hb4 e3
  rw [← hga] at e4
  exact e4
theorem eff_16 (bm nf : Nat) (i : Go.Ss.In) (iy : Sc) (y : YS) (sA : List (List SV)) (vs : List PV) (svs : List SV) (q : Option Addr) (cap : Nat) (h : OneH nf i y sA vs svs q cap) (hop : i.op = 16) (hk : (vs.getD 0 zP).k = 0) (H : List Eng.Item) (S : List World) (s0 : World) (hs0 : s0 ∈ S) (w : World)
  (hc : Cls (rI s0.heap.size bm y H) S w) : OneS 144 bm i iy y sA vs svs q cap H S s0 w := by
 have hbs : ∃ s ∈ S, s0.heap.size ≤ s.heap.size := ⟨s0, hs0, Nat.le_refl _⟩
 obtain ⟨fa0, fa2, fa3, fa1, fa16, _⟩ := form_args h.form
 have hvl := h.vl
 obtain ⟨p0, p1, v0, v1, rfl, rfl, he0, he1⟩ := h.er.two (by omega)
 unfold rI at hc
 obtain ⟨qa, rfl⟩ := h.adr (hc.item (by exact mau)) (by simp)
 have hp0 := fun w' hp => h.at_ 0 rfl rfl (B := s0.heap.size) w' hp
 have hp1 := fun w' hp => h.at_ 1 rfl rfl (B := s0.heap.size) w' hp
 have hk : p0.k = 0 := hk
 have hr : insP i.op i.n [v0, v1] sA y.out = if p0.n < 0 ∨ 1024 < p0.n then .trap 6 else .ok (.mk 3 sA.length []) (sA ++ [List.replicate p0.n.toNat v1]) y.out p0.n.toNat := by
  rw [hop]
  show (if v0.k ≠ 0 then Rs.trap 5 else if v0.n < 0 ∨ 1024 < v0.n then .trap 6 else .ok (.mk 3 sA.length []) (sA ++ [List.replicate v0.n.toNat v1]) y.out v0.n.toNat) = _
  rw [if_neg (by rw [← he0.k]; omega), he0.nr]
 unfold OneS
 rw [hr]
 have hno := h.ok.no
 have hol := h.ok.ol
 have hed := h.ok.ed
 have hs0' := h.ok.s0
 have hs1' := h.ok.s1
 have hfu := h.ok.f
 have hna := h.ok.na
 have has := h.a1
 unfold RS.c at hc
 refine enter Try.func144 rfl Try.ntmps144 rfl hc (zen ?_)
 unfold inC
 apply W.sr
 apply OL.box; rfl; rfl; exact CellsL.agg; (intro bk hbk; have hbk0 := hbk.mem s0 hs0)
 apply OL.alloc; rfl; rfl; exact CellsL.agg; (intro bk hbk; have hbk0 := hbk.mem s0 hs0)
 refine zgw ?_
 rename_i b4 hb4 hb40
 revert hbk0
 revert bk
 intro b6 hb6 hb60
 (((first | apply OL.op | apply QL.op); exact Guard.au; rfl; rfl); (exact Pev.call (v := .bool (decide (0 ≤ p0.n) && decide (p0.n ≤ 1024))) rfl (by exact Args.au) (fun _ w2 hw2 => (Within_calls p0.n 0 1024 w2).mono (fun e w3 h => ⟨h.1, hw2.ext h.2⟩))))
 refine zgw ?_
 by_cases ho : p0.n < 0 ∨ 1024 < p0.n
 ·rw [if_pos ho]
  refine W.cond rfl (fun _ => ?_) (fun hh => by simp at hh; omega)
  refine zgw ?_
  refine OL.callF rfl rfl (by exact Args.au) (fun w2 hw2 => rstop2 (m := y.m) 6 hed s0 hs0 hw2) ?_
  refine zgw ?_
  exact At.finC (b := b6) (cs := [.int .i64 0, .int .i64 0, .slice none 0 0]) rfl rfl (by exact mau) rfl rfl (fun w' hw' => ⟨zP, _, rfl, OneR.trap h.ok, drop2 hb6 hb4 hw'⟩)
 rw [if_neg ho]
 refine W.cond rfl (fun hh => by simp at hh; omega) (fun _ => ?_)
 refine zgw ?_
 by_cases hfit : y.m.steps + p0.n ≤ y.m.fuel
 rotate_left
 ·refine OL.callF rfl rfl (by exact Args.au) (fun w2 hw2 => rspend2 (m := y.m) p0.n false true (decide_eq_false hfit) rfl hed ⟨hs0', by omega⟩ (by omega) s0 hs0 hw2) ?_
  refine zgw ?_
  refine At.finC (b := b6) (cs := [.int .i64 0, .int .i64 0, .slice none 0 0]) rfl rfl (by exact mau) rfl rfl (fun w' hw' => ⟨zP, { y with m := { y.m with steps := y.m.steps + p0.n, ed := true } }, rfl, .inl ⟨?_, ⟨rfl, ?_⟩, ⟨rfl, rfl, rfl, rfl, rfl, rfl⟩⟩, drop2 hb6 hb4 hw'⟩)
  ·show (y.m.fuel - y.m.steps).toNat < p0.n.toNat
   omega
  ·show y.m.fuel < y.m.steps + p0.n
   omega
 refine OL.callF rfl rfl (by exact Args.au) (fun w2 hw2 => rspend2 (m := y.m) p0.n true false (decide_eq_true hfit) rfl hed ⟨hs0', by omega⟩ (by omega) s0 hs0 hw2) ?_
 refine zgw ?_
 refine W.cls (fun w' hw' => hw'.row_nil s0.heap.size 113 3) ?_
 refine W.loop (G := Nat × (Nat → Prop) × Option Addr × Nat) (fun g => g.1 ≤ p0.n.toNat) (fun g => p0.n.toNat - g.1)
  (fun g => [(0, true, .pointer (some ⟨bm, 0, none⟩)), (2, true, .slice (some qa) [p0, p1].length cap), (6, true, .pointer (some ⟨b6, 0, none⟩)), (7, true, .slice g.2.2.1 g.1 g.2.2.2), (59, true, .int .i64 p0.n), (60, true, .int .i64 (g.1 : Int))])
  (fun g => Cls (row s0.heap.size g.2.1 g.2.2.1 g.1 g.2.2.2 113 3 (cat rC (List.replicate g.1 p1)) :: blk b6 113 [.int .i64 0, .int .i64 0, .slice none 0 0] :: blk b4 85 [.int .i64 i.to_, .int .i64 i.op, .int .i64 i.n, .slice iy.1 i.args.length iy.2] :: blk bm 110 [.slice y.m.qF y.m.nF y.m.cF, .int .i64 y.m.main, .slice y.m.qa y.m.na y.m.ca, .int .i64 (y.m.steps + p0.n), .int .i64 y.m.fuel, .slice y.m.qo y.m.no y.m.co, .int .i64 y.m.en, .int .i64 y.m.va, .bool false] :: row s0.heap.size y.Oo y.m.qo y.m.no y.m.co 3 1 (ints y.out) :: row s0.heap.size y.Oa y.m.qa y.m.na y.m.ca 111 1 (y.A.map RA.v) :: pool (pvR rF) s0.heap.size y.Op y.L :: bag s0.heap.size (y.A.map (raI s0.heap.size)) :: H) S) (0, fun _ => False, none, 0) (Nat.zero_le _) (by exact Sub.au) (fun w' hw' => hw') ?_
 rintro ⟨j, O, q, cp⟩ hj
 simp only at hj ⊢
 refine zgw ?_
 refine W.cnd ?_ ?_ <;> intro hlt <;> try exact zwx hlt
 ·refine zgw ?_
  apply OL.buildSlice; rfl; rfl; rfl; exact Elems.au; rfl; rfl; (intro bk hbk; have hbk0 := hbk.mem s0 hs0)
  apply OL.append; rfl; rfl; rfl; rfl; exact Hole.au; exact .head _; exact Take.au; rfl; rfl; assumption; omega; intro O1 g1 cap1
  refine zgw ?_
  exact At.again (j + 1, O1, some ⟨g1, 0, none⟩, cap1) (by simp only; omega) (by simp only; omega) (by exact Sub.au) (fun w' hw' => by
   simp only
   rw [List.replicate_succ', cat_append, cat_one]
   exact hw'.thin (.any (fun k hk => by rw [show k = bk from hk]; exact hbk) Thin.same))
 obtain rfl : j = p0.n.toNat := by omega
 refine zgw ?_
 apply OL.buildSlice; rfl; rfl; rfl; exact Elems.au; rfl; rfl; (intro bk hbk; have hbk0 := hbk.mem s0 hs0)
 apply OL.append; rfl; rfl; rfl; rfl; exact Hole.au; exact .head _; exact Take.au; rfl; rfl; assumption; omega; intro O1 g1 cap1
 refine zgw ?_
 refine At.finC (b := b6) (cs := [.int .i64 3, .int .i64 (((y.m.na + 1 : Nat) : Int) - 1), .slice none 0 0]) rfl rfl (by exact mau) rfl rfl (fun w' hw' => ⟨.mk 3 (((y.m.na + 1 : Nat) : Int) - 1) none 0 0 [], { y with m := { y.m with steps := y.m.steps + p0.n, qa := some ⟨g1, 0, none⟩, na := y.m.na + 1, ca := cap1, ed := false }, Oa := O1, A := y.A ++ [⟨O, q, cp, List.replicate p0.n.toNat p1⟩] }, rfl, .inr ⟨?_, ⟨hno, hol, ?_, ?_, ?_, ?_, ?_, rfl, ?_, hfit, hfu, ?_, h.ok.en⟩, rfl, ⟨rfl, rfl, rfl, rfl, rfl, rfl⟩, ?_, Er.of ?_ Ers.nil, fun _ hh => hh, .inl rfl⟩, ?_⟩)
 ·show p0.n.toNat ≤ (y.m.fuel - y.m.steps).toNat
  omega
 ·simp only [List.length_append, List.length_singleton, hna]
 ·simp only [List.length_append, List.length_singleton, h.ok.al]
 ·intro k b hb
  have hal := h.ok.al
  rw [List.getElem?_append] at hb ⊢
  by_cases hk2 : k < y.A.length
  ·rw [if_pos hk2] at hb
   rw [if_pos (by omega)]
   exact h.ok.ar k b hb
  ·rw [if_neg hk2] at hb
   rw [if_neg (by omega), ← hal]
   cases hk3 : k - y.A.length with
   | zero =>
    rw [hk3] at hb
    obtain rfl := Option.some.inj hb
    exact ⟨_, rfl, Ers.replicate he1 _⟩
   | succ m => rw [hk3] at hb; cases hb
 ·intro b hb p hp
  rcases List.mem_append.1 hb with hb | hb
  ·exact h.ok.ai b hb p hp
  ·obtain rfl := List.mem_singleton.1 hb
   rw [List.eq_of_mem_replicate hp]
   exact h.kid (by simp)
 ·intro b hb
  rcases List.mem_append.1 hb with hb | hb
  ·exact h.ok.a1 b hb
  ·obtain rfl := List.mem_singleton.1 hb
   rw [List.length_replicate]
   omega
 ·show 0 ≤ y.m.steps + p0.n
  omega
 ·show ((y.A ++ [_]).length : Int) ≤ y.m.steps + p0.n
  simp only [List.length_append, List.length_singleton]
  omega
 ·show (y.m.fuel - (y.m.steps + p0.n)).toNat = (y.m.fuel - y.m.steps).toNat - p0.n.toNat
  omega
 ·show (((y.m.na + 1 : Nat) : Int) - 1) = sA.length
  have := h.ok.al
  omega
 ·have h1 := hw'.thin (.any (fun k hk => by rw [show k = bk from hk]; exact hbk) Thin.same)
  have e1 : raI s0.heap.size ⟨O, q, cp, List.replicate p0.n.toNat p1⟩ = row s0.heap.size O q p0.n.toNat cp 113 3 (cat rC (List.replicate p0.n.toNat p1)) := by
   unfold raI
   rw [List.length_replicate]
  have e2 : (y.A ++ [(⟨O, q, cp, List.replicate p0.n.toNat p1⟩ : RA)]).map RA.v = y.A.map RA.v ++ [.slice q p0.n.toNat cp] := by
   rw [List.map_append]
   simp only [List.map_cons, List.map_nil, RA.v, List.length_replicate]
  rw [← e1] at h1
  have h2 := bag_dn (ra_new (h1.perm (.cons _ (List.perm_middle (l₁ := [_, _, _, _, _, _]) (l₂ := H)))))
  unfold rI
  rw [e2]
  exact drop2 hb6 hb4 h2
end Go.Proofs.Ytehelljmaiophaa.ss

/- The walk of the reference's one, at instructions that are no calls. Conditions: none. -/
namespace Go.Ss
open Go.Eng Go.RowKit
theorem and_ff {p q : Prop} [Decidable p] [Decidable q] (h : (decide p && decide q) = false) : ¬ p ∨ ¬ q := (Bool.and_eq_false_iff.1 h).imp of_decide_eq_false of_decide_eq_false
theorem Ers.getK {vs : List PV} {svs : List SV} (h : Ers rN vs svs) (j : Nat) : Er rN (vs.getD j zP) (svs.getD j zV) := h.getD rN.z j
end Go.Ss
namespace Go.Proofs.Ytehelljmaiophaa.ss
set_option maxRecDepth 100000
open Go.Eng Go.RowKit Go.Ss
theorem kind_bad {fs : List Go.Ss.Fn} {i : Go.Ss.In} {vs : List PV} {svs : List SV} {sA : List (List SV)} {out : List Int} (hform : formE i = 0) (hvl : vs.length = i.args.length) (h : Ers rN vs svs) (hk : kindP fs i vs = false) (h13 : i.op ≠ 13) (h14 : i.op ≠ 14) : insP i.op i.n svs sA out = .trap 5 := by
 obtain ⟨fa0, fa2, fa3, fa1, fa16, fa24⟩ := form_args hform
 have h0 := h.getK 0
 have h1 := h.getK 1
 have hall := ErsR.allK (k := 0) h
 have hl := h.len
 unfold kindP at hk
 unfold insP
 have e2 : vs.length = 2 → ∀ k, allK k svs = (decide ((svs.getD 0 zV).k = k) && decide ((svs.getD 1 zV).k = k)) := fun e k => by
  rw [hl] at e
  obtain ⟨a, b, rfl⟩ := two_of e
  show (decide (a.k = k) && (decide (b.k = k) && true)) = _
  rw [Bool.and_true]
  rfl
 rw [h0.k, h1.k, h0.l.len, h1.l.len, hall] at hk
 generalize svs.getD 0 zV = a0 at *
 generalize svs.getD 1 zV = a1 at *
 generalize svs.getD 2 zV = a2 at *
 unfold kindT at hk
 unfold insQ
 by_cases c1 : (1 ≤ i.op ∧ i.op ≤ 7) ∨ i.op = 18
 ·rw [if_pos c1] at hk
  have h3 := e2 (by omega) 0
  rw [hk] at h3
  rcases c1 with c1 | c1
  ·rw [if_neg (by omega), if_pos c1, if_pos h3]
  ·rw [c1]
   rw [if_neg (by decide), if_neg (by decide), if_neg (by decide), if_neg (by decide), if_neg (by decide), if_neg (by decide), if_neg (by decide), if_neg (by decide), if_neg (by decide), if_neg (by decide), if_pos rfl, if_pos h3]
 rw [if_neg c1] at hk
 by_cases c2 : i.op = 15 ∨ i.op = 16
 ·rw [if_pos c2] at hk
  have hk := of_decide_eq_false hk
  rcases c2 with c2 | c2 <;> rw [c2]
  ·show (if a0.k ≠ 0 then Rs.trap 5 else _) = _
   rw [if_pos hk]
  ·show (if a0.k ≠ 0 then Rs.trap 5 else _) = _
   rw [if_pos hk]
 rw [if_neg c2] at hk
 by_cases c3 : i.op = 10 ∨ i.op = 12
 ·rw [if_pos c3] at hk
  have hk := of_decide_eq_false hk
  rcases c3 with c3 | c3 <;> rw [c3]
  ·show (if a0.k = 1 then _ else Rs.trap 5) = _
   rw [if_neg hk]
  ·show (if a0.k = 1 then _ else Rs.trap 5) = _
   rw [if_neg hk]
 rw [if_neg c3] at hk
 by_cases c4 : i.op = 21
 ·rw [if_pos c4] at hk
  rw [c4]
  show (if a0.k ≠ 1 ∨ a1.k ≠ 0 then Rs.trap 5 else _) = _
  rw [if_pos (and_ff hk)]
 rw [if_neg c4] at hk
 by_cases c5 : i.op = 11
 ·rw [if_pos c5] at hk
  rw [c5]
  show (if (a0.k = 1 ∨ a0.k = 2) ∧ i.n < (a0.l.length : Int) then _ else Rs.trap 5) = _
  rw [if_neg (by rintro ⟨x1, x2⟩; rw [decide_eq_true x2] at hk; simp at hk; omega)]
 rw [if_neg c5] at hk
 by_cases c6 : i.op = 17
 ·rw [if_pos c6] at hk
  rw [c6]
  show (if a0.k ≠ 3 then Rs.trap 5 else _) = _
  rw [if_pos (of_decide_eq_false hk)]
 rw [if_neg c6] at hk
 by_cases c7 : i.op = 19 ∨ i.op = 20
 ·rw [if_pos c7] at hk
  have hk : a0.k ≠ 3 ∨ a1.k ≠ 0 := and_ff hk
  rcases c7 with c7 | c7 <;> rw [c7]
  ·show (if a0.k ≠ 3 ∨ a1.k ≠ 0 then Rs.trap 5 else _) = _
   rw [if_pos hk]
  ·show (if a0.k ≠ 3 ∨ a1.k ≠ 0 then Rs.trap 5 else _) = _
   rw [if_pos hk]
 rw [if_neg c7] at hk
 by_cases c8 : i.op = 22
 ·rw [if_pos c8] at hk
  rw [c8]
  show (if allK 0 svs = false then Rs.trap 5 else _) = _
  rw [if_pos hk]
 rw [if_neg c8] at hk
 by_cases c9 : i.op = 23
 ·rw [if_pos c9] at hk
  rw [c9]
  show (if allK 4 svs = false ∨ a0.l.length ≠ a1.l.length then Rs.trap 5 else _) = _
  rw [if_pos]
  rw [← e2 (by omega) 4] at hk
  cases h4 : allK 4 svs with
  | false => exact .inl rfl
  | true =>
   rw [h4, Bool.true_and] at hk
   have := of_decide_eq_false hk
   exact .inr (by omega)
 rw [if_neg c9] at hk
 by_cases c10 : i.op = 24
 ·rw [if_pos c10] at hk
  rw [c10]
  show (if a0.k ≠ 4 ∨ (a0.l.length : Int) ≤ i.n then Rs.trap 5 else _) = _
  rw [if_pos]
  by_cases x : a0.k = 4
  ·rw [decide_eq_true x, Bool.true_and] at hk
   have := of_decide_eq_false hk
   exact .inr (by omega)
  ·exact .inl x
 rw [if_neg c10, if_neg h14] at hk
 cases hk
structure OneG (fns : List (Go.Ss.Fn × FnY)) (bm : Nat) (y : YS) (H : List Eng.Item) (s0 : World) : Prop where
 hu : Arr fnR s0 (low s0) fns y.m.qF
 nF : y.m.nF = fns.length
 hU : UOk (fns.map Prod.fst)
 bm : s0.heap.size ≤ bm
 no : ∀ k, k < s0.heap.size → NotOwned H k
theorem OneG.rI {fns : List (Go.Ss.Fn × FnY)} {bm : Nat} {y : YS} {H : List Eng.Item} {s0 : World} (g : OneG fns bm y H s0) (k : Nat) (hk : k < s0.heap.size) : NotOwned (rI s0.heap.size bm y H) k :=
 NotOwned.blk (by have := g.bm; omega) (NotOwned.row hk (NotOwned.row hk (NotOwned.pool hk (NotOwned.bag hk (g.no k hk)))))
theorem OneG.no2 {fns : List (Go.Ss.Fn × FnY)} {bm b c : Nat} {t u : TypeId} {x z : List Value} {y : YS} {H : List Eng.Item} {s0 : World} (g : OneG fns bm y H s0) (hb : s0.heap.size ≤ b) (hc : s0.heap.size ≤ c) (k : Nat) (hk : k < s0.heap.size) : NotOwned (blk b t x :: blk c u z :: Go.Proofs.Ytehelljmaiophaa.ss.rI s0.heap.size bm y H) k :=
 NotOwned.blk (by omega) (NotOwned.blk (by omega) (g.rI k hk))
theorem one_clo {fns : List (Go.Ss.Fn × FnY)} {i : Go.Ss.In} {y : YS} {sA : List (List SV)} {vs : List PV} {svs : List SV} {q : Option Addr} {cap : Nat} (h : OneH fns.length i y sA vs svs q cap) (hU : UOk (fns.map Prod.fst)) (hp : 0 < vs.length) (hk : (vs.getD 0 zP).k = 2) : 0 ≤ (vs.getD 0 zP).n ∧ (vs.getD 0 zP).n.toNat < fns.length ∧ 0 < (fnB (fns.map Prod.fst) (vs.getD 0 zP).n.toNat).length := by
 have he := h.er.getK 0
 have hl := h.er.len
 have hw := (WfV.getD h.wf 0).clos (by rw [← he.k]; exact hk)
 rw [he.nr]
 refine ⟨hw.1, by omega, (hU.shape (by rw [List.length_map]; omega)).2⟩
theorem one_bad (bm : Nat) (fns : List (Go.Ss.Fn × FnY)) (i : Go.Ss.In) (iy : Sc) (y : YS) (sA : List (List SV)) (vs : List PV) (svs : List SV) (q : Option Addr) (cap : Nat) (h : OneH fns.length i y sA vs svs q cap) (hz : kindP (fns.map Prod.fst) i vs = false) (h13 : i.op ≠ 13) (h14 : i.op ≠ 14) (H : List Eng.Item) (S : List World) (s0 : World) (g : OneG fns bm y H s0) (hs0 : s0 ∈ S) (w : World)
  (hc : Cls (rI s0.heap.size bm y H) S w) : OneS 112 bm i iy y sA vs svs q cap H S s0 w := by
 have hbs : ∃ s ∈ S, s0.heap.size ≤ s.heap.size := ⟨s0, hs0, Nat.le_refl _⟩
 obtain ⟨fa0, fa2, fa3, fa1, fa16, _⟩ := form_args h.form
 have hvl := h.vl
 have hno := g.no
 have hbm := g.bm
 unfold rI at hc
 have hpos : i.op = 14 → 0 < vs.length := fun e => by
  have := (form_zero h.form).choose_spec.2.2.1 e
  omega
 unfold OneS
 rw [kind_bad h.form h.vl h.er hz h13 h14]
 refine enter Try.func112 rfl Try.ntmps112 rfl hc (zen ?_)
 unfold inC
 apply W.sr
 apply OL.box; rfl; rfl; exact CellsL.agg; (intro bk hbk; have hbk0 := hbk.mem s0 hs0)
 apply OL.alloc; rfl; rfl; exact CellsL.agg; (intro bk hbk; have hbk0 := hbk.mem s0 hs0)
 refine zgw ?_
 rename_i b4 hb4 hb40
 revert hbk0
 revert bk
 intro b6 hb6 hb60
 (((first | apply OL.op | apply QL.op); exact Guard.au; rfl; rfl); (exact Pev.call (v := .bool false) rfl (by exact Args.au) (fun _ w2 hw2 => (kinds_calls fns bm y.m i iy h.form _ _ cap h.vl w2 (h.inq.arr hw2 (by exact mau)) (fun j v hj => by rw [add_mid, blk_cell (hw2.item (show blk bm 110 y.m.c ∈ _ from by exact mau)), Nat.zero_add]; exact hj) (hw2.lt (blk bm 110 y.m.c) (by exact mau) _ rfl) (g.hu.at hw2 hs0 (g.no2 hb60 hb40)) g.nF (fun h14 hk => one_clo h g.hU (hpos h14) hk)).mono (fun e w3 hh => ⟨by rw [hh.1, hz], hw2.ext hh.2⟩))))
 refine zgw ?_
 refine OL.callF rfl rfl (by exact Args.au) (fun w2 hw2 => rstop2 (m := y.m) 5 h.ok.ed s0 hs0 hw2) ?_
 refine zgw ?_
 exact At.finC (b := b6) (cs := [.int .i64 0, .int .i64 0, .slice none 0 0]) rfl rfl (by exact mau) rfl rfl (fun w' hw' => ⟨zP, _, rfl, OneR.trap h.ok, drop2 hb6 hb4 hw'⟩)
theorem one_0 (bm : Nat) (fns : List (Go.Ss.Fn × FnY)) (i : Go.Ss.In) (iy : Sc) (y : YS) (sA : List (List SV)) (vs : List PV) (svs : List SV) (q : Option Addr) (cap : Nat) (h : OneH fns.length i y sA vs svs q cap) (hop : i.op = 0) (hz : kindP (fns.map Prod.fst) i vs = true) (H : List Eng.Item) (S : List World) (s0 : World) (g : OneG fns bm y H s0) (hs0 : s0 ∈ S) (w : World)
  (hc : Cls (rI s0.heap.size bm y H) S w) : OneS 112 bm i iy y sA vs svs q cap H S s0 w := by
 have hbs : ∃ s ∈ S, s0.heap.size ≤ s.heap.size := ⟨s0, hs0, Nat.le_refl _⟩
 obtain ⟨fa0, fa2, fa3, fa1, fa16, _⟩ := form_args h.form
 have hvl := h.vl
 have hno := g.no
 have hbm := g.bm
 unfold rI at hc
 have hpos : i.op = 14 → 0 < vs.length := fun e => by
  have := (form_zero h.form).choose_spec.2.2.1 e
  omega
 have hr : insP i.op i.n svs sA y.out = .ok (wV i.n) sA y.out 0 := by
  rw [hop]
  rfl
 unfold OneS
 rw [hr]
 refine enter Try.func112 rfl Try.ntmps112 rfl hc (zen ?_)
 unfold inC
 apply W.sr
 apply OL.box; rfl; rfl; exact CellsL.agg; (intro bk hbk; have hbk0 := hbk.mem s0 hs0)
 apply OL.alloc; rfl; rfl; exact CellsL.agg; (intro bk hbk; have hbk0 := hbk.mem s0 hs0)
 refine zgw ?_
 rename_i b4 hb4 hb40
 revert hbk0
 revert bk
 intro b6 hb6 hb60
 (((first | apply OL.op | apply QL.op); exact Guard.au; rfl; rfl); (exact Pev.call (v := .bool true) rfl (by exact Args.au) (fun _ w2 hw2 => (kinds_calls fns bm y.m i iy h.form _ _ cap h.vl w2 (h.inq.arr hw2 (by exact mau)) (fun j v hj => by rw [add_mid, blk_cell (hw2.item (show blk bm 110 y.m.c ∈ _ from by exact mau)), Nat.zero_add]; exact hj) (hw2.lt (blk bm 110 y.m.c) (by exact mau) _ rfl) (g.hu.at hw2 hs0 (g.no2 hb60 hb40)) g.nF (fun h14 hk => one_clo h g.hU (hpos h14) hk)).mono (fun e w3 hh => ⟨by rw [hh.1, hz], hw2.ext hh.2⟩))))
 refine zgw ?_
 exact At.finC (b := b6) (cs := [.int .i64 0, .int .i64 i.n, .slice none 0 0]) rfl rfl (by exact mau) rfl rfl (fun w' hw' => ⟨pw i.n, y, rfl, OneR.val h.ok (erwr _) (.inl rfl), drop2 hb6 hb4 hw'⟩)
theorem one_8 (bm : Nat) (fns : List (Go.Ss.Fn × FnY)) (i : Go.Ss.In) (iy : Sc) (y : YS) (sA : List (List SV)) (vs : List PV) (svs : List SV) (q : Option Addr) (cap : Nat) (h : OneH fns.length i y sA vs svs q cap) (hop : i.op = 8) (hz : kindP (fns.map Prod.fst) i vs = true) (H : List Eng.Item) (S : List World) (s0 : World) (g : OneG fns bm y H s0) (hs0 : s0 ∈ S) (w : World)
  (hc : Cls (rI s0.heap.size bm y H) S w) : OneS 112 bm i iy y sA vs svs q cap H S s0 w := by
 have hbs : ∃ s ∈ S, s0.heap.size ≤ s.heap.size := ⟨s0, hs0, Nat.le_refl _⟩
 obtain ⟨fa0, fa2, fa3, fa1, fa16, _⟩ := form_args h.form
 have hvl := h.vl
 have hno := g.no
 have hbm := g.bm
 unfold rI at hc
 have hpos : i.op = 14 → 0 < vs.length := fun e => by
  have := (form_zero h.form).choose_spec.2.2.1 e
  omega
 have hr : insP i.op i.n svs sA y.out = .ok (.mk 1 i.n svs) sA y.out 0 := by
  rw [hop]
  rfl
 unfold OneS
 rw [hr]
 refine enter Try.func112 rfl Try.ntmps112 rfl hc (zen ?_)
 unfold inC
 apply W.sr
 apply OL.box; rfl; rfl; exact CellsL.agg; (intro bk hbk; have hbk0 := hbk.mem s0 hs0)
 apply OL.alloc; rfl; rfl; exact CellsL.agg; (intro bk hbk; have hbk0 := hbk.mem s0 hs0)
 refine zgw ?_
 rename_i b4 hb4 hb40
 revert hbk0
 revert bk
 intro b6 hb6 hb60
 (((first | apply OL.op | apply QL.op); exact Guard.au; rfl; rfl); (exact Pev.call (v := .bool true) rfl (by exact Args.au) (fun _ w2 hw2 => (kinds_calls fns bm y.m i iy h.form _ _ cap h.vl w2 (h.inq.arr hw2 (by exact mau)) (fun j v hj => by rw [add_mid, blk_cell (hw2.item (show blk bm 110 y.m.c ∈ _ from by exact mau)), Nat.zero_add]; exact hj) (hw2.lt (blk bm 110 y.m.c) (by exact mau) _ rfl) (g.hu.at hw2 hs0 (g.no2 hb60 hb40)) g.nF (fun h14 hk => one_clo h g.hU (hpos h14) hk)).mono (fun e w3 hh => ⟨by rw [hh.1, hz], hw2.ext hh.2⟩))))
 refine zgw ?_
 exact At.finC (b := b6) (cs := [.int .i64 1, .int .i64 i.n, .slice q vs.length cap]) rfl rfl (by exact mau) rfl rfl (fun w' hw' => ⟨.mk 1 i.n q cap 0 vs, y, rfl, OneR.val h.ok (Er.of rfl h.er) (h.inq.like rfl rfl), drop2 hb6 hb4 hw'⟩)
theorem one_9 (bm : Nat) (fns : List (Go.Ss.Fn × FnY)) (i : Go.Ss.In) (iy : Sc) (y : YS) (sA : List (List SV)) (vs : List PV) (svs : List SV) (q : Option Addr) (cap : Nat) (h : OneH fns.length i y sA vs svs q cap) (hop : i.op = 9) (hz : kindP (fns.map Prod.fst) i vs = true) (H : List Eng.Item) (S : List World) (s0 : World) (g : OneG fns bm y H s0) (hs0 : s0 ∈ S) (w : World)
  (hc : Cls (rI s0.heap.size bm y H) S w) : OneS 112 bm i iy y sA vs svs q cap H S s0 w := by
 have hbs : ∃ s ∈ S, s0.heap.size ≤ s.heap.size := ⟨s0, hs0, Nat.le_refl _⟩
 obtain ⟨fa0, fa2, fa3, fa1, fa16, _⟩ := form_args h.form
 have hvl := h.vl
 have hno := g.no
 have hbm := g.bm
 unfold rI at hc
 have hpos : i.op = 14 → 0 < vs.length := fun e => by
  have := (form_zero h.form).choose_spec.2.2.1 e
  omega
 have hr : insP i.op i.n svs sA y.out = .ok (.mk 2 i.n svs) sA y.out 0 := by
  rw [hop]
  rfl
 unfold OneS
 rw [hr]
 refine enter Try.func112 rfl Try.ntmps112 rfl hc (zen ?_)
 unfold inC
 apply W.sr
 apply OL.box; rfl; rfl; exact CellsL.agg; (intro bk hbk; have hbk0 := hbk.mem s0 hs0)
 apply OL.alloc; rfl; rfl; exact CellsL.agg; (intro bk hbk; have hbk0 := hbk.mem s0 hs0)
 refine zgw ?_
 rename_i b4 hb4 hb40
 revert hbk0
 revert bk
 intro b6 hb6 hb60
 (((first | apply OL.op | apply QL.op); exact Guard.au; rfl; rfl); (exact Pev.call (v := .bool true) rfl (by exact Args.au) (fun _ w2 hw2 => (kinds_calls fns bm y.m i iy h.form _ _ cap h.vl w2 (h.inq.arr hw2 (by exact mau)) (fun j v hj => by rw [add_mid, blk_cell (hw2.item (show blk bm 110 y.m.c ∈ _ from by exact mau)), Nat.zero_add]; exact hj) (hw2.lt (blk bm 110 y.m.c) (by exact mau) _ rfl) (g.hu.at hw2 hs0 (g.no2 hb60 hb40)) g.nF (fun h14 hk => one_clo h g.hU (hpos h14) hk)).mono (fun e w3 hh => ⟨by rw [hh.1, hz], hw2.ext hh.2⟩))))
 refine zgw ?_
 exact At.finC (b := b6) (cs := [.int .i64 2, .int .i64 i.n, .slice q vs.length cap]) rfl rfl (by exact mau) rfl rfl (fun w' hw' => ⟨.mk 2 i.n q cap 0 vs, y, rfl, OneR.val h.ok (Er.of rfl h.er) (h.inq.like rfl rfl), drop2 hb6 hb4 hw'⟩)
theorem one_22 (bm : Nat) (fns : List (Go.Ss.Fn × FnY)) (i : Go.Ss.In) (iy : Sc) (y : YS) (sA : List (List SV)) (vs : List PV) (svs : List SV) (q : Option Addr) (cap : Nat) (h : OneH fns.length i y sA vs svs q cap) (hop : i.op = 22) (hz : kindP (fns.map Prod.fst) i vs = true) (H : List Eng.Item) (S : List World) (s0 : World) (g : OneG fns bm y H s0) (hs0 : s0 ∈ S) (w : World)
  (hc : Cls (rI s0.heap.size bm y H) S w) : OneS 112 bm i iy y sA vs svs q cap H S s0 w := by
 have hbs : ∃ s ∈ S, s0.heap.size ≤ s.heap.size := ⟨s0, hs0, Nat.le_refl _⟩
 obtain ⟨fa0, fa2, fa3, fa1, fa16, _⟩ := form_args h.form
 have hvl := h.vl
 have hno := g.no
 have hbm := g.bm
 unfold rI at hc
 have hpos : i.op = 14 → 0 < vs.length := fun e => by
  have := (form_zero h.form).choose_spec.2.2.1 e
  omega
 have hz2 : (vs.all fun p => decide (p.k = 0)) = true := by
  have := hz
  unfold kindP kindT at this
  simpa [hop] using this
 rw [ErsR.allK h.er] at hz2
 have hr : insP i.op i.n svs sA y.out = .ok (.mk 4 0 svs) sA y.out 0 := by
  rw [hop]
  show (if allK 0 svs = false then Rs.trap 5 else .ok (.mk 4 0 svs) sA y.out 0) = _
  rw [if_neg (by rw [hz2]; decide)]
 unfold OneS
 rw [hr]
 refine enter Try.func112 rfl Try.ntmps112 rfl hc (zen ?_)
 unfold inC
 apply W.sr
 apply OL.box; rfl; rfl; exact CellsL.agg; (intro bk hbk; have hbk0 := hbk.mem s0 hs0)
 apply OL.alloc; rfl; rfl; exact CellsL.agg; (intro bk hbk; have hbk0 := hbk.mem s0 hs0)
 refine zgw ?_
 rename_i b4 hb4 hb40
 revert hbk0
 revert bk
 intro b6 hb6 hb60
 (((first | apply OL.op | apply QL.op); exact Guard.au; rfl; rfl); (exact Pev.call (v := .bool true) rfl (by exact Args.au) (fun _ w2 hw2 => (kinds_calls fns bm y.m i iy h.form _ _ cap h.vl w2 (h.inq.arr hw2 (by exact mau)) (fun j v hj => by rw [add_mid, blk_cell (hw2.item (show blk bm 110 y.m.c ∈ _ from by exact mau)), Nat.zero_add]; exact hj) (hw2.lt (blk bm 110 y.m.c) (by exact mau) _ rfl) (g.hu.at hw2 hs0 (g.no2 hb60 hb40)) g.nF (fun h14 hk => one_clo h g.hU (hpos h14) hk)).mono (fun e w3 hh => ⟨by rw [hh.1, hz], hw2.ext hh.2⟩))))
 refine zgw ?_
 exact At.finC (b := b6) (cs := [.int .i64 4, .int .i64 0, .slice q vs.length cap]) rfl rfl (by exact mau) rfl rfl (fun w' hw' => ⟨.mk 4 0 q cap 0 vs, y, rfl, OneR.val h.ok (Er.of rfl h.er) (h.inq.like rfl rfl), drop2 hb6 hb4 hw'⟩)
theorem one_10 (bm : Nat) (fns : List (Go.Ss.Fn × FnY)) (i : Go.Ss.In) (iy : Sc) (y : YS) (sA : List (List SV)) (vs : List PV) (svs : List SV) (q : Option Addr) (cap : Nat) (h : OneH fns.length i y sA vs svs q cap) (hop : i.op = 10) (hz : kindP (fns.map Prod.fst) i vs = true) (H : List Eng.Item) (S : List World) (s0 : World) (g : OneG fns bm y H s0) (hs0 : s0 ∈ S) (w : World)
  (hc : Cls (rI s0.heap.size bm y H) S w) : OneS 112 bm i iy y sA vs svs q cap H S s0 w := by
 have hbs : ∃ s ∈ S, s0.heap.size ≤ s.heap.size := ⟨s0, hs0, Nat.le_refl _⟩
 obtain ⟨fa0, fa2, fa3, fa1, fa16, _⟩ := form_args h.form
 have hvl := h.vl
 have hno := g.no
 have hbm := g.bm
 unfold rI at hc
 obtain ⟨p0, v0, rfl, rfl, he0⟩ := h.er.one (by omega)
 have hpos : i.op = 14 → 0 < ([p0]).length := fun e => by omega
 have hz2 : p0.k = 1 := by
  have := hz
  unfold kindP kindT at this
  simpa [hop] using this
 obtain ⟨qa, rfl⟩ := h.adr (hc.item (by exact mau)) (by simp)
 have hp0 := fun w' hp => h.at_ 0 rfl rfl (B := s0.heap.size) w' hp
 have hr : insP i.op i.n [v0] sA y.out = .ok (wV p0.n) sA y.out 0 := by
  rw [hop]
  show (if v0.k = 1 then .ok (wV v0.n) sA y.out 0 else Rs.trap 5) = _
  rw [if_pos (by rw [← he0.k]; exact hz2), he0.nr]
 unfold OneS
 rw [hr]
 refine enter Try.func112 rfl Try.ntmps112 rfl hc (zen ?_)
 unfold inC
 apply W.sr
 apply OL.box; rfl; rfl; exact CellsL.agg; (intro bk hbk; have hbk0 := hbk.mem s0 hs0)
 apply OL.alloc; rfl; rfl; exact CellsL.agg; (intro bk hbk; have hbk0 := hbk.mem s0 hs0)
 refine zgw ?_
 rename_i b4 hb4 hb40
 revert hbk0
 revert bk
 intro b6 hb6 hb60
 (((first | apply OL.op | apply QL.op); exact Guard.au; rfl; rfl); (exact Pev.call (v := .bool true) rfl (by exact Args.au) (fun _ w2 hw2 => (kinds_calls fns bm y.m i iy h.form _ _ cap h.vl w2 (h.inq.arr hw2 (by exact mau)) (fun j v hj => by rw [add_mid, blk_cell (hw2.item (show blk bm 110 y.m.c ∈ _ from by exact mau)), Nat.zero_add]; exact hj) (hw2.lt (blk bm 110 y.m.c) (by exact mau) _ rfl) (g.hu.at hw2 hs0 (g.no2 hb60 hb40)) g.nF (fun h14 hk => one_clo h g.hU (hpos h14) hk)).mono (fun e w3 hh => ⟨by rw [hh.1, hz], hw2.ext hh.2⟩))))
 refine zgw ?_
 exact At.finC (b := b6) (cs := [.int .i64 0, .int .i64 p0.n, .slice none 0 0]) rfl rfl (by exact mau) rfl rfl (fun w' hw' => ⟨pw p0.n, y, rfl, OneR.val h.ok (erwr _) (.inl rfl), drop2 hb6 hb4 hw'⟩)
theorem one_12 (bm : Nat) (fns : List (Go.Ss.Fn × FnY)) (i : Go.Ss.In) (iy : Sc) (y : YS) (sA : List (List SV)) (vs : List PV) (svs : List SV) (q : Option Addr) (cap : Nat) (h : OneH fns.length i y sA vs svs q cap) (hop : i.op = 12) (hz : kindP (fns.map Prod.fst) i vs = true) (H : List Eng.Item) (S : List World) (s0 : World) (g : OneG fns bm y H s0) (hs0 : s0 ∈ S) (w : World)
  (hc : Cls (rI s0.heap.size bm y H) S w) : OneS 112 bm i iy y sA vs svs q cap H S s0 w := by
 have hbs : ∃ s ∈ S, s0.heap.size ≤ s.heap.size := ⟨s0, hs0, Nat.le_refl _⟩
 obtain ⟨fa0, fa2, fa3, fa1, fa16, _⟩ := form_args h.form
 have hvl := h.vl
 have hno := g.no
 have hbm := g.bm
 unfold rI at hc
 obtain ⟨p0, v0, rfl, rfl, he0⟩ := h.er.one (by omega)
 have hpos : i.op = 14 → 0 < ([p0]).length := fun e => by omega
 have hz2 : p0.k = 1 := by
  have := hz
  unfold kindP kindT at this
  simpa [hop] using this
 obtain ⟨qa, rfl⟩ := h.adr (hc.item (by exact mau)) (by simp)
 have hp0 := fun w' hp => h.at_ 0 rfl rfl (B := s0.heap.size) w' hp
 have hr : insP i.op i.n [v0] sA y.out = .ok (wV (p0.l.length : Int)) sA y.out 0 := by
  rw [hop]
  show (if v0.k = 1 then .ok (wV v0.l.length) sA y.out 0 else Rs.trap 5) = _
  rw [if_pos (by rw [← he0.k]; exact hz2), he0.l.len]
 unfold OneS
 rw [hr]
 refine enter Try.func112 rfl Try.ntmps112 rfl hc (zen ?_)
 unfold inC
 apply W.sr
 apply OL.box; rfl; rfl; exact CellsL.agg; (intro bk hbk; have hbk0 := hbk.mem s0 hs0)
 apply OL.alloc; rfl; rfl; exact CellsL.agg; (intro bk hbk; have hbk0 := hbk.mem s0 hs0)
 refine zgw ?_
 rename_i b4 hb4 hb40
 revert hbk0
 revert bk
 intro b6 hb6 hb60
 (((first | apply OL.op | apply QL.op); exact Guard.au; rfl; rfl); (exact Pev.call (v := .bool true) rfl (by exact Args.au) (fun _ w2 hw2 => (kinds_calls fns bm y.m i iy h.form _ _ cap h.vl w2 (h.inq.arr hw2 (by exact mau)) (fun j v hj => by rw [add_mid, blk_cell (hw2.item (show blk bm 110 y.m.c ∈ _ from by exact mau)), Nat.zero_add]; exact hj) (hw2.lt (blk bm 110 y.m.c) (by exact mau) _ rfl) (g.hu.at hw2 hs0 (g.no2 hb60 hb40)) g.nF (fun h14 hk => one_clo h g.hU (hpos h14) hk)).mono (fun e w3 hh => ⟨by rw [hh.1, hz], hw2.ext hh.2⟩))))
 refine zgw ?_
 exact At.finC (b := b6) (cs := [.int .i64 0, .int .i64 (p0.l.length : Int), .slice none 0 0]) rfl rfl (by exact mau) rfl rfl (fun w' hw' => ⟨pw (p0.l.length : Int), y, rfl, OneR.val h.ok (erwr _) (.inl rfl), drop2 hb6 hb4 hw'⟩)
theorem one_11 (bm : Nat) (fns : List (Go.Ss.Fn × FnY)) (i : Go.Ss.In) (iy : Sc) (y : YS) (sA : List (List SV)) (vs : List PV) (svs : List SV) (q : Option Addr) (cap : Nat) (h : OneH fns.length i y sA vs svs q cap) (hop : i.op = 11) (hz : kindP (fns.map Prod.fst) i vs = true) (H : List Eng.Item) (S : List World) (s0 : World) (g : OneG fns bm y H s0) (hs0 : s0 ∈ S) (w : World)
  (hc : Cls (rI s0.heap.size bm y H) S w) : OneS 112 bm i iy y sA vs svs q cap H S s0 w := by
 have hbs : ∃ s ∈ S, s0.heap.size ≤ s.heap.size := ⟨s0, hs0, Nat.le_refl _⟩
 obtain ⟨fa0, fa2, fa3, fa1, fa16, _⟩ := form_args h.form
 have hvl := h.vl
 have hno := g.no
 have hbm := g.bm
 unfold rI at hc
 obtain ⟨p0, v0, rfl, rfl, he0⟩ := h.er.one (by omega)
 have hpos : i.op = 14 → 0 < ([p0]).length := fun e => by omega
 have hz2 : (p0.k = 1 ∨ p0.k = 2) ∧ i.n < (p0.l.length : Int) := by
  have := hz
  unfold kindP kindT at this
  simpa [hop] using this
 obtain ⟨qa, rfl⟩ := h.adr (hc.item (by exact mau)) (by simp)
 have hp0 := fun w' hp => h.at_ 0 rfl rfl (B := s0.heap.size) w' hp
 have hn0 := (num_range h.form).1 (by omega)
 obtain ⟨a2, ha2⟩ := (h.kid (p := p0) (by simp)).some (hc.item (show pool (pvR rF) s0.heap.size y.Op y.L ∈ _ by exact mau)) (by omega)
 obtain ⟨c, hcc⟩ : ∃ c, p0.l[i.n.toNat]? = some c := ⟨_, List.getElem?_eq_getElem (by omega)⟩
 have hp2 := fun w' hp => (h.kid (p := p0) (by simp)).cells (F := rF) (B := s0.heap.size) (O := y.Op) (w := w') hp ha2 hcc
 have hp0 : ∀ w', (pool (pvR rF) s0.heap.size y.Op y.L).holds w' → CellsAt w' (qa.add (0 * 3)) [.int .i64 p0.k, .int .i64 p0.n, .slice (some a2) p0.l.length p0.cap] := fun w' hp => by rw [← ha2]; exact hp0 w' hp
 have hr : insP i.op i.n [v0] sA y.out = .ok (v0.l.getD i.n.toNat zV) sA y.out 0 := by
  rw [hop]
  show (if (v0.k = 1 ∨ v0.k = 2) ∧ i.n < (v0.l.length : Int) then .ok (v0.l.getD i.n.toNat zV) sA y.out 0 else Rs.trap 5) = _
  rw [if_pos (by rw [← he0.k, ← he0.l.len]; exact hz2)]
 unfold OneS
 rw [hr]
 refine enter Try.func112 rfl Try.ntmps112 rfl hc (zen ?_)
 unfold inC
 apply W.sr
 apply OL.box; rfl; rfl; exact CellsL.agg; (intro bk hbk; have hbk0 := hbk.mem s0 hs0)
 apply OL.alloc; rfl; rfl; exact CellsL.agg; (intro bk hbk; have hbk0 := hbk.mem s0 hs0)
 refine zgw ?_
 rename_i b4 hb4 hb40
 revert hbk0
 revert bk
 intro b6 hb6 hb60
 (((first | apply OL.op | apply QL.op); exact Guard.au; rfl; rfl); (exact Pev.call (v := .bool true) rfl (by exact Args.au) (fun _ w2 hw2 => (kinds_calls fns bm y.m i iy h.form _ _ cap h.vl w2 (h.inq.arr hw2 (by exact mau)) (fun j v hj => by rw [add_mid, blk_cell (hw2.item (show blk bm 110 y.m.c ∈ _ from by exact mau)), Nat.zero_add]; exact hj) (hw2.lt (blk bm 110 y.m.c) (by exact mau) _ rfl) (g.hu.at hw2 hs0 (g.no2 hb60 hb40)) g.nF (fun h14 hk => one_clo h g.hU (hpos h14) hk)).mono (fun e w3 hh => ⟨by rw [hh.1, hz], hw2.ext hh.2⟩))))
 refine zgw ?_
 apply W.regq; apply Split.s rfl; apply Split.s rfl; apply Split.s rfl; apply Split.s rfl; apply Split.s rfl; apply Split.s rfl; apply Split.s rfl; apply Split.s rfl; exact Split.z rfl; kernel_rfl; decide +kernel; exact fun w hw => hw.drew
 refine zgw ?_
 exact At.finC (b := b6) (cs := [.int .i64 c.k, .int .i64 c.n, .slice c.q c.l.length c.cap]) rfl rfl (by exact mau) rfl rfl (fun w' hw' => ⟨c, y, rfl, OneR.val h.ok (by rw [← getD_at hcc]; exact he0.l.getD rN.z _) (by rw [← getD_at hcc]; exact (h.kid (p := p0) (by simp)).getD _), drop2 hb6 hb4 hw'⟩)
theorem one_24 (bm : Nat) (fns : List (Go.Ss.Fn × FnY)) (i : Go.Ss.In) (iy : Sc) (y : YS) (sA : List (List SV)) (vs : List PV) (svs : List SV) (q : Option Addr) (cap : Nat) (h : OneH fns.length i y sA vs svs q cap) (hop : i.op = 24) (hz : kindP (fns.map Prod.fst) i vs = true) (H : List Eng.Item) (S : List World) (s0 : World) (g : OneG fns bm y H s0) (hs0 : s0 ∈ S) (w : World)
  (hc : Cls (rI s0.heap.size bm y H) S w) : OneS 112 bm i iy y sA vs svs q cap H S s0 w := by
 have hbs : ∃ s ∈ S, s0.heap.size ≤ s.heap.size := ⟨s0, hs0, Nat.le_refl _⟩
 obtain ⟨fa0, fa2, fa3, fa1, fa16, _⟩ := form_args h.form
 have hvl := h.vl
 have hno := g.no
 have hbm := g.bm
 unfold rI at hc
 obtain ⟨p0, v0, rfl, rfl, he0⟩ := h.er.one (by omega)
 have hpos : i.op = 14 → 0 < ([p0]).length := fun e => by omega
 have hz2 : p0.k = 4 ∧ i.n < (p0.l.length : Int) := by
  have := hz
  unfold kindP kindT at this
  simpa [hop] using this
 obtain ⟨qa, rfl⟩ := h.adr (hc.item (by exact mau)) (by simp)
 have hp0 := fun w' hp => h.at_ 0 rfl rfl (B := s0.heap.size) w' hp
 have hn0 := (num_range h.form).1 (by omega)
 obtain ⟨a2, ha2⟩ := (h.kid (p := p0) (by simp)).some (hc.item (show pool (pvR rF) s0.heap.size y.Op y.L ∈ _ by exact mau)) (by omega)
 obtain ⟨c, hcc⟩ : ∃ c, p0.l[i.n.toNat]? = some c := ⟨_, List.getElem?_eq_getElem (by omega)⟩
 have hp2 := fun w' hp => (h.kid (p := p0) (by simp)).cells (F := rF) (B := s0.heap.size) (O := y.Op) (w := w') hp ha2 hcc
 have hp0 : ∀ w', (pool (pvR rF) s0.heap.size y.Op y.L).holds w' → CellsAt w' (qa.add (0 * 3)) [.int .i64 p0.k, .int .i64 p0.n, .slice (some a2) p0.l.length p0.cap] := fun w' hp => by rw [← ha2]; exact hp0 w' hp
 have hr : insP i.op i.n [v0] sA y.out = .ok (v0.l.getD i.n.toNat zV) sA y.out 0 := by
  rw [hop]
  show (if v0.k ≠ 4 ∨ (v0.l.length : Int) ≤ i.n then Rs.trap 5 else .ok (v0.l.getD i.n.toNat zV) sA y.out 0) = _
  rw [if_neg (by rw [← he0.k, ← he0.l.len]; omega)]
 unfold OneS
 rw [hr]
 refine enter Try.func112 rfl Try.ntmps112 rfl hc (zen ?_)
 unfold inC
 apply W.sr
 apply OL.box; rfl; rfl; exact CellsL.agg; (intro bk hbk; have hbk0 := hbk.mem s0 hs0)
 apply OL.alloc; rfl; rfl; exact CellsL.agg; (intro bk hbk; have hbk0 := hbk.mem s0 hs0)
 refine zgw ?_
 rename_i b4 hb4 hb40
 revert hbk0
 revert bk
 intro b6 hb6 hb60
 (((first | apply OL.op | apply QL.op); exact Guard.au; rfl; rfl); (exact Pev.call (v := .bool true) rfl (by exact Args.au) (fun _ w2 hw2 => (kinds_calls fns bm y.m i iy h.form _ _ cap h.vl w2 (h.inq.arr hw2 (by exact mau)) (fun j v hj => by rw [add_mid, blk_cell (hw2.item (show blk bm 110 y.m.c ∈ _ from by exact mau)), Nat.zero_add]; exact hj) (hw2.lt (blk bm 110 y.m.c) (by exact mau) _ rfl) (g.hu.at hw2 hs0 (g.no2 hb60 hb40)) g.nF (fun h14 hk => one_clo h g.hU (hpos h14) hk)).mono (fun e w3 hh => ⟨by rw [hh.1, hz], hw2.ext hh.2⟩))))
 refine zgw ?_
 apply W.regq; apply Split.s rfl; apply Split.s rfl; apply Split.s rfl; apply Split.s rfl; apply Split.s rfl; apply Split.s rfl; apply Split.s rfl; apply Split.s rfl; exact Split.z rfl; kernel_rfl; decide +kernel; exact fun w hw => hw.drew
 refine zgw ?_
 exact At.finC (b := b6) (cs := [.int .i64 c.k, .int .i64 c.n, .slice c.q c.l.length c.cap]) rfl rfl (by exact mau) rfl rfl (fun w' hw' => ⟨c, y, rfl, OneR.val h.ok (by rw [← getD_at hcc]; exact he0.l.getD rN.z _) (by rw [← getD_at hcc]; exact (h.kid (p := p0) (by simp)).getD _), drop2 hb6 hb4 hw'⟩)
theorem one_ar (bm : Nat) (fns : List (Go.Ss.Fn × FnY)) (i : Go.Ss.In) (iy : Sc) (y : YS) (sA : List (List SV)) (vs : List PV) (svs : List SV) (q : Option Addr) (cap : Nat) (h : OneH fns.length i y sA vs svs q cap) (hop : i.op = 1 ∨ i.op = 2 ∨ i.op = 3 ∨ i.op = 6 ∨ i.op = 7) (hz : kindP (fns.map Prod.fst) i vs = true) (H : List Eng.Item) (S : List World) (s0 : World) (g : OneG fns bm y H s0) (hs0 : s0 ∈ S) (w : World)
  (hc : Cls (rI s0.heap.size bm y H) S w) : OneS 112 bm i iy y sA vs svs q cap H S s0 w := by
 have hbs : ∃ s ∈ S, s0.heap.size ≤ s.heap.size := ⟨s0, hs0, Nat.le_refl _⟩
 obtain ⟨fa0, fa2, fa3, fa1, fa16, _⟩ := form_args h.form
 have hvl := h.vl
 have hno := g.no
 have hbm := g.bm
 unfold rI at hc
 obtain ⟨p0, p1, v0, v1, rfl, rfl, he0, he1⟩ := h.er.two (by omega)
 have hpos : i.op = 14 → 0 < ([p0, p1]).length := fun e => by omega
 have hz2 : p0.k = 0 ∧ p1.k = 0 := by
  have := hz
  unfold kindP kindT at this
  rw [if_pos (by omega)] at this
  simpa using this
 obtain ⟨qa, rfl⟩ := h.adr (hc.item (by exact mau)) (by simp)
 have hp0 := fun w' hp => h.at_ 0 rfl rfl (B := s0.heap.size) w' hp
 have hp1 := fun w' hp => h.at_ 1 rfl rfl (B := s0.heap.size) w' hp
 have hb0 := (h.wf v0 (by simp)).word (by rw [← he0.k]; exact hz2.1)
 have hb1 := (h.wf v1 (by simp)).word (by rw [← he1.k]; exact hz2.2)
 rw [← he0.nr] at hb0
 rw [← he1.nr] at hb1
 have hr : insP i.op i.n [v0, v1] sA y.out = if (i.op = 4 ∨ i.op = 5) ∧ p1.n = 0 then .trap 1 else .ok (wV (binV i.op p0.n p1.n)) sA y.out 0 := by
  rw [insP_bin (by omega), if_neg (by simp [allK, ← he0.k, ← he1.k, hz2.1, hz2.2])]
  show (if (i.op = 4 ∨ i.op = 5) ∧ v1.n = 0 then Rs.trap 1 else .ok (wV (binV i.op v0.n v1.n)) sA y.out 0) = _
  rw [he0.nr, he1.nr]
 unfold OneS
 rw [hr]
 rw [if_neg (by omega)]
 refine enter Try.func112 rfl Try.ntmps112 rfl hc (zen ?_)
 unfold inC
 apply W.sr
 apply OL.box; rfl; rfl; exact CellsL.agg; (intro bk hbk; have hbk0 := hbk.mem s0 hs0)
 apply OL.alloc; rfl; rfl; exact CellsL.agg; (intro bk hbk; have hbk0 := hbk.mem s0 hs0)
 refine zgw ?_
 rename_i b4 hb4 hb40
 revert hbk0
 revert bk
 intro b6 hb6 hb60
 (((first | apply OL.op | apply QL.op); exact Guard.au; rfl; rfl); (exact Pev.call (v := .bool true) rfl (by exact Args.au) (fun _ w2 hw2 => (kinds_calls fns bm y.m i iy h.form _ _ cap h.vl w2 (h.inq.arr hw2 (by exact mau)) (fun j v hj => by rw [add_mid, blk_cell (hw2.item (show blk bm 110 y.m.c ∈ _ from by exact mau)), Nat.zero_add]; exact hj) (hw2.lt (blk bm 110 y.m.c) (by exact mau) _ rfl) (g.hu.at hw2 hs0 (g.no2 hb60 hb40)) g.nF (fun h14 hk => one_clo h g.hU (hpos h14) hk)).mono (fun e w3 hh => ⟨by rw [hh.1, hz], hw2.ext hh.2⟩))))
 refine zgw ?_
 refine W.joinc [(0, true, .pointer (some ⟨bm, 0, none⟩)), (2, true, .slice (some qa) 2 cap), (4, true, .pointer (some ⟨b4, 0, none⟩)), (6, true, .pointer (some ⟨b6, 0, none⟩)), (18, true, .int .i64 i.op), (46, true, .bool true)] (Cls (blk b6 113 [.int .i64 0, .int .i64 0, .slice none 0 0] :: blk b4 85 [.int .i64 i.to_, .int .i64 i.op, .int .i64 i.n, .slice iy.1 i.args.length iy.2] :: blk bm 110 y.m.c :: row s0.heap.size y.Oo y.m.qo y.m.no y.m.co 3 1 (ints y.out) :: row s0.heap.size y.Oa y.m.qa y.m.na y.m.ca 111 1 (y.A.map RA.v) :: pool (pvR rF) s0.heap.size y.Op y.L :: bag s0.heap.size (y.A.map (raI s0.heap.size)) :: H) S) ?_ ?_
 ·refine W.cnd ?_ ?_ <;> intro ka0 <;> try exact zwx ka0
  ·apply W.skip
   exact At.joined (by rw [decide_eq_true ka0]; exact Sub.au) (fun w' hw' => hw')
  refine zgw ?_
  refine W.cnd ?_ ?_ <;> intro ka1 <;> try exact zwx ka1
  ·apply W.skip
   exact At.joined (by rw [decide_eq_true ka1]; exact Sub.au) (fun w' hw' => hw')
  refine zgw ?_
  refine W.cnd ?_ ?_ <;> intro ka2 <;> try exact zwx ka2
  ·apply W.skip
   exact At.joined (by rw [decide_eq_true ka2]; exact Sub.au) (fun w' hw' => hw')
  refine zgw ?_
  refine W.cnd ?_ ?_ <;> intro ka3 <;> try exact zwx ka3
  ·apply W.skip
   exact At.joined (by rw [decide_eq_true ka3]; exact Sub.au) (fun w' hw' => hw')
  refine zgw ?_
  exact At.joined (by exact Sub.au) (fun w' hw' => hw')
 refine W.cond rfl (fun _ => ?_) (fun h => by cases h)
 apply W.seq
 apply W.regq; apply Split.s rfl; apply Split.s rfl; apply Split.s rfl; apply Split.s rfl; apply Split.s rfl; apply Split.s rfl; apply Split.s rfl; apply Split.s rfl; apply Split.s rfl; apply Split.s rfl; apply Split.s rfl; apply Split.s rfl; exact Split.z rfl; kernel_rfl; decide +kernel; exact fun w hw => hw.drew
 refine zgw ?_
 (((first | apply OL.op | apply QL.op); exact Guard.au; rfl; rfl); (exact Pev.call rfl (by exact Args.au) (fun _ w2 hw2 => (rcomp_calls i.op p0.n p1.n (by omega) hb0 hb1 (fun e => by omega) w2).mono (fun e w3 h => ⟨h.1, hw2.ext h.2⟩))))
 refine zgw ?_
 exact At.finC (b := b6) (cs := [.int .i64 0, .int .i64 (binV i.op p0.n p1.n), .slice none 0 0]) rfl rfl (by exact mau) rfl rfl (fun w' hw' => ⟨pw (binV i.op p0.n p1.n), y, rfl, OneR.val h.ok (erwr _) (.inl rfl), drop2 hb6 hb4 hw'⟩)
theorem one_dv (bm : Nat) (fns : List (Go.Ss.Fn × FnY)) (i : Go.Ss.In) (iy : Sc) (y : YS) (sA : List (List SV)) (vs : List PV) (svs : List SV) (q : Option Addr) (cap : Nat) (h : OneH fns.length i y sA vs svs q cap) (hop : i.op = 4 ∨ i.op = 5) (hz : kindP (fns.map Prod.fst) i vs = true) (H : List Eng.Item) (S : List World) (s0 : World) (g : OneG fns bm y H s0) (hs0 : s0 ∈ S) (w : World)
  (hc : Cls (rI s0.heap.size bm y H) S w) : OneS 112 bm i iy y sA vs svs q cap H S s0 w := by
 have hbs : ∃ s ∈ S, s0.heap.size ≤ s.heap.size := ⟨s0, hs0, Nat.le_refl _⟩
 obtain ⟨fa0, fa2, fa3, fa1, fa16, _⟩ := form_args h.form
 have hvl := h.vl
 have hno := g.no
 have hbm := g.bm
 unfold rI at hc
 obtain ⟨p0, p1, v0, v1, rfl, rfl, he0, he1⟩ := h.er.two (by omega)
 have hpos : i.op = 14 → 0 < ([p0, p1]).length := fun e => by omega
 have hz2 : p0.k = 0 ∧ p1.k = 0 := by
  have := hz
  unfold kindP kindT at this
  rw [if_pos (by omega)] at this
  simpa using this
 obtain ⟨qa, rfl⟩ := h.adr (hc.item (by exact mau)) (by simp)
 have hp0 := fun w' hp => h.at_ 0 rfl rfl (B := s0.heap.size) w' hp
 have hp1 := fun w' hp => h.at_ 1 rfl rfl (B := s0.heap.size) w' hp
 have hb0 := (h.wf v0 (by simp)).word (by rw [← he0.k]; exact hz2.1)
 have hb1 := (h.wf v1 (by simp)).word (by rw [← he1.k]; exact hz2.2)
 rw [← he0.nr] at hb0
 rw [← he1.nr] at hb1
 have hr : insP i.op i.n [v0, v1] sA y.out = if (i.op = 4 ∨ i.op = 5) ∧ p1.n = 0 then .trap 1 else .ok (wV (binV i.op p0.n p1.n)) sA y.out 0 := by
  rw [insP_bin (by omega), if_neg (by simp [allK, ← he0.k, ← he1.k, hz2.1, hz2.2])]
  show (if (i.op = 4 ∨ i.op = 5) ∧ v1.n = 0 then Rs.trap 1 else .ok (wV (binV i.op v0.n v1.n)) sA y.out 0) = _
  rw [he0.nr, he1.nr]
 unfold OneS
 rw [hr]
 refine enter Try.func112 rfl Try.ntmps112 rfl hc (zen ?_)
 unfold inC
 apply W.sr
 apply OL.box; rfl; rfl; exact CellsL.agg; (intro bk hbk; have hbk0 := hbk.mem s0 hs0)
 apply OL.alloc; rfl; rfl; exact CellsL.agg; (intro bk hbk; have hbk0 := hbk.mem s0 hs0)
 refine zgw ?_
 rename_i b4 hb4 hb40
 revert hbk0
 revert bk
 intro b6 hb6 hb60
 (((first | apply OL.op | apply QL.op); exact Guard.au; rfl; rfl); (exact Pev.call (v := .bool true) rfl (by exact Args.au) (fun _ w2 hw2 => (kinds_calls fns bm y.m i iy h.form _ _ cap h.vl w2 (h.inq.arr hw2 (by exact mau)) (fun j v hj => by rw [add_mid, blk_cell (hw2.item (show blk bm 110 y.m.c ∈ _ from by exact mau)), Nat.zero_add]; exact hj) (hw2.lt (blk bm 110 y.m.c) (by exact mau) _ rfl) (g.hu.at hw2 hs0 (g.no2 hb60 hb40)) g.nF (fun h14 hk => one_clo h g.hU (hpos h14) hk)).mono (fun e w3 hh => ⟨by rw [hh.1, hz], hw2.ext hh.2⟩))))
 refine zgw ?_
 refine W.joinc [(0, true, .pointer (some ⟨bm, 0, none⟩)), (2, true, .slice (some qa) 2 cap), (4, true, .pointer (some ⟨b4, 0, none⟩)), (6, true, .pointer (some ⟨b6, 0, none⟩)), (18, true, .int .i64 i.op), (24, true, .bool true)] (Cls (blk b6 113 [.int .i64 0, .int .i64 0, .slice none 0 0] :: blk b4 85 [.int .i64 i.to_, .int .i64 i.op, .int .i64 i.n, .slice iy.1 i.args.length iy.2] :: blk bm 110 y.m.c :: row s0.heap.size y.Oo y.m.qo y.m.no y.m.co 3 1 (ints y.out) :: row s0.heap.size y.Oa y.m.qa y.m.na y.m.ca 111 1 (y.A.map RA.v) :: pool (pvR rF) s0.heap.size y.Op y.L :: bag s0.heap.size (y.A.map (raI s0.heap.size)) :: H) S) ?_ ?_
 ·refine W.cnd ?_ ?_ <;> intro kb0 <;> try exact zwx kb0
  ·apply W.skip
   exact At.joined (by rw [decide_eq_true kb0]; exact Sub.au) (fun w' hw' => hw')
  refine zgw ?_
  exact At.joined (by exact Sub.au) (fun w' hw' => hw')
 refine W.cond rfl (fun _ => ?_) (fun h => by cases h)
 refine zgw ?_
 by_cases h0 : p1.n = 0
 ·rw [if_pos ⟨hop, h0⟩]
  refine W.cond rfl (fun _ => ?_) (fun hh => by simp at hh; omega)
  refine zgw ?_
  refine OL.callF rfl rfl (by exact Args.au) (fun w2 hw2 => rstop2 (m := y.m) 1 h.ok.ed s0 hs0 hw2) ?_
  refine zgw ?_
  exact At.finC (b := b6) (cs := [.int .i64 0, .int .i64 0, .slice none 0 0]) rfl rfl (by exact mau) rfl rfl (fun w' hw' => ⟨zP, _, rfl, OneR.trap h.ok, drop2 hb6 hb4 hw'⟩)
 rw [if_neg (by omega)]
 refine W.cond rfl (fun hh => by simp at hh; omega) (fun _ => ?_)
 refine zgw ?_
 apply W.regq; apply Split.s rfl; apply Split.s rfl; apply Split.s rfl; apply Split.s rfl; apply Split.s rfl; apply Split.s rfl; apply Split.s rfl; apply Split.s rfl; apply Split.s rfl; apply Split.s rfl; apply Split.s rfl; apply Split.s rfl; exact Split.z rfl; kernel_rfl; decide +kernel; exact fun w hw => hw.drew
 refine zgw ?_
 (((first | apply OL.op | apply QL.op); exact Guard.au; rfl; rfl); (exact Pev.call rfl (by exact Args.au) (fun _ w2 hw2 => (rcomp_calls i.op p0.n p1.n (by omega) hb0 hb1 (fun e => by omega) w2).mono (fun e w3 h => ⟨h.1, hw2.ext h.2⟩))))
 refine zgw ?_
 exact At.finC (b := b6) (cs := [.int .i64 0, .int .i64 (binV i.op p0.n p1.n), .slice none 0 0]) rfl rfl (by exact mau) rfl rfl (fun w' hw' => ⟨pw (binV i.op p0.n p1.n), y, rfl, OneR.val h.ok (erwr _) (.inl rfl), drop2 hb6 hb4 hw'⟩)
end Go.Proofs.Ytehelljmaiophaa.ss

/- The walk of the reference's one, at vectors and where it calls effect. Conditions: none. -/
namespace Go.Proofs.Ytehelljmaiophaa.ss
set_option maxRecDepth 100000
open Go.Eng Go.RowKit Go.Ss
theorem two_in {a b : Eng.Item} {B bm : Nat} {y : YS} {H : List Eng.Item} {S : List World} {w : World} (h : Cls (a :: b :: rI B bm y H) S w) : Cls (rI B bm y (a :: b :: H)) S w := h.perm (List.Perm.append_right H (List.perm_append_comm (l₁ := [a, b]) (l₂ := [_, _, _, _, _])))
theorem two_out {a b : Eng.Item} {B bm : Nat} {y : YS} {H : List Eng.Item} {S : List World} {w : World} (h : Cls (rI B bm y (a :: b :: H)) S w) : Cls (a :: b :: rI B bm y H) S w := h.perm (List.Perm.append_right H (List.perm_append_comm (l₁ := [a, b]) (l₂ := [_, _, _, _, _]))).symm
theorem take_snoc {α : Type} {l : List α} {j : Nat} {x : α} (h : l[j]? = some x) : l.take (j + 1) = l.take j ++ [x] := by
 rw [List.take_add_one, h]
 rfl
theorem join_row {B Bx bm m cp : Nat} {y : YS} {H : List Eng.Item} {S : List World} {w : World} {O : Nat → Prop} {q : Option Addr} {l : List PV} (k n : Int) (b : Nat) (hBx : B ≤ Bx) (h : Cls (row Bx O q m cp 113 3 (cat rC l) :: rI B bm y H) S w) (hm : l.length = m) (h16 : m ≤ 16) (hin : ∀ p ∈ l, InQ y.L p) :
  Cls (rI B bm { y with L := y.L ++ [(.mk k n q cp b l, ())], Op := fun j => y.Op j ∨ (Bx ≤ j ∧ O j) } H) S w := by
 have h1 := h.perm (.cons _ (List.perm_middle (l₁ := [_, _, _]) (l₂ := bag B (y.A.map (raI B)) :: H)))
 have hP := h1.item (show pool (pvR rF) B y.Op y.L ∈ _ from .tail _ (.head _))
 have hr : (row Bx O q m cp 113 rF.sz (cat rF.cf l)).holds w := h1.item (.head _)
 have hok : PVO rF w (fun j => B ≤ j ∧ (y.Op j ∨ (Bx ≤ j ∧ O j))) (.mk k n q cp b l) := rowPV hr hm (fun p hp => ((hin p hp).ok hP).mono (fun j hj => ⟨hj.1, .inl hj.2⟩)) (by omega) (fun j hj => ⟨Nat.le_trans hBx hj.1, .inr hj⟩)
 have h2 := h1.pool_join (x := PV.mk k n q cp b l) (y := ()) (fun j hj => Nat.le_trans hBx hj.1) hok
 exact h2.perm (List.perm_middle (l₁ := [_, _, _]) (l₂ := bag B (y.A.map (raI B)) :: H)).symm
theorem eff_all (bm nf : Nat) (fs : List Go.Ss.Fn) (i : Go.Ss.In) (iy : Sc) (y : YS) (sA : List (List SV)) (vs : List PV) (svs : List SV) (q : Option Addr) (cap : Nat) (h : OneH nf i y sA vs svs q cap) (hop : i.op = 15 ∨ i.op = 16 ∨ i.op = 17 ∨ i.op = 18 ∨ i.op = 19 ∨ i.op = 20 ∨ i.op = 21) (hz : kindP fs i vs = true) (H : List Eng.Item) (S : List World) (s0 : World) (hs0 : s0 ∈ S) (w : World)
  (hc : Cls (rI s0.heap.size bm y H) S w) : OneS 144 bm i iy y sA vs svs q cap H S s0 w := by
 unfold kindP kindT at hz
 rcases hop with e | e | e | e | e | e | e
 ·exact eff_15 bm nf i iy y sA vs svs q cap h e (by simpa [e] using hz) H S s0 hs0 w hc
 ·exact eff_16 bm nf i iy y sA vs svs q cap h e (by simpa [e] using hz) H S s0 hs0 w hc
 ·exact eff_17 bm nf i iy y sA vs svs q cap h e (by simpa [e] using hz) H S s0 hs0 w hc
 ·exact eff_18 bm nf i iy y sA vs svs q cap h e (by simpa [e] using hz) H S s0 hs0 w hc
 ·exact eff_19 bm nf i iy y sA vs svs q cap h e (by simpa [e] using hz) H S s0 hs0 w hc
 ·exact eff_20 bm nf i iy y sA vs svs q cap h e (by simpa [e] using hz) H S s0 hs0 w hc
 ·exact eff_21 bm nf i iy y sA vs svs q cap h e (by simpa [e] using hz) H S s0 hs0 w hc
theorem one_eff (bm : Nat) (fns : List (Go.Ss.Fn × FnY)) (i : Go.Ss.In) (iy : Sc) (y : YS) (sA : List (List SV)) (vs : List PV) (svs : List SV) (q : Option Addr) (cap : Nat) (h : OneH fns.length i y sA vs svs q cap) (hop : i.op = 15 ∨ i.op = 16 ∨ i.op = 17 ∨ i.op = 18 ∨ i.op = 19 ∨ i.op = 20 ∨ i.op = 21) (hz : kindP (fns.map Prod.fst) i vs = true) (H : List Eng.Item) (S : List World) (s0 : World) (g : OneG fns bm y H s0) (hs0 : s0 ∈ S) (w : World)
  (hc : Cls (rI s0.heap.size bm y H) S w) : OneS 112 bm i iy y sA vs svs q cap H S s0 w := by
 have hbs : ∃ s ∈ S, s0.heap.size ≤ s.heap.size := ⟨s0, hs0, Nat.le_refl _⟩
 obtain ⟨fa0, fa2, fa3, fa1, fa16, _⟩ := form_args h.form
 have hvl := h.vl
 have hno := g.no
 have hbm := g.bm
 unfold rI at hc
 have hpos : i.op = 14 → 0 < vs.length := fun e => by
  have := (form_zero h.form).choose_spec.2.2.1 e
  omega
 refine enter Try.func112 rfl Try.ntmps112 rfl hc (zen ?_)
 unfold inC
 apply W.sr
 apply OL.box; rfl; rfl; exact CellsL.agg; (intro bk hbk; have hbk0 := hbk.mem s0 hs0)
 apply OL.alloc; rfl; rfl; exact CellsL.agg; (intro bk hbk; have hbk0 := hbk.mem s0 hs0)
 refine zgw ?_
 rename_i b4 hb4 hb40
 revert hbk0
 revert bk
 intro b6 hb6 hb60
 (((first | apply OL.op | apply QL.op); exact Guard.au; rfl; rfl); (exact Pev.call (v := .bool true) rfl (by exact Args.au) (fun _ w2 hw2 => (kinds_calls fns bm y.m i iy h.form _ _ cap h.vl w2 (h.inq.arr hw2 (by exact mau)) (fun j v hj => by rw [add_mid, blk_cell (hw2.item (show blk bm 110 y.m.c ∈ _ from by exact mau)), Nat.zero_add]; exact hj) (hw2.lt (blk bm 110 y.m.c) (by exact mau) _ rfl) (g.hu.at hw2 hs0 (g.no2 hb60 hb40)) g.nF (fun h14 hk => one_clo h g.hU (hpos h14) hk)).mono (fun e w3 hh => ⟨by rw [hh.1, hz], hw2.ext hh.2⟩))))
 refine zgw ?_
 refine OL.callE (α := PV × YS) (fun z => .agg #[.int .i64 z.1.k, .int .i64 z.1.n, .slice z.1.q z.1.l.length z.1.cap]) (fun z => OneR (insP i.op i.n svs sA y.out) y z.2 z.1) (fun z => Cls (blk b6 113 [.int .i64 0, .int .i64 0, .slice none 0 0] :: blk b4 85 [.int .i64 i.to_, .int .i64 i.op, .int .i64 i.n, .slice iy.1 i.args.length iy.2] :: rI s0.heap.size bm z.2 H) S) rfl rfl (by exact Args.au) (fun w2 hw2 => (eff_all bm _ _ i iy y sA vs svs q cap h hop hz _ S s0 hs0 w2 (two_in hw2)).mono fun e w3 ⟨v, y', h1, h2, h3⟩ => ⟨(v, y'), h1, h2, two_out h3⟩) ?_
 rintro ⟨v, y'⟩ hR
 simp only at hR ⊢
 refine zgw ?_
 exact At.finC (b := b6) (cs := [.int .i64 v.k, .int .i64 v.n, .slice v.q v.l.length v.cap]) rfl rfl (by exact mau) rfl rfl (fun w' hw' => ⟨v, y', rfl, hR, drop2 hb6 hb4 hw'⟩)
theorem zip_er {n : Int} : ∀ {l m : List PV} {a b : List SV}, Ers rN l a → Ers rN m b → Ers rN (List.zipWith (fun x z => pw (binV n x.n z.n)) l m) (List.zipWith (fun x z => wV (binV n x.n z.n)) a b)
 | [], _, [], _, _, _ => Ers.nil
 | _ :: _, [], _ :: _, [], _, _ => Ers.nil
 | p :: l, u :: m, a :: as', b :: bs', h, k => by
  simp only [Ers] at h k
  rw [List.zipWith_cons_cons, List.zipWith_cons_cons]
  refine Ers.cons ?_ (zip_er h.2 k.2)
  rw [← h.1.nr, ← k.1.nr]
  exact erwr _
 | [], _, _ :: _, _, h, _ => by simp only [Ers] at h
 | _ :: _, _, [], _, h, _ => by simp only [Ers] at h
 | _ :: _, [], _ :: _, _ :: _, _, k => by simp only [Ers] at k
 | _ :: _, _ :: _, _ :: _, [], _, k => by simp only [Ers] at k
theorem one_vec (bm : Nat) (fns : List (Go.Ss.Fn × FnY)) (i : Go.Ss.In) (iy : Sc) (y : YS) (sA : List (List SV)) (vs : List PV) (svs : List SV) (q : Option Addr) (cap : Nat) (h : OneH fns.length i y sA vs svs q cap) (hop : i.op = 23) (hz : kindP (fns.map Prod.fst) i vs = true) (H : List Eng.Item) (S : List World) (s0 : World) (g : OneG fns bm y H s0) (hs0 : s0 ∈ S) (w : World)
  (hc : Cls (rI s0.heap.size bm y H) S w) : OneS 112 bm i iy y sA vs svs q cap H S s0 w := by
 have hbs : ∃ s ∈ S, s0.heap.size ≤ s.heap.size := ⟨s0, hs0, Nat.le_refl _⟩
 obtain ⟨fa0, fa2, fa3, fa1, fa16, _⟩ := form_args h.form
 have hvl := h.vl
 have hno := g.no
 have hbm := g.bm
 unfold rI at hc
 obtain ⟨p0, p1, v0, v1, rfl, rfl, he0, he1⟩ := h.er.two (by omega)
 have hpos : i.op = 14 → 0 < ([p0, p1]).length := fun e => by omega
 have hz2 : p0.k = 4 ∧ p1.k = 4 ∧ p0.l.length = p1.l.length := by
  have := hz
  unfold kindP kindT at this
  simp only [hop] at this
  simp at this
  omega
 obtain ⟨qa, rfl⟩ := h.adr (hc.item (by exact mau)) (by simp)
 have hp0 := fun w' hp => h.at_ 0 rfl rfl (B := s0.heap.size) w' hp
 have hp1 := fun w' hp => h.at_ 1 rfl rfl (B := s0.heap.size) w' hp
 have hn := (num_range h.form).2 hop
 have hP := hc.item (show pool (pvR rF) s0.heap.size y.Op y.L ∈ _ by exact mau)
 have hI0 := h.kid (p := p0) (by simp)
 have hI1 := h.kid (p := p1) (by simp)
 have hl16 := (hI0.ok hP).len
 have hwk : ∀ {p : PV} {v : SV}, v ∈ [v0, v1] → Er rN p v → p.k = 4 → ∀ (j : Nat) c, p.l[j]? = some c → -1073741824 ≤ c.n ∧ c.n ≤ 1073741823 := fun {p v} hv he hk j c hc => by
  obtain ⟨u, hu, heu⟩ := he.l.get hc
  have hm := List.mem_of_getElem? hu
  rw [heu.nr]
  exact ((h.wf v hv).kids u hm).word ((h.wf v hv).vec (by rw [← he.k]; exact hk) u hm)
 obtain ⟨l, hl⟩ : ∃ l, List.zipWith (fun x z => pw (binV i.n x.n z.n)) p0.l p1.l = l := ⟨_, rfl⟩
 have hll : l.length = p0.l.length := by rw [← hl, List.length_zipWith]; omega
 have hlg : ∀ (j : Nat) c d, p0.l[j]? = some c → p1.l[j]? = some d → l[j]? = some (pw (binV i.n c.n d.n)) := fun j c d hc hd => by
  rw [← hl, List.getElem?_zipWith, hc, hd]
 have hr : insP i.op i.n [v0, v1] sA y.out = .ok (.mk 4 0 (List.zipWith (fun x z => wV (binV i.n x.n z.n)) v0.l v1.l)) sA y.out 0 := by
  rw [hop]
  show (if allK 4 [v0, v1] = false ∨ v0.l.length ≠ v1.l.length then Rs.trap 5 else .ok (.mk 4 0 (List.zipWith (fun x z => wV (binV i.n x.n z.n)) v0.l v1.l)) sA y.out 0) = _
  rw [if_neg]
  simp [allK, ← he0.k, ← he1.k, ← he0.l.len, ← he1.l.len, hz2.1, hz2.2.1, hz2.2.2]
 have hzl : Ers rN l (List.zipWith (fun x z => wV (binV i.n x.n z.n)) v0.l v1.l) := by
  rw [← hl]
  exact zip_er he0.l he1.l
 unfold OneS
 rw [hr]
 refine enter Try.func112 rfl Try.ntmps112 rfl hc (zen ?_)
 unfold inC
 apply W.sr
 apply OL.box; rfl; rfl; exact CellsL.agg; (intro bk hbk; have hbk0 := hbk.mem s0 hs0)
 apply OL.alloc; rfl; rfl; exact CellsL.agg; (intro bk hbk; have hbk0 := hbk.mem s0 hs0)
 refine zgw ?_
 rename_i b4 hb4 hb40
 revert hbk0
 revert bk
 intro b6 hb6 hb60
 (((first | apply OL.op | apply QL.op); exact Guard.au; rfl; rfl); (exact Pev.call (v := .bool true) rfl (by exact Args.au) (fun _ w2 hw2 => (kinds_calls fns bm y.m i iy h.form _ _ cap h.vl w2 (h.inq.arr hw2 (by exact mau)) (fun j v hj => by rw [add_mid, blk_cell (hw2.item (show blk bm 110 y.m.c ∈ _ from by exact mau)), Nat.zero_add]; exact hj) (hw2.lt (blk bm 110 y.m.c) (by exact mau) _ rfl) (g.hu.at hw2 hs0 (g.no2 hb60 hb40)) g.nF (fun h14 hk => one_clo h g.hU (hpos h14) hk)).mono (fun e w3 hh => ⟨by rw [hh.1, hz], hw2.ext hh.2⟩))))
 refine zgw ?_
 apply OL.alloc; rfl; rfl; exact CellsL.agg; (intro bk hbk; have hbk0 := hbk.mem s0 hs0)
 refine zgw ?_
 revert bk
 intro b7 hb7 hb70
 refine W.cls (fun w' hw' => hw'.row_nil s0.heap.size 113 3) ?_
 refine W.loop (G := Nat × (Nat → Prop) × Option Addr × Nat) (fun g => g.1 ≤ p0.l.length) (fun g => p0.l.length - g.1)
  (fun g => [(2, true, .slice (some qa) [p0, p1].length cap), (4, true, .pointer (some ⟨b4, 0, none⟩)), (6, true, .pointer (some ⟨b6, 0, none⟩)), (7, true, .pointer (some ⟨b7, 0, none⟩)), (128, true, .slice p0.q p0.l.length p0.cap), (129, true, .int .i64 (p0.l.length : Int)), (130, true, .int .i64 (g.1 : Int))])
  (fun g => Cls (row s0.heap.size g.2.1 g.2.2.1 g.1 g.2.2.2 113 3 (cat rC (l.take g.1)) :: blk b7 113 [.int .i64 4, .int .i64 0, .slice g.2.2.1 g.1 g.2.2.2] :: blk b6 113 [.int .i64 0, .int .i64 0, .slice none 0 0] :: blk b4 85 [.int .i64 i.to_, .int .i64 i.op, .int .i64 i.n, .slice iy.1 i.args.length iy.2] :: blk bm 110 y.m.c :: row s0.heap.size y.Oo y.m.qo y.m.no y.m.co 3 1 (ints y.out) :: row s0.heap.size y.Oa y.m.qa y.m.na y.m.ca 111 1 (y.A.map RA.v) :: pool (pvR rF) s0.heap.size y.Op y.L :: bag s0.heap.size (y.A.map (raI s0.heap.size)) :: H) S) (0, fun _ => False, none, 0) (Nat.zero_le _) (by exact Sub.au) (fun w' hw' => hw') ?_
 rintro ⟨j, O, q, cp⟩ hj
 simp only at hj ⊢
 refine zgw ?_
 refine W.cnd ?_ ?_ <;> intro hlt <;> try exact zwx hlt
 ·obtain ⟨a0, ha0⟩ := hI0.some hP (by omega)
  obtain ⟨a1, ha1⟩ := hI1.some hP (by omega)
  obtain ⟨c, hcc⟩ : ∃ c, p0.l[j]? = some c := ⟨_, List.getElem?_eq_getElem (by omega)⟩
  obtain ⟨d, hdd⟩ : ∃ d, p1.l[j]? = some d := ⟨_, List.getElem?_eq_getElem (by omega)⟩
  have hlj := hlg j c d hcc hdd
  have hbc := hwk (by simp) he0 hz2.1 j c hcc
  have hbd := hwk (by simp) he1 hz2.2.1 j d hdd
  have hp0 : ∀ w', (pool (pvR rF) s0.heap.size y.Op y.L).holds w' → CellsAt w' (a0.add ((j : Int).toNat * 3)) [.int .i64 c.k, .int .i64 c.n, .slice c.q c.l.length c.cap] := fun w' hp => by rw [Int.toNat_natCast]; exact hI0.cells hp ha0 hcc
  have hp2 : ∀ w', (pool (pvR rF) s0.heap.size y.Op y.L).holds w' → CellsAt w' (a1.add ((j : Int).toNat * 3)) (rC d) := fun w' hp => by rw [Int.toNat_natCast]; exact hI1.cells hp ha1 hdd
  have hp1 : ∀ w', (pool (pvR rF) s0.heap.size y.Op y.L).holds w' → CellsAt w' (qa.add (1 * 3)) [.int .i64 p1.k, .int .i64 p1.n, .slice (some a1) p1.l.length p1.cap] := fun w' hp => by rw [← ha1]; exact hp1 w' hp
  rw [ha0]
  refine zgw ?_
  apply OL.alloc; rfl; rfl; exact CellsL.agg; (intro bk hbk; have hbk0 := hbk.mem s0 hs0)
  refine zgw ?_
  apply W.regz; apply ZSplit.pure rfl; apply ZSplit.pure rfl; apply ZSplit.pure rfl; apply ZSplit.pure rfl; apply ZSplit.pure rfl; apply ZSplit.pure rfl; apply ZSplit.pure rfl; apply ZSplit.pure rfl; apply ZSplit.pure rfl; apply ZSplit.pure rfl; apply ZSplit.pure rfl; apply ZSplit.pure rfl; apply ZSplit.pure rfl; apply ZSplit.pure rfl; apply ZSplit.tail; apply ZSplit.tail; apply ZSplit.tail; apply ZSplit.tail; apply ZSplit.tail; apply ZSplit.tail; exact ZSplit.nil; kernel_rfl; decide +kernel; exact fun w hw => hw.drew
  refine zgw ?_
  (((first | apply OL.op | apply QL.op); exact Guard.au; rfl; rfl); (exact Pev.call rfl (by exact Args.au) (fun _ w2 hw2 => (rcomp_calls i.n c.n d.n (by omega) hbc hbd (fun e => by omega) w2).mono (fun e w3 h => ⟨h.1, hw2.ext h.2⟩))))
  refine zgw ?_
  apply OL.buildSlice; rfl; rfl; rfl; exact Elems.au; rfl; rfl; (intro bk hbk; have hbk0 := hbk.mem s0 hs0)
  apply OL.nil
  refine At.tk (fun w hw => hw.thin ?_) ?_; exact Thin.au
  refine zgw ?_
  apply OL.append; rfl; rfl; rfl; rfl; exact Hole.au; exact .head _; exact Take.au; rfl; rfl; assumption; omega; intro O1 g1 cap1
  refine zgw ?_
  rename_i bx hbx _
  refine At.again (j + 1, O1, some ⟨g1, 0, none⟩, cap1) (by simp only; omega) (by simp only; omega) (by exact Sub.au) (fun w' hw' => ?_)
  simp only
  rw [take_snoc hlj, cat_append, cat_one]
  exact hw'.thin (.any (fun k hk => by rw [show k = bk from hk]; exact hbk) (.any (fun k hk => by rw [show k = bx from hk]; exact hbx) Thin.same))
 obtain rfl : j = p0.l.length := by omega
 rw [← hll, List.take_length]
 refine zgw ?_
 refine At.finC (b := b6) (cs := [.int .i64 4, .int .i64 0, .slice q l.length cp]) rfl rfl (by exact mau) rfl rfl (fun w' hw' => ?_)
 have h1 := hw'.perm (.cons _ (List.Perm.refl _))
 have h2 : Cls (row s0.heap.size O q l.length cp 113 3 (cat rC l) :: rI s0.heap.size bm y H) S w' := hw'.thin (.keep (.any (fun k hk => by rw [show k = b7 from hk]; exact hb7) (.any (fun k hk => by rw [show k = b6 from hk]; exact hb6) (.any (fun k hk => by rw [show k = b4 from hk]; exact hb4) Thin.same))))
 have h3 := join_row 4 0 0 (Nat.le_refl _) h2 rfl (by omega) (fun p hp => by
  rw [← hl] at hp
  obtain ⟨_, _, rfl⟩ := zipPV hp
  exact inq_pw)
 exact ⟨.mk 4 0 q cp 0 l, _, rfl, .inr ⟨Nat.zero_le _, h.ok.push _ _, rfl, RSame.refl _, rfl, Er.of rfl hzl, fun r hr => List.mem_append_left _ hr, .of .last⟩, h3⟩
end Go.Proofs.Ytehelljmaiophaa.ss



/- Plain: a function without fault: what it uses and defines lies below its fresh number. No program in sight. No condition. -/
namespace Go.Ss
open Go.Eng Go.RowKit
theorem func_uses {f : Go.Ss.Fn} (h : funcE f = 0) : ∀ (k : Nat) b, f.blocks[k]? = some b → UsesB f.blocks k b := by
 unfold funcE at h
 split at h
 ·cases h
 ·split at h
  ·cases h
  ·split at h
   ·cases h
   ·split at h
    ·rename_i h4; exact absurd h h4
    ·split at h
     ·assumption
     ·cases h
theorem wmax_in {a v : Int} (h : 0 ≤ v ∧ v ≤ 4095) : wmax a v = max a (v + 1) := by
 unfold wmax
 rw [IntWalk.i64_in _ (by omega)]
 split <;> omega
theorem foldw : ∀ {l : List Int} {a : Int}, (∀ v ∈ l, 0 ≤ v ∧ v ≤ 4095) → a ≤ l.foldl wmax a ∧ (∀ v ∈ l, v < l.foldl wmax a) ∧ (a ≤ 4096 → l.foldl wmax a ≤ 4096)
 | [], a, _ => ⟨Int.le_refl _, fun v hv => (by cases hv), fun h => h⟩
 | v :: l, a, h => by
  have h0 := h v (.head _)
  obtain ⟨h1, h2, h3⟩ := foldw (l := l) (a := wmax a v) fun u hu => h u (.tail _ hu)
  rw [List.foldl_cons]
  rw [wmax_in h0] at h1 h2 h3 ⊢
  refine ⟨by omega, fun u hu => ?_, fun ha => h3 (by omega)⟩
  rcases List.mem_cons.1 hu with rfl | hu
  ·omega
  ·exact h2 u hu
theorem freshB_eq (a : Int) (b : Bk) : freshB a b = (defsB b).foldl wmax a := by
 unfold freshB defsB
 rw [List.foldl_append]
theorem freshF_eq (bs : List Bk) : freshF bs = (defsF bs).foldl wmax 0 := by
 unfold freshF
 have key : ∀ (l : List Bk) (a : Int), l.foldl freshB a = (defsF l).foldl wmax a := by
  intro l
  induction l with
  | nil => exact fun a => rfl
  | cons b l ih =>
   intro a
   rw [List.foldl_cons, ih, freshB_eq]
   show _ = (defsB b ++ defsF l).foldl wmax a
   rw [List.foldl_append]
 exact key bs 0
theorem defs_small {bs : List Bk} (h : shapeE bs = 0) : ∀ v ∈ defsF bs, 0 ≤ v ∧ v ≤ 4095 := by
 intro v hv
 obtain ⟨b, hb, hv⟩ := List.mem_flatMap.1 hv
 obtain ⟨k, hk⟩ := List.getElem?_of_mem hb
 obtain ⟨h1, h2, _⟩ := block_zero (shape_block h hk)
 rcases List.mem_append.1 hv with hv | hv
 ·obtain ⟨j, hj⟩ := List.getElem?_of_mem hv
  have h3 := firstR_zero.1 h1 j (List.getElem?_eq_some_iff.1 hj).1
  rw [paramE_at hj] at h3
  have := def_zero h3
  exact ⟨this.1, this.2.1⟩
 ·obtain ⟨i, hi, rfl⟩ := List.mem_map.1 hv
  obtain ⟨j, hj⟩ := List.getElem?_of_mem hi
  have h3 := firstR_zero.1 h2 j (List.getElem?_eq_some_iff.1 hj).1
  rw [insE_at hj] at h3
  split at h3
  ·rename_i h4; exact absurd h3 h4
  ·rename_i h4
   have := def_zero (Classical.not_not.1 h4)
   exact ⟨this.1, this.2.1⟩
theorem fresh_bounds {bs : List Bk} (h : shapeE bs = 0) : 0 ≤ freshF bs ∧ freshF bs ≤ 4096 ∧ ∀ v ∈ defsF bs, 0 ≤ v ∧ v < freshF bs := by
 rw [freshF_eq]
 obtain ⟨h1, h2, h3⟩ := foldw (a := 0) (defs_small h)
 exact ⟨h1, h3 (by omega), fun v hv => ⟨(defs_small h v hv).1, h2 v hv⟩⟩
theorem defAt_mem {bs : List Bk} {v : Int} {b a : Nat} (h : DefAt bs v b a) : v ∈ defsF bs := by
 obtain ⟨x, hx, h⟩ := h
 refine List.mem_flatMap.2 ⟨x, List.mem_of_getElem? hx, ?_⟩
 rcases h with ⟨_, h⟩ | ⟨j, i, _, hi, rfl⟩
 ·exact List.mem_append_left _ h
 ·exact List.mem_append_right _ (List.mem_map.2 ⟨i, List.mem_of_getElem? hi, rfl⟩)
end Go.Ss

/- Plain: the slots of a call of the reference, and its bounds. No program in sight. No condition. -/
namespace Go.Ss
open Go.Eng
structure VOk (L : List (PV × Unit)) (vp : List PV) (f : Int → SV) : Prop where
 er : ∀ k : Nat, k < vp.length → Er rN (vp.getD k zP) (f (k : Int))
 inq : ∀ p ∈ vp, InQ L p
section
variable {L M : List (PV × Unit)} {vp : List PV} {f : Int → SV}
theorem VOk.more (h : VOk L vp f) (hs : ∀ r, r ∈ L → r ∈ M) : VOk M vp f := ⟨h.er, fun p hp => (h.inq p hp).more hs⟩
theorem VOk.new (m : Nat) : VOk L (List.replicate m zP) (fun _ => zV) := ⟨fun k hk => by
 rw [List.getD_eq_getElem?_getD, List.getElem?_replicate]
 split <;> exact rN.z, fun p hp => by
 rw [List.eq_of_mem_replicate hp]
 exact .inl rfl⟩
theorem VOk.at_ (h : VOk L vp f) {v : Int} (h0 : 0 ≤ v) (hl : v.toNat < vp.length) : ∃ p, vp[v.toNat]? = some p ∧ Er rN p (f v) ∧ InQ L p := by
 have h1 := h.er v.toNat hl
 rw [show ((v.toNat : Nat) : Int) = v by omega, List.getD_eq_getElem?_getD, List.getElem?_eq_getElem hl] at h1
 exact ⟨_, List.getElem?_eq_getElem hl, h1, h.inq _ (List.getElem_mem hl)⟩
theorem VOk.set (h : VOk L vp f) {p : Int} {x : PV} {v : SV} (h0 : 0 ≤ p) (he : Er rN x v) (hi : InQ L x) : VOk L (vp.set p.toNat x) (setV f p v) := by
 refine ⟨fun k hk => ?_, fun u hu => ?_⟩
 ·rw [List.length_set] at hk
  rw [List.getD_eq_getElem?_getD, List.getElem?_set]
  unfold setV
  by_cases e : p.toNat = k
  ·rw [if_pos e, if_pos (by omega), if_pos (by omega)]
   exact he
  ·rw [if_neg e, if_neg (by omega)]
   have := h.er k hk
   rwa [List.getD_eq_getElem?_getD] at this
 ·rcases List.mem_or_eq_of_mem_set hu with hu | rfl
  ·exact h.inq u hu
  ·exact hi
def argsP (vp : List PV) (l : List Int) : List PV := l.map fun v => vp.getD v.toNat zP
theorem argsP_get {l : List Int} {j : Nat} {v : Int} {p : PV} (h : l[j]? = some v) (hp : vp[v.toNat]? = some p) : (argsP vp l)[j]? = some p := by
 unfold argsP
 rw [List.getElem?_map, h, Option.map_some, List.getD_eq_getElem?_getD, hp]
 rfl
theorem VOk.args (h : VOk L vp f) {l : List Int} (hl : ∀ v ∈ l, 0 ≤ v ∧ v.toNat < vp.length) : Ers rN (argsP vp l) (l.map f) := Ers.map _ _ fun v hv => by
 obtain ⟨p, h1, h2, _⟩ := h.at_ (hl v hv).1 (hl v hv).2
 rw [List.getD_eq_getElem?_getD, h1]
 exact h2
theorem VOk.argsI (h : VOk L vp f) {l : List Int} : ∀ p ∈ argsP vp l, InQ L p := fun p hp => by
 obtain ⟨v, _, rfl⟩ := List.mem_map.1 hp
 rw [List.getD_eq_getElem?_getD]
 cases hv : vp[v.toNat]? with
 | none => exact .inl rfl
 | some q => exact h.inq q (List.mem_of_getElem? hv)
end
structure SlB (bs : List Bk) (m : Nat) : Prop where
 par : ∀ b ∈ bs, ∀ v ∈ b.params, 0 ≤ v ∧ v.toNat < m
 to_ : ∀ b ∈ bs, ∀ i ∈ b.ins, 0 ≤ i.to_ ∧ i.to_.toNat < m
 arg : ∀ b ∈ bs, ∀ i ∈ b.ins, ∀ v ∈ i.args, 0 ≤ v ∧ v.toNat < m
 term : ∀ b ∈ bs, ∀ v ∈ operT b.term, 0 ≤ v ∧ v.toNat < m
theorem slB_of {f : Fn} (h : funcE f = 0) : SlB f.blocks ((freshF f.blocks).toNat + 1) ∧ 0 ≤ freshF f.blocks ∧ freshF f.blocks ≤ 4096 := by
 obtain ⟨_, _, hs⟩ := func_zero h
 have hu := func_uses h
 obtain ⟨h0, h4, hd⟩ := fresh_bounds hs
 have hf : ∀ {v : Int} {k a : Nat}, Fine f.blocks v k a → 0 ≤ v ∧ v.toNat < (freshF f.blocks).toNat + 1 := fun {v k a} hf => by
  obtain ⟨b, a, h1, _⟩ := hf
  have := hd v (defAt_mem h1)
  omega
 refine ⟨⟨fun b hb v hv => ?_, fun b hb i hi => ?_, fun b hb i hi v hv => ?_, fun b hb v hv => ?_⟩, h0, h4⟩
 ·have := hd v (List.mem_flatMap.2 ⟨b, hb, List.mem_append_left _ hv⟩)
  omega
 ·have := hd i.to_ (List.mem_flatMap.2 ⟨b, hb, List.mem_append_right _ (List.mem_map.2 ⟨i, hi, rfl⟩)⟩)
  omega
 ·obtain ⟨k, hk⟩ := List.getElem?_of_mem hb
  obtain ⟨n, hn⟩ := List.getElem?_of_mem hi
  exact hf ((hu k b hk).1 n i hn v hv)
 ·obtain ⟨k, hk⟩ := List.getElem?_of_mem hb
  exact hf ((hu k b hk).2 v hv)
theorem edge_args {t : Tm} {e : Ed} (he : e ∈ t.to_) {v : Int} (hv : v ∈ e.args) : v ∈ operT t := by
 unfold operT
 exact List.mem_append_right _ (List.mem_flatMap.2 ⟨e, he, hv⟩)
theorem arg_in {t : Tm} (h : t.kind = 0 ∨ t.kind = 2 ∨ t.kind = 3) : t.arg ∈ operT t := by
 unfold operT
 rw [if_pos h]
 exact List.mem_append_left _ (.head _)
end Go.Ss

/- The walk of the reference's one at calls, and what it does at any instruction. Conditions: none. -/
namespace Go.Ss
open Go.Eng Go.RowKit
def CallR (r : CR) (y y' : YS) (v : PV) : Prop := match r with
 | .ret sv A out left => YOk y' A ∧ y'.out = out ∧ RSame y.m y'.m ∧ y'.left = left ∧ Er rN v sv ∧ (∀ r ∈ y.L, r ∈ y'.L) ∧ InQ y'.L v
 | .fin f => EndY f y' ∧ RSame y.m y'.m
structure CallH (fs : List Fn) (y : YS) (sA : List (List SV)) (fn : Int) (vs : List PV) (svs : List SV) (q : Option Addr) (cap : Nat) : Prop where
 ok : YOk y sA
 f0 : 0 ≤ fn
 fl : fn < (fs.length : Int)
 pl : (parB fs fn.toNat 0).length = vs.length
 er : Ers rN vs svs
 inq : InQ y.L (.mk 0 0 q cap 0 vs)
 wf : ∀ v ∈ svs, WfV fs.length sA.length v
 ar : ∀ l ∈ sA, ∀ v ∈ l, WfV fs.length sA.length v
 al : ∀ l ∈ sA, l.length ≤ 1024
def appB (fs : List Fn) (svs : List SV) : Prop := (svs.getD 0 zV).k = 2 ∧ (parB fs (svs.getD 0 zV).n.toNat 0).length = svs.length
def InsR (fs : List Fn) (i : Go.Ss.In) (svs : List SV) (sA : List (List SV)) (y y' : YS) (v : PV) : Prop :=
 (i.op ≠ 13 ∧ i.op ≠ 14 ∧ OneR (insP i.op i.n svs sA y.out) y y' v) ∨
 (∃ fn r, ((i.op = 13 ∧ fn = i.n) ∨ (i.op = 14 ∧ appB fs svs ∧ fn = (svs.getD 0 zV).n)) ∧ RunsN fs fn svs sA y.out y.left r ∧ CallR r y y' v) ∨
 (i.op = 14 ∧ ¬ appB fs svs ∧ EndY (.done 5 0 y.out y.left) y' ∧ RSame y.m y'.m)
theorem InsR.go {fs : List Fn} {i : Go.Ss.In} {f : Int → SV} {sA : List (List SV)} {y y' : YS} {v : PV} {fn k a : Nat} (hU : UOk fs) {l0 : Nat} (hs : St fs fn k a f sA y.out l0) (hi : (bkA fs fn k).ins[a]? = some i) (h : InsR fs i (i.args.map f) sA y y' v) :
  (∃ g, EndY g y' ∧ RSame y.m y'.m ∧ RunsT fs fn k a f sA y.out (y.left + 1) (.fin g)) ∨
  (∃ A' sv, YOk y' A' ∧ RSame y.m y'.m ∧ Er rN v sv ∧ (∀ r ∈ y.L, r ∈ y'.L) ∧ InQ y'.L v ∧ y'.left ≤ y.left ∧ St fs fn k (a + 1) (setV f i.to_ sv) A' y'.out y'.left ∧ ∀ r, RunsT fs fn k (a + 1) (setV f i.to_ sv) A' y'.out y'.left r → RunsT fs fn k a f sA y.out (y.left + 1) r) := by
 rcases h with ⟨h13, h14, h⟩ | ⟨fn2, r, hc, hr, h⟩ | ⟨h14, hb, h1, h2⟩
 ·cases hq : insP i.op i.n (i.args.map f) sA y.out with
  | trap t =>
   rw [hq] at h
   exact .inl ⟨_, h.1, h.2, RunsT.ins_trap hi h13 h14 hq⟩
  | ok sv A' out' c =>
   rw [hq] at h
   rcases h with ⟨h1, h2, h3⟩ | ⟨h1, h2, h3, h4, h5, h6, h7, h8⟩
   ·exact .inl ⟨_, h2, h3, RunsT.ins_short hi h13 h14 hq h1⟩
   ·refine .inr ⟨A', sv, h2, h4, h6, h7, h8, by omega, ?_, fun r hr => ?_⟩
    ·rw [h3]; exact hs.ins_ok hU hi h13 h14 hq _
    ·rw [h3, h5] at hr; exact RunsT.ins_ok hi h13 h14 hq h1 hr
 ·have hst : ∀ K t, stepP fs ⟨⟨fn, k, a, t, f⟩ :: K, sA, y.out, y.left + 1⟩ = .next ⟨newF fs fn2 (i.args.map f) i.to_ :: ⟨fn, k, a + 1, t, f⟩ :: K, sA, y.out, y.left⟩ := by
   rcases hc with ⟨h13, rfl⟩ | ⟨h14, hk, rfl⟩
   ·exact RunsT.ins_call hi h13
   ·exact RunsT.ins_app hi h14 ⟨hk.1, by rw [hk.2, List.length_map]⟩
  cases r with
  | ret sv A' out' left' =>
   obtain ⟨h1, h2, h3, h4, h5, h6, h7⟩ := h
   refine .inr ⟨A', sv, h1, h3, h5, h6, h7, ?_, ?_, fun r hr2 => ?_⟩
   ·have := hr.le
    omega
   ·rw [h2, h4]; exact hs.call hU hst hr
   ·rw [h2, h4] at hr2; exact RunsT.call_ret hst hr hr2
  | fin g => exact .inl ⟨g, h.1, h.2, RunsT.call_fin hst hr⟩
 ·exact .inl ⟨_, h1, h2, RunsT.app_bad hi h14 (fun hk => hb ⟨hk.1, by rw [hk.2, List.length_map]⟩)⟩
end Go.Ss
namespace Go.Proofs.Ytehelljmaiophaa.ss
set_option maxRecDepth 100000
open Go.Eng Go.RowKit Go.Ss
def CallS (fns : List (Go.Ss.Fn × FnY)) (bm : Nat) (s0 : World) (n : Nat) : Prop := ∀ (y : YS) (sA : List (List SV)) (fn : Int) (vs : List PV) (svs : List SV) (q : Option Addr) (cap : Nat) (H : List Eng.Item) (S : List World) (w : World), y.left = n → CallH (fns.map Prod.fst) y sA fn vs svs q cap → OneG fns bm y H s0 → s0 ∈ S → Cls (rI s0.heap.size bm y H) S w →
 Calls Try.prog 71 [.pointer (some ⟨bm, 0, none⟩), .int .i64 fn, .slice q vs.length cap].toArray w fun e w' => ∃ v y' r, e = .returned (.agg (rC v).toArray) ∧ RunsN (fns.map Prod.fst) fn svs sA y.out n r ∧ CallR r y y' v ∧ Cls (rI s0.heap.size bm y' H) S w'
def OneI (fns : List (Go.Ss.Fn × FnY)) (bm : Nat) (i : Go.Ss.In) (iy : Sc) (y : YS) (sA : List (List SV)) (vs : List PV) (svs : List SV) (q : Option Addr) (cap : Nat) (H : List Eng.Item) (S : List World) (s0 w : World) : Prop :=
 Calls Try.prog 112 [.pointer (some ⟨bm, 0, none⟩), .agg (inC i iy).toArray, .slice q vs.length cap].toArray w fun e w' => ∃ v y', e = .returned (.agg (rC v).toArray) ∧ InsR (fns.map Prod.fst) i svs sA y y' v ∧ Cls (rI s0.heap.size bm y' H) S w'
theorem OneS.toI {fns : List (Go.Ss.Fn × FnY)} {bm : Nat} {i : Go.Ss.In} {iy : Sc} {y : YS} {sA : List (List SV)} {vs : List PV} {svs : List SV} {q : Option Addr} {cap : Nat} {H : List Eng.Item} {S : List World} {s0 w : World} (h13 : i.op ≠ 13) (h14 : i.op ≠ 14) (h : OneS 112 bm i iy y sA vs svs q cap H S s0 w) : OneI fns bm i iy y sA vs svs q cap H S s0 w :=
 Calls.mono h fun e w' ⟨v, y', h1, h2, h3⟩ => ⟨v, y', h1, .inl ⟨h13, h14, h2⟩, h3⟩
theorem num13 {i : Go.Ss.In} (h : formE i = 0) (ho : i.op = 13) : 0 ≤ i.n := by
 obtain ⟨_, _, _, _, _, _, h6⟩ := form_zero h
 unfold numB at h6
 rw [if_neg (by omega), if_pos (by omega)] at h6
 simp only [Bool.and_eq_true, decide_eq_true_eq] at h6
 exact h6.1
theorem one_call (bm : Nat) (fns : List (Go.Ss.Fn × FnY)) (i : Go.Ss.In) (iy : Sc) (y : YS) (sA : List (List SV)) (vs : List PV) (svs : List SV) (q : Option Addr) (cap : Nat) (ar : ∀ l ∈ sA, ∀ v ∈ l, WfV fns.length sA.length v) (al : ∀ l ∈ sA, l.length ≤ 1024) (h : OneH fns.length i y sA vs svs q cap) (hop : i.op = 13) (hin : InsOk (fns.map Prod.fst) i) (hz : kindP (fns.map Prod.fst) i vs = true) (H : List Eng.Item) (S : List World) (s0 : World) (g : OneG fns bm y H s0) (ih : CallS fns bm s0 y.left) (hs0 : s0 ∈ S) (w : World)
  (hc : Cls (rI s0.heap.size bm y H) S w) : OneI fns bm i iy y sA vs svs q cap H S s0 w := by
 have hbs : ∃ s ∈ S, s0.heap.size ≤ s.heap.size := ⟨s0, hs0, Nat.le_refl _⟩
 obtain ⟨fa0, fa2, fa3, fa1, fa16, _⟩ := form_args h.form
 have hvl := h.vl
 have hno := g.no
 have hbm := g.bm
 unfold rI at hc
 have hpos : i.op = 14 → 0 < vs.length := fun e => by
  have := (form_zero h.form).choose_spec.2.2.1 e
  omega
 have hn0 := num13 h.form hop
 unfold OneI
 refine enter Try.func112 rfl Try.ntmps112 rfl hc (zen ?_)
 unfold inC
 apply W.sr
 apply OL.box; rfl; rfl; exact CellsL.agg; (intro bk hbk; have hbk0 := hbk.mem s0 hs0)
 apply OL.alloc; rfl; rfl; exact CellsL.agg; (intro bk hbk; have hbk0 := hbk.mem s0 hs0)
 refine zgw ?_
 rename_i b4 hb4 hb40
 revert hbk0
 revert bk
 intro b6 hb6 hb60
 (((first | apply OL.op | apply QL.op); exact Guard.au; rfl; rfl); (exact Pev.call (v := .bool true) rfl (by exact Args.au) (fun _ w2 hw2 => (kinds_calls fns bm y.m i iy h.form _ _ cap h.vl w2 (h.inq.arr hw2 (by exact mau)) (fun j v hj => by rw [add_mid, blk_cell (hw2.item (show blk bm 110 y.m.c ∈ _ from by exact mau)), Nat.zero_add]; exact hj) (hw2.lt (blk bm 110 y.m.c) (by exact mau) _ rfl) (g.hu.at hw2 hs0 (g.no2 hb60 hb40)) g.nF (fun h14 hk => one_clo h g.hU (hpos h14) hk)).mono (fun e w3 hh => ⟨by rw [hh.1, hz], hw2.ext hh.2⟩))))
 refine zgw ?_
 refine OL.callE (α := PV × YS) (fun z => .agg #[.int .i64 z.1.k, .int .i64 z.1.n, .slice z.1.q z.1.l.length z.1.cap]) (fun z => ∃ r, RunsN (fns.map Prod.fst) i.n svs sA y.out y.left r ∧ CallR r y z.2 z.1) (fun z => Cls (blk b6 113 [.int .i64 0, .int .i64 0, .slice none 0 0] :: blk b4 85 [.int .i64 i.to_, .int .i64 i.op, .int .i64 i.n, .slice iy.1 i.args.length iy.2] :: rI s0.heap.size bm z.2 H) S) rfl rfl (by exact Args.au) (fun w2 hw2 => (ih y sA i.n _ _ _ _ _ S w2 rfl ⟨h.ok, hn0, by rw [List.length_map]; rw [← List.length_map (f := Prod.fst)]; exact (hin.call hop).1, by rw [(hin.call hop).2, h.vl], h.er, h.inq, by rw [List.length_map]; exact h.wf, by rw [List.length_map]; exact ar, al⟩ ⟨g.hu, g.nF, g.hU, g.bm, fun k hk => NotOwned.blk (by omega) (NotOwned.blk (by omega) (g.no k hk))⟩ hs0 (two_in hw2)).mono fun e w3 ⟨v, y', r, h1, h2, h3, h4⟩ => ⟨(v, y'), h1, ⟨r, h2, h3⟩, two_out h4⟩) ?_
 rintro ⟨v, y'⟩ ⟨r, hr1, hr2⟩
 simp only at hr2 ⊢
 refine zgw ?_
 exact At.finC (b := b6) (cs := [.int .i64 v.k, .int .i64 v.n, .slice v.q v.l.length v.cap]) rfl rfl (by exact mau) rfl rfl (fun w' hw' => ⟨v, y', rfl, .inr (.inl ⟨_, r, .inl ⟨hop, rfl⟩, hr1, hr2⟩), drop2 hb6 hb4 hw'⟩)
theorem one_app (bm : Nat) (fns : List (Go.Ss.Fn × FnY)) (i : Go.Ss.In) (iy : Sc) (y : YS) (sA : List (List SV)) (vs : List PV) (svs : List SV) (q : Option Addr) (cap : Nat) (ar : ∀ l ∈ sA, ∀ v ∈ l, WfV fns.length sA.length v) (al : ∀ l ∈ sA, l.length ≤ 1024) (h : OneH fns.length i y sA vs svs q cap) (hop : i.op = 14) (hz : kindP (fns.map Prod.fst) i vs = true) (H : List Eng.Item) (S : List World) (s0 : World) (g : OneG fns bm y H s0) (ih : CallS fns bm s0 y.left) (hs0 : s0 ∈ S) (w : World)
  (hc : Cls (rI s0.heap.size bm y H) S w) : OneI fns bm i iy y sA vs svs q cap H S s0 w := by
 have hbs : ∃ s ∈ S, s0.heap.size ≤ s.heap.size := ⟨s0, hs0, Nat.le_refl _⟩
 obtain ⟨fa0, fa2, fa3, fa1, fa16, _⟩ := form_args h.form
 have hvl := h.vl
 have hno := g.no
 have hbm := g.bm
 unfold rI at hc
 have hpos : i.op = 14 → 0 < vs.length := fun e => by
  have := (form_zero h.form).choose_spec.2.2.1 e
  omega
 have hv0 : 0 < vs.length := hpos hop
 obtain ⟨qa, rfl⟩ := h.adr (hc.item (by exact mau)) hv0
 have hg0 : vs[0]? = some (vs.getD 0 zP) := by
  rw [List.getD_eq_getElem?_getD, List.getElem?_eq_getElem hv0]
  rfl
 have hp0 := fun w' hp => h.at_ 0 hg0 rfl (B := s0.heap.size) w' hp
 have hz2 : (vs.getD 0 zP).k = 2 ∧ (parB (fns.map Prod.fst) (vs.getD 0 zP).n.toNat 0).length = vs.length := by
  have := hz
  unfold kindP kindT at this
  simpa [hop] using this
 have hcl := one_clo h g.hU hv0 hz2.1
 have he0 := h.er.getK 0
 have hnr := he0.nr
 generalize vs.getD 0 zP = p0 at *
 rw [hnr] at hcl hz2
 unfold OneI
 refine enter Try.func112 rfl Try.ntmps112 rfl hc (zen ?_)
 unfold inC
 apply W.sr
 apply OL.box; rfl; rfl; exact CellsL.agg; (intro bk hbk; have hbk0 := hbk.mem s0 hs0)
 apply OL.alloc; rfl; rfl; exact CellsL.agg; (intro bk hbk; have hbk0 := hbk.mem s0 hs0)
 refine zgw ?_
 rename_i b4 hb4 hb40
 revert hbk0
 revert bk
 intro b6 hb6 hb60
 (((first | apply OL.op | apply QL.op); exact Guard.au; rfl; rfl); (exact Pev.call (v := .bool true) rfl (by exact Args.au) (fun _ w2 hw2 => (kinds_calls fns bm y.m i iy h.form _ _ cap h.vl w2 (h.inq.arr hw2 (by exact mau)) (fun j v hj => by rw [add_mid, blk_cell (hw2.item (show blk bm 110 y.m.c ∈ _ from by exact mau)), Nat.zero_add]; exact hj) (hw2.lt (blk bm 110 y.m.c) (by exact mau) _ rfl) (g.hu.at hw2 hs0 (g.no2 hb60 hb40)) g.nF (fun h14 hk => one_clo h g.hU (hpos h14) hk)).mono (fun e w3 hh => ⟨by rw [hh.1, hz], hw2.ext hh.2⟩))))
 refine zgw ?_
 rw [hnr]
 refine OL.callE (α := PV × YS) (fun z => .agg #[.int .i64 z.1.k, .int .i64 z.1.n, .slice z.1.q z.1.l.length z.1.cap]) (fun z => ∃ r, RunsN (fns.map Prod.fst) (svs.getD 0 zV).n svs sA y.out y.left r ∧ CallR r y z.2 z.1) (fun z => Cls (blk b6 113 [.int .i64 0, .int .i64 0, .slice none 0 0] :: blk b4 85 [.int .i64 i.to_, .int .i64 i.op, .int .i64 i.n, .slice iy.1 i.args.length iy.2] :: rI s0.heap.size bm z.2 H) S) rfl rfl (by exact Args.au) (fun w2 hw2 => (ih y sA (svs.getD 0 zV).n _ _ _ _ _ S w2 rfl ⟨h.ok, hcl.1, by rw [List.length_map]; have := hcl.1; have := hcl.2.1; omega, hz2.2, h.er, h.inq, by rw [List.length_map]; exact h.wf, by rw [List.length_map]; exact ar, al⟩ ⟨g.hu, g.nF, g.hU, g.bm, fun k hk => NotOwned.blk (by omega) (NotOwned.blk (by omega) (g.no k hk))⟩ hs0 (two_in hw2)).mono fun e w3 ⟨v, y', r, h1, h2, h3, h4⟩ => ⟨(v, y'), h1, ⟨r, h2, h3⟩, two_out h4⟩) ?_
 rintro ⟨v, y'⟩ ⟨r, hr1, hr2⟩
 simp only at hr2 ⊢
 refine zgw ?_
 exact At.finC (b := b6) (cs := [.int .i64 v.k, .int .i64 v.n, .slice v.q v.l.length v.cap]) rfl rfl (by exact mau) rfl rfl (fun w' hw' => ⟨v, y', rfl, .inr (.inl ⟨_, r, .inr ⟨hop, ⟨by rw [← he0.k]; exact hz2.1, by rw [hz2.2, h.er.len]⟩, rfl⟩, hr1, hr2⟩), drop2 hb6 hb4 hw'⟩)
theorem one_nap (bm : Nat) (fns : List (Go.Ss.Fn × FnY)) (i : Go.Ss.In) (iy : Sc) (y : YS) (sA : List (List SV)) (vs : List PV) (svs : List SV) (q : Option Addr) (cap : Nat) (ar : ∀ l ∈ sA, ∀ v ∈ l, WfV fns.length sA.length v) (al : ∀ l ∈ sA, l.length ≤ 1024) (h : OneH fns.length i y sA vs svs q cap) (hop : i.op = 14) (hz : kindP (fns.map Prod.fst) i vs = false) (H : List Eng.Item) (S : List World) (s0 : World) (g : OneG fns bm y H s0) (ih : CallS fns bm s0 y.left) (hs0 : s0 ∈ S) (w : World)
  (hc : Cls (rI s0.heap.size bm y H) S w) : OneI fns bm i iy y sA vs svs q cap H S s0 w := by
 have hbs : ∃ s ∈ S, s0.heap.size ≤ s.heap.size := ⟨s0, hs0, Nat.le_refl _⟩
 obtain ⟨fa0, fa2, fa3, fa1, fa16, _⟩ := form_args h.form
 have hvl := h.vl
 have hno := g.no
 have hbm := g.bm
 unfold rI at hc
 have hpos : i.op = 14 → 0 < vs.length := fun e => by
  have := (form_zero h.form).choose_spec.2.2.1 e
  omega
 have hnb : ¬ appB (fns.map Prod.fst) svs := fun hb => by
  have he0 := h.er.getK 0
  have := hz
  unfold kindP kindT at this
  rw [he0.k, he0.nr, h.er.len] at this
  obtain ⟨b1, b2⟩ := hb
  generalize svs.getD 0 zV = a0 at *
  simp [hop, b1, b2] at this
 unfold OneI
 refine enter Try.func112 rfl Try.ntmps112 rfl hc (zen ?_)
 unfold inC
 apply W.sr
 apply OL.box; rfl; rfl; exact CellsL.agg; (intro bk hbk; have hbk0 := hbk.mem s0 hs0)
 apply OL.alloc; rfl; rfl; exact CellsL.agg; (intro bk hbk; have hbk0 := hbk.mem s0 hs0)
 refine zgw ?_
 rename_i b4 hb4 hb40
 revert hbk0
 revert bk
 intro b6 hb6 hb60
 (((first | apply OL.op | apply QL.op); exact Guard.au; rfl; rfl); (exact Pev.call (v := .bool false) rfl (by exact Args.au) (fun _ w2 hw2 => (kinds_calls fns bm y.m i iy h.form _ _ cap h.vl w2 (h.inq.arr hw2 (by exact mau)) (fun j v hj => by rw [add_mid, blk_cell (hw2.item (show blk bm 110 y.m.c ∈ _ from by exact mau)), Nat.zero_add]; exact hj) (hw2.lt (blk bm 110 y.m.c) (by exact mau) _ rfl) (g.hu.at hw2 hs0 (g.no2 hb60 hb40)) g.nF (fun h14 hk => one_clo h g.hU (hpos h14) hk)).mono (fun e w3 hh => ⟨by rw [hh.1, hz], hw2.ext hh.2⟩))))
 refine zgw ?_
 refine OL.callF rfl rfl (by exact Args.au) (fun w2 hw2 => rstop2 (m := y.m) 5 h.ok.ed s0 hs0 hw2) ?_
 refine zgw ?_
 exact At.finC (b := b6) (cs := [.int .i64 0, .int .i64 0, .slice none 0 0]) rfl rfl (by exact mau) rfl rfl (fun w' hw' => ⟨zP, _, rfl, .inr (.inr ⟨hop, hnb, (OneR.trap (t := 5) (v := zP) h.ok)⟩), drop2 hb6 hb4 hw'⟩)
theorem one_any (bm : Nat) (fns : List (Go.Ss.Fn × FnY)) (i : Go.Ss.In) (iy : Sc) (y : YS) (sA : List (List SV)) (vs : List PV) (svs : List SV) (q : Option Addr) (cap : Nat) (ar : ∀ l ∈ sA, ∀ v ∈ l, WfV fns.length sA.length v) (al : ∀ l ∈ sA, l.length ≤ 1024) (h : OneH fns.length i y sA vs svs q cap) (hin : InsOk (fns.map Prod.fst) i) (H : List Eng.Item) (S : List World) (s0 : World) (g : OneG fns bm y H s0) (ih : CallS fns bm s0 y.left) (hs0 : s0 ∈ S) (w : World)
  (hc : Cls (rI s0.heap.size bm y H) S w) : OneI fns bm i iy y sA vs svs q cap H S s0 w := by
 have h24 := (form_args h.form).2.2.2.2.2
 cases hz : kindP (fns.map Prod.fst) i vs with
 | false =>
  by_cases h13 : i.op = 13
  ·exfalso
   unfold kindP kindT at hz
   simp [h13] at hz
  by_cases h14 : i.op = 14
  ·exact one_nap bm fns i iy y sA vs svs q cap ar al h h14 hz H S s0 g ih hs0 w hc
  exact (one_bad bm fns i iy y sA vs svs q cap h hz h13 h14 H S s0 g hs0 w hc).toI h13 h14
 | true =>
  by_cases h13 : i.op = 13
  ·exact one_call bm fns i iy y sA vs svs q cap ar al h h13 hin hz H S s0 g ih hs0 w hc
  by_cases h14 : i.op = 14
  ·exact one_app bm fns i iy y sA vs svs q cap ar al h h14 hz H S s0 g ih hs0 w hc
  refine OneS.toI h13 h14 ?_
  by_cases e0 : i.op = 0
  ·exact one_0 bm fns i iy y sA vs svs q cap h e0 hz H S s0 g hs0 w hc
  by_cases e1 : i.op = 4 ∨ i.op = 5
  ·exact one_dv bm fns i iy y sA vs svs q cap h e1 hz H S s0 g hs0 w hc
  by_cases e2 : i.op = 1 ∨ i.op = 2 ∨ i.op = 3 ∨ i.op = 6 ∨ i.op = 7
  ·exact one_ar bm fns i iy y sA vs svs q cap h e2 hz H S s0 g hs0 w hc
  by_cases e3 : i.op = 8
  ·exact one_8 bm fns i iy y sA vs svs q cap h e3 hz H S s0 g hs0 w hc
  by_cases e4 : i.op = 9
  ·exact one_9 bm fns i iy y sA vs svs q cap h e4 hz H S s0 g hs0 w hc
  by_cases e5 : i.op = 10
  ·exact one_10 bm fns i iy y sA vs svs q cap h e5 hz H S s0 g hs0 w hc
  by_cases e6 : i.op = 11
  ·exact one_11 bm fns i iy y sA vs svs q cap h e6 hz H S s0 g hs0 w hc
  by_cases e7 : i.op = 12
  ·exact one_12 bm fns i iy y sA vs svs q cap h e7 hz H S s0 g hs0 w hc
  by_cases e8 : i.op = 22
  ·exact one_22 bm fns i iy y sA vs svs q cap h e8 hz H S s0 g hs0 w hc
  by_cases e9 : i.op = 23
  ·exact one_vec bm fns i iy y sA vs svs q cap h e9 hz H S s0 g hs0 w hc
  by_cases e10 : i.op = 24
  ·exact one_24 bm fns i iy y sA vs svs q cap h e10 hz H S s0 g hs0 w hc
  exact one_eff bm fns i iy y sA vs svs q cap h (by omega) hz H S s0 g hs0 w hc
end Go.Proofs.Ytehelljmaiophaa.ss

/- The walk of the reference's call. Conditions: none. -/
namespace Go.Eng
open Go.RowKit
section
variable {P : Program} {n : Nat} {l : Env} {H : List Item} {S : List World} {ops : Array Oper} {rest : List Oper} {Q : Exit → Act → World → Prop} {t ty : TypeId} {x y : Operand} {pos : String} {af : Array Edge}
theorem OL.storeK {α : Type} {f : α → List Value} {sz p b j : Nat} {t' : TypeId} {vp : List α} {u : α} {v : Value} {H' : List Item} (hf : ∀ x, (f x).length = sz) (hsz : 0 < sz) (hx : evl l x = some (true, .pointer (some ⟨b, 0 + j * sz, none⟩))) (hy : evl l y = some (true, v)) (hv : v = .agg (f u).toArray) (hc : CellsL (.agg (f u).toArray) (f u))
  (hs : sizeN P t = some sz) (h1 : oneL (f u) = true) (hj : j < vp.length) (hH : Swap p H (blk b t' (cat f vp)) (blk b t' (cat f (vp.set j u))) H')
  (kk : OL P n ops Q rest l (Cls H' S)) : OL P n ops Q (⟨none, .store t x y, ty, pos, af, none⟩ :: rest) l (Cls H S) := by
 subst hv
 have hle : j * sz + sz ≤ vp.length * sz := by rw [← Nat.succ_mul]; exact Nat.mul_le_mul_right _ hj
 refine OL.storeL hx hy hc.eq hs (hf u) h1 ⟨?_, ?_⟩ hH kk
 ·rw [hf, cat_length hf]; omega
 ·rw [Nat.zero_add]; exact cat_set hf hsz hj
theorem Cls.onlyI {w : World} {i : Item} (h : Cls H S w) (hi : i ∈ H) : Cls [i] [] w where
 holds := fun j hj => by obtain rfl := List.mem_singleton.1 hj; exact h.holds _ hi
 lt := fun j hj => by obtain rfl := List.mem_singleton.1 hj; exact h.lt _ hi
 dj := List.pairwise_singleton _ _
 kp := fun s hs => by cases hs
variable {C C0 : World → Prop} {x y : List (Nat × Oper)}
theorem W.regzC {id : Nat} {l0 : List Oper} (hs : ZSplit 0 [] l0 x y) (hm : P.follows .mixedOrders = true) (hB : zB l0.toArray (x.map (·.1)) (y.map (·.1)) = true) (hC : ∀ w, C w → C { w with drawn := w.drawn + 1 }) (hC0 : ∀ w, C w → C0 w)
  (h : ZL P n l0.toArray C0 (fun a' => ∀ w', C w' → wpT P l0.toArray C0 (needZ l0.toArray (x.map (·.1))) (NoPanic Q) y a' w') x l) : W P n (.region id l0.toArray true) Q l C := ⟨fun a w hs' hc => by
 simp only [zB, Bool.and_eq_true] at hB
 obtain ⟨h1, h2, h3⟩ := hB
 obtain ⟨hx, hy, hlen⟩ := hs.spec
 refine wp_region_any hm (wpAny_np _ _ _ _ (wpAny_of_Z (C0 := C0) (need := needZ l0.toArray (x.map (·.1))) _ _ _ _ ?_))
 have key := wpZ_pre (P := P) (ops := l0.toArray) (C0 := C0) (Q := NoPanic Q) (xi0 := x.map (·.1)) (f := y.length) (w := { w with drawn := w.drawn + 1 }) h1 (fun _ _ _ h => h) (hC0 _ (hC w hc)) x (Array.replicate l0.toArray.size false) a
  (fun p hp => ⟨List.mem_map.2 ⟨p, hp, rfl⟩, by have := (hx p hp).2.1; simpa using this⟩) (fun j o _ hj => by rw [getD_rep] at hj; cases hj) h2 (h.run a hs')
  (fun a' hK => wpZ_seq y _ a' _ h3 (hK _ (hC w hc)))
 have e : x.length + y.length = l0.toArray.size := by simpa using hlen
 exact (congrArg (fun s => wpZ P l0.toArray C0 (needZ l0.toArray (x.map (·.1))) (NoPanic Q) s (Array.replicate l0.toArray.size false) a { w with drawn := w.drawn + 1 }) e).mp key⟩
theorem ZL.nilC {need : Nat → Bool} (h : TL P n ops C0 need Q y l C) : ZL P n ops C0 (fun a' => ∀ w', C w' → wpT P ops C0 need Q y a' w') [] l := ⟨fun a hs w hc => h.run a w hs hc⟩
end
end Go.Eng
namespace Go.Ss
open Go.Eng Go.RowKit
structure CG where
 k : Nat
 vp : List PV
 f : Int → SV
 xs : List PV
 sx : List SV
 q : Option Addr
 cap : Nat
 X : Eng.Item
 y : YS
 A : List (List SV)
structure Cont (fs : List Fn) (fn0 : Int) (svs0 : List SV) (y0 : YS) (sA0 : List (List SV)) (n : Nat) (m k a : Nat) (f : Int → SV) (y : YS) (A : List (List SV)) : Prop where
 ok : YOk y A
 same : RSame y0.m y.m
 L0 : ∀ r ∈ y0.L, r ∈ y.L
 le : y.left ≤ n
 st : St fs m k a f A y.out y.left
 go : ∀ r, RunsT fs m k a f A y.out y.left r → RunsN fs fn0 svs0 sA0 y0.out n r
structure CInv (fs : List Fn) (fn0 : Int) (svs0 : List SV) (y0 : YS) (sA0 : List (List SV)) (n m N B Bx nb : Nat) (g : CG) : Prop where
 k : g.k < nb
 vl : g.vp.length = N
 v : VOk g.y.L g.vp g.f
 er : Ers rN g.xs g.sx
 xi : ∀ p ∈ g.xs, InQ g.y.L p
 xl : g.xs.length = (parB fs m g.k).length
 X : ∀ j, g.X.own j → Bx ≤ j
 hX : ∀ w, g.X.holds w → (pool (pvR rF) B g.y.Op g.y.L).holds w → ∀ i p, g.xs[i]? = some p → ∃ a, g.q = some a ∧ CellsAt w (a.add (i * 3)) (rC p)
 c : Cont fs fn0 svs0 y0 sA0 n m g.k 0 (setVs g.f (parB fs m g.k) g.sx) g.y g.A
theorem drop_at {α : Type} {l : List α} {j : Nat} {x : α} (h : l[j]? = some x) : l.drop j = x :: l.drop (j + 1) := by
 obtain ⟨h1, h2⟩ := List.getElem?_eq_some_iff.1 h
 rw [List.drop_eq_getElem_cons h1, h2]
theorem blk_cat {b : Nat} {t : TypeId} {vp : List PV} {w : World} {j : Nat} {p : PV} (h : (blk b t (cat rC vp)).holds w) (hp : vp[j]? = some p) : CellsAt w ⟨b, 0 + j * 3, none⟩ (rC p) := fun i v hi => by
 rw [add_mid, Nat.zero_add, blk_cell h]
 exact cat_get (f := rC) (fun p => rfl) hp i v hi
end Go.Ss
namespace Go.Proofs.Ytehelljmaiophaa.ss
set_option maxRecDepth 100000
open Go.Eng Go.RowKit Go.Ss
theorem rI_pool {B bm : Nat} {y : YS} {H : List Eng.Item} : pool (pvR rF) B y.Op y.L ∈ rI B bm y H := .tail _ (.tail _ (.tail _ (.head _)))
theorem J_in {J : List Eng.Item} {B bm : Nat} {y : YS} {H : List Eng.Item} {S : List World} {w : World} (h : Cls (J ++ rI B bm y H) S w) : Cls (rI B bm y (J ++ H)) S w := by
 have e : J ++ rI B bm y H = (J ++ rI B bm y []) ++ H := by rw [List.append_assoc]; rfl
 rw [e] at h
 exact h.perm ((List.Perm.append_right H List.perm_append_comm).trans (List.Perm.of_eq (by rw [List.append_assoc]; rfl)))
theorem J_out {J : List Eng.Item} {B bm : Nat} {y : YS} {H : List Eng.Item} {S : List World} {w : World} (h : Cls (rI B bm y (J ++ H)) S w) : Cls (J ++ rI B bm y H) S w := by
 have e : J ++ rI B bm y H = (J ++ rI B bm y []) ++ H := by rw [List.append_assoc]; rfl
 rw [e]
 exact h.perm ((List.Perm.of_eq (by rw [List.append_assoc]; rfl)).trans (List.Perm.append_right H List.perm_append_comm))
def YS.sp (y : YS) (f : Bool) : YS := { y with m := { y.m with steps := y.m.steps + 1, ed := f } }
theorem spendJ {J : List Eng.Item} {B bm : Nat} {y : YS} {H : List Eng.Item} {S : List World} (s0 : World) (hs0 : s0 ∈ S) {w : World} (z f : Bool) (hz : decide (y.m.steps + 1 ≤ y.m.fuel) = z) (hf : (!z) = f) (hed : y.m.ed = false) (h0 : 0 ≤ y.m.steps ∧ y.m.steps ≤ 1000000) (hc : Cls (J ++ rI B bm y H) S w) :
  Calls Try.prog 111 [.pointer (some ⟨bm, 0, none⟩), .int .i64 1].toArray w fun e w' => e = .returned (.bool z) ∧ Cls (J ++ rI B bm (YS.sp y f) H) S w' := by
 subst hz hf
 exact (rspend_calls bm y.m 1 hed h0 (by omega) _ S s0 hs0 w (J_in hc)).mono fun e w' h => ⟨h.1, J_out (y := YS.sp y _) h.2⟩
theorem stopJ {J : List Eng.Item} {B bm : Nat} {y : YS} {H : List Eng.Item} {S : List World} (s0 : World) (hs0 : s0 ∈ S) {w : World} (en : Int) (hed : y.m.ed = false) (hc : Cls (J ++ rI B bm y H) S w) :
  Calls Try.prog 113 [.pointer (some ⟨bm, 0, none⟩), .int .i64 en].toArray w fun e w' => e = .returned (.agg #[.int .i64 0, .int .i64 0, .slice none 0 0]) ∧ Cls (J ++ rI B bm { y with m := { y.m with ed := true, en := en } } H) S w' :=
 (rstop_calls bm y.m en hed _ S s0 hs0 w (J_in hc)).mono fun e w' h => ⟨h.1, J_out (y := { y with m := { y.m with ed := true, en := en } }) h.2⟩
theorem allLe_up {S : List World} {a b : Nat} (h : AllLe S a) (hab : a ≤ b) : AllLe S b := AllLe.of fun s hs => Nat.le_trans (h.mem s hs) hab
theorem db {b : Nat} {t : TypeId} {x : List Value} {R : List Eng.Item} {S : List World} {w : World} (h : Cls (blk b t x :: R) S w) (hb : AllLe S b) : Cls R S w := h.thin (.any (fun k hk => by rw [show k = b from hk]; exact hb) Thin.same)
theorem endY_ed {f : Go.Ss.Fin} {y : YS} (h : EndY f y) : y.m.ed = true := by cases f <;> exact h.1
theorem YS.spent {y : YS} {A : List (List SV)} (h : YOk y A) {l : Nat} (hl : y.left = l + 1) : decide (y.m.steps + 1 ≤ y.m.fuel) = true ∧ YOk (YS.sp y false) A ∧ (YS.sp y false).left = l ∧ ((YS.sp y false).A.length : Int) + 1 ≤ (YS.sp y false).m.steps := by
 have hl : (y.m.fuel - y.m.steps).toNat = l + 1 := hl
 have h1 := h.s0
 have h2 := h.s1
 have h3 := h.asz
 refine ⟨decide_eq_true (by omega), ⟨h.no, h.ol, h.na, h.al, h.ar, h.ai, h.a1, rfl, ?_, ?_, h.f, ?_, h.en⟩, ?_, ?_⟩
 ·show 0 ≤ y.m.steps + 1
  omega
 ·show y.m.steps + 1 ≤ y.m.fuel
  omega
 ·show (y.A.length : Int) ≤ y.m.steps + 1
  omega
 ·show (y.m.fuel - (y.m.steps + 1)).toNat = l
  omega
 ·show (y.A.length : Int) + 1 ≤ y.m.steps + 1
  omega
theorem YS.broke {y : YS} {A : List (List SV)} (h : YOk y A) (hl : y.left = 0) : decide (y.m.steps + 1 ≤ y.m.fuel) = false ∧ EndY .short (YS.sp y true) := by
 have hl : (y.m.fuel - y.m.steps).toNat = 0 := hl
 have h1 := h.s0
 have h2 := h.s1
 refine ⟨decide_eq_false (by omega), rfl, ?_⟩
 show y.m.fuel < y.m.steps + 1
 omega
theorem spend5 {a b c d e : Eng.Item} {B bm : Nat} {y : YS} {H : List Eng.Item} {S : List World} (s0 : World) (hs0 : s0 ∈ S) {w : World} (z f : Bool) (hz : decide (y.m.steps + 1 ≤ y.m.fuel) = z) (hf : (!z) = f) {A : List (List SV)} (hy : YOk y A) (hc : Cls (a :: b :: c :: d :: e :: rI B bm y H) S w) :
  Calls Try.prog 111 [.pointer (some ⟨bm, 0, none⟩), .int .i64 1].toArray w fun x w' => x = .returned (.bool z) ∧ Cls (a :: b :: c :: d :: e :: rI B bm (YS.sp y f) H) S w' :=
 spendJ (J := [a, b, c, d, e]) s0 hs0 z f hz hf hy.ed ⟨hy.s0, by have := hy.s1; have := hy.f; omega⟩ hc
theorem spend4 {a b c d : Eng.Item} {B bm : Nat} {y : YS} {H : List Eng.Item} {S : List World} (s0 : World) (hs0 : s0 ∈ S) {w : World} (z f : Bool) (hz : decide (y.m.steps + 1 ≤ y.m.fuel) = z) (hf : (!z) = f) {A : List (List SV)} (hy : YOk y A) (hc : Cls (a :: b :: c :: d :: rI B bm y H) S w) :
  Calls Try.prog 111 [.pointer (some ⟨bm, 0, none⟩), .int .i64 1].toArray w fun x w' => x = .returned (.bool z) ∧ Cls (a :: b :: c :: d :: rI B bm (YS.sp y f) H) S w' :=
 spendJ (J := [a, b, c, d]) s0 hs0 z f hz hf hy.ed ⟨hy.s0, by have := hy.s1; have := hy.f; omega⟩ hc
theorem no_rI {B bm k n1 c1 n2 c2 z1 z2 : Nat} {t e1 e2 : TypeId} {cs x1 x2 : List Value} {O1 O2 Op : Nat → Prop} {q1 q2 : Option Addr} {L : List (PV × Unit)} {I H : List Eng.Item} (hk : k < B) (hbm : B ≤ bm) (h : NotOwned H k) : NotOwned (blk bm t cs :: row B O1 q1 n1 c1 e1 z1 x1 :: row B O2 q2 n2 c2 e2 z2 x2 :: pool (pvR rF) B Op L :: bag B I :: H) k :=
 NotOwned.blk (by omega) (NotOwned.row hk (NotOwned.row hk (NotOwned.pool hk (NotOwned.bag hk h))))
theorem no_rIy {fns : List (Go.Ss.Fn × FnY)} {bm : Nat} {y : YS} {H : List Eng.Item} {s0 : World} {f : Bool} (g : OneG fns bm y H s0) {k : Nat} (hk : k < s0.heap.size) : NotOwned (rI s0.heap.size bm (YS.sp y f) H) k := no_rI hk g.bm (g.no k hk)
theorem switch_len {t : Tm} (h : shapeT t = true) (hk : t.kind = 3) : t.to_.length = t.cases.length + 1 := by
 unfold shapeT at h
 rw [if_neg (by omega), if_neg (by omega), if_neg (by omega), if_pos hk] at h
 simp only [Bool.and_eq_true, decide_eq_true_eq] at h
 exact h.1
theorem stop5 {a b c d e : Eng.Item} {B bm : Nat} {y : YS} {H : List Eng.Item} {S : List World} (s0 : World) (hs0 : s0 ∈ S) {w : World} (en : Int) {A : List (List SV)} (hy : YOk y A) (hc : Cls (a :: b :: c :: d :: e :: rI B bm y H) S w) :
  Calls Try.prog 113 [.pointer (some ⟨bm, 0, none⟩), .int .i64 en].toArray w fun x w' => x = .returned (.agg #[.int .i64 0, .int .i64 0, .slice none 0 0]) ∧ Cls (a :: b :: c :: d :: e :: rI B bm { y with m := { y.m with ed := true, en := en } } H) S w' := stopJ (J := [a, b, c, d, e]) s0 hs0 en hy.ed hc
theorem stop6 {a b c d e f : Eng.Item} {B bm : Nat} {y : YS} {H : List Eng.Item} {S : List World} (s0 : World) (hs0 : s0 ∈ S) {w : World} (en : Int) {A : List (List SV)} (hy : YOk y A) (hc : Cls (a :: b :: c :: d :: e :: f :: rI B bm y H) S w) :
  Calls Try.prog 113 [.pointer (some ⟨bm, 0, none⟩), .int .i64 en].toArray w fun x w' => x = .returned (.agg #[.int .i64 0, .int .i64 0, .slice none 0 0]) ∧ Cls (a :: b :: c :: d :: e :: f :: rI B bm { y with m := { y.m with ed := true, en := en } } H) S w' := stopJ (J := [a, b, c, d, e, f]) s0 hs0 en hy.ed hc
theorem arg_join {B Bx bm : Nat} {y1 : YS} {A1 : List (List SV)} {l : Nat} {ps : List PV} {qj : Option Addr} {cp : Nat} {O : Nat → Prop} (hBx : B ≤ Bx) (hok : YOk y1 A1) (hl : y1.left = l + 1) (h16 : ps.length ≤ 16) (hin : ∀ p ∈ ps, InQ y1.L p) :
  ∃ y3 : YS, (∀ {a b c d e : Eng.Item} {H : List Eng.Item} {S : List World} {w' : World}, Cls (row Bx O qj ps.length cp 113 3 (cat rC ps) :: a :: b :: c :: d :: e :: rI B bm (YS.sp y1 false) H) S w' → Cls (a :: b :: c :: d :: e :: rI B bm y3 H) S w') ∧
   YOk y3 A1 ∧ y3.left = l ∧ (∀ r ∈ y1.L, r ∈ y3.L) ∧ InQ y3.L (.mk 0 0 qj cp 0 ps) ∧ y3.out = y1.out ∧ RSame y1.m y3.m ∧ (y3.A.length : Int) + 1 ≤ y3.m.steps := by
 obtain ⟨_, hok2, hl2, has2⟩ := YS.spent hok hl
 refine ⟨{ YS.sp y1 false with L := (YS.sp y1 false).L ++ [(.mk 0 0 qj cp 0 ps, ())], Op := fun j => (YS.sp y1 false).Op j ∨ (Bx ≤ j ∧ O j) }, ?_, hok2.push _ _, hl2, fun r hr => List.mem_append_left _ hr, .of .last, rfl, ⟨rfl, rfl, rfl, rfl, rfl, rfl⟩, has2⟩
 intro a b c d e H S w' h
 exact J_out (J := [a, b, c, d, e]) (join_row 0 0 0 hBx (h.perm (.cons _ (List.Perm.append_right H (List.perm_append_comm (l₁ := [a, b, c, d, e]) (l₂ := [_, _, _, _, _]))))) rfl h16 hin)
theorem no_app {J H : List Eng.Item} {k : Nat} (h : NotOwned J k) (h2 : NotOwned H k) : NotOwned (J ++ H) k := by
 induction h with
 | nil => exact h2
 | blk h _ ih => exact .blk h (ih h2)
 | any h _ ih => exact .any h (ih h2)
theorem argsP_len (vp : List PV) (l : List Int) : (argsP vp l).length = l.length := by simp [argsP]
set_option maxHeartbeats 4000000 in
theorem call_step (fns : List (Go.Ss.Fn × FnY)) (bm : Nat) (s0 : World) (n : Nat) (ih : ∀ m, m < n → CallS fns bm s0 m) : CallS fns bm s0 n := by
 intro y0 sA0 fn vs svs q cap H S w hyn h g hs0 hc
 obtain ⟨S1, hS1⟩ : ∃ S1, S1 = w :: S := ⟨_, rfl⟩
 have hc : Cls (rI s0.heap.size bm y0 H) S1 w := by rw [hS1]; exact hc.note
 have hsub : ∀ {R : List Eng.Item} {w' : World}, Cls R S1 w' → Cls R S w' := fun hR => hR.forget (fun s hs => by rw [hS1]; exact .tail _ hs)
 have hw1 : w ∈ S1 := by rw [hS1]; exact .head _
 have hs0 : s0 ∈ S1 := by rw [hS1]; exact .tail _ hs0
 clear hS1
 have hbs : ∃ s ∈ S1, w.heap.size ≤ s.heap.size := ⟨w, hw1, Nat.le_refl _⟩
 have hBw : AllLe S1 w.heap.size := AllLe.mk hc
 have hsB : s0.heap.size ≤ w.heap.size := (hc.kp s0 hs0).size
 have hno := g.no
 have hbm := g.bm
 have h0 := h.f0
 obtain ⟨mn, rfl⟩ : ∃ mn : Nat, fn = (mn : Int) := ⟨fn.toNat, by omega⟩
 have hml : mn < fns.length := by have := h.fl; rw [List.length_map] at this; omega
 obtain ⟨am, xm, hqm, ham, hxm, hcM, hokM⟩ := g.hu.get hml
 have ham : am.block < s0.heap.size := ham
 obtain ⟨es, hes, hArr⟩ := hokM.b
 have hbl : xm.1.blocks.length = es.length := by rw [← hes, List.length_map]
 have hcM : CellsAt s0 (am.add ((mn : Int).toNat * 2)) [.int .i64 xm.1.name, .slice xm.2.q es.length xm.2.c] := by rw [Int.toNat_natCast, ← hbl]; exact hcM
 have hfB : fnB (fns.map Prod.fst) mn = xm.1.blocks := by
  unfold fnB
  rw [List.getD_eq_getElem?_getD, List.getElem?_map, hxm]
  rfl
 have hmem : xm.1 ∈ fns.map Prod.fst := List.mem_map.2 ⟨_, List.mem_of_getElem? hxm, rfl⟩
 have hfe := g.hU.fe _ hmem
 obtain ⟨hSl, hfr0, hfr1⟩ := slB_of hfe
 have hesl : es.length ≤ 140737488355328 := by rw [← hbl]; exact hokM.bl
 obtain ⟨N, hN⟩ : ∃ N, (freshF xm.1.blocks).toNat + 1 = N := ⟨_, rfl⟩
 rw [hN] at hSl
 have hN6 : N ≤ 5000 := by omega
 unfold rI RS.c at hc
 refine enter Try.func71 rfl Try.ntmps71 rfl hc (zen ?_)
 apply W.sr
 apply OL.alloc; rfl; rfl; exact CellsL.agg; (intro bk hbk; have hbk0 := hbk.mem s0 hs0)
 refine zgw ?_
 rw [hqm, g.nF]
 refine zgw ?_
 apply OL.alloc; rfl; rfl; exact CellsL.agg; (intro bk hbk; have hbk0 := hbk.mem s0 hs0)
 refine zgw ?_
 rename_i b6 hb6 hb60
 revert hbk0
 revert bk
 intro b7 hb7 hb70
 (((first | apply OL.op | apply QL.op); exact Guard.au; rfl; rfl); (exact Pev.call (v := .int .i64 (freshF xm.1.blocks)) rfl (by exact Args.au) (fun _ w2 hw2 => (Fresh_calls es xm.2.q xm.2.c xm.1.name w2 (hArr.at hw2 hs0 (fun k hk => NotOwned.blk (by omega) (NotOwned.blk (by omega) (no_rI hk hbm (hno k hk))))) hesl).mono (fun e w3 h => ⟨by rw [h.1, hes], hw2.ext h.2⟩))))
 refine zgw ?_
 refine OL.makeSliceK (f := rC) (x0 := zP) (m := N) rfl rfl rfl rfl rfl rfl (by omega) (by omega) (by omega) (fun b8 hb8 => ?_)
 have hb80 := hb8.mem s0 hs0
 refine zgw ?_
 refine W.cls (fun w' hw' => hw'.nothing_in) ?_
 refine W.loop (G := CG) (CInv (fns.map Prod.fst) (mn : Int) svs y0 sA0 n mn N s0.heap.size w.heap.size es.length) (fun g => g.y.left)
  (fun g => [(0, true, .pointer (some ⟨bm, 0, none⟩)), (2, true, .slice g.q g.xs.length g.cap), (6, true, .pointer (some ⟨b6, 0, none⟩)), (7, true, .pointer (some ⟨b7, 0, none⟩)), (8, true, .slice (some ⟨b8, 0, none⟩) N N), (9, true, .int .i64 (g.k : Int))])
  (fun g => Cls (g.X :: blk b8 113 (cat rC g.vp) :: blk b7 24 [.int .i64 xm.1.name, .slice xm.2.q es.length xm.2.c] :: blk b6 113 [.int .i64 0, .int .i64 0, .slice none 0 0] :: rI s0.heap.size bm g.y H) S1)
  ⟨0, List.replicate N zP, fun _ => zV, vs, svs, q, cap, nothing, y0, sA0⟩ ?_ (by exact Sub.au) (fun w' hw' => by unfold rI RS.c; simp only; rw [hqm, g.nF]; exact hw') ?_
 ·have hpar : (parB (fns.map Prod.fst) mn 0).length = vs.length := h.pl
  have h2 := g.hU.shape (show mn < (fns.map Prod.fst).length by rw [List.length_map]; exact hml)
  rw [hfB] at h2
  refine ⟨(show 0 < es.length by rw [← hbl]; exact h2.2), List.length_replicate, VOk.new N, h.er, fun p hp => h.inq.kid hp, hpar.symm, fun j hj => hj.elim, fun w' _ hp i p hi => ?_, h.ok, RSame.refl _, fun _ hr => hr, (show y0.left ≤ n by omega), ?_, fun r hr => ?_⟩
  ·obtain ⟨a, ha⟩ := h.inq.some hp (List.length_pos_of_mem (List.mem_of_getElem? hi))
   exact ⟨a, ha, h.inq.cells hp ha hi⟩
  ·exact St.new g.hU h.f0 h.fl h.wf h.ar h.al
  ·simp only at hr
   rw [hyn] at hr
   exact hr
 rintro ⟨k, vp, f, xs, sx, q, cap, X, y, A⟩ hI
 simp only
 have hkl : k < es.length := hI.k
 have hvl : vp.length = N := hI.vl
 obtain ⟨ab, xb, hqb, hab, hxb, hcB, hokB⟩ := hArr.get hkl
 have hab : ab.block < s0.heap.size := hab
 have hcB : CellsAt s0 (ab.add (k * 7)) [.slice xb.2.p.1 xb.1.params.length xb.2.p.2, .slice xb.2.i.1 xb.1.ins.length xb.2.i.2, .int .i64 xb.1.term.kind, .int .i64 xb.1.term.arg, .int .i64 xb.1.term.n, .slice xb.2.t.c.1 xb.1.term.cases.length xb.2.t.c.2, .slice xb.2.t.t.1 xb.1.term.to_.length xb.2.t.t.2] := hcB
 have hXn : ∀ j, j < s0.heap.size → ¬ X.own j := fun j hj hx => by have := hI.X j hx; omega
 have hy := hI.c.same
 have gy : OneG fns bm y H s0 := ⟨by rw [hy.qF]; exact g.hu, by rw [hy.nF]; exact g.nF, g.hU, hbm, hno⟩
 have hnr := gy.rI
 have hxbk : xm.1.blocks[k]? = some xb.1 := by rw [← hes, List.getElem?_map, hxb]; rfl
 have hbkA : bkA (fns.map Prod.fst) mn k = xb.1 := by
  unfold bkA
  rw [hfB, List.getD_eq_getElem?_getD, hxbk]
  rfl
 have hpar : parB (fns.map Prod.fst) mn k = xb.1.params := congrArg Bk.params hbkA
 have hbm2 : xb.1 ∈ xm.1.blocks := List.mem_of_getElem? hxbk
 have hpl := hokB.pl
 have hil := hokB.il
 rw [hqb]
 refine zgw ?_
 apply OL.alloc; rfl; rfl; exact CellsL.agg; (intro bk hbk; have hbk0 := hbk.mem s0 hs0)
 refine zgw ?_
 revert hbk0
 revert bk
 intro b10 hb10 hb100
 have hxl : xs.length = xb.1.params.length := by rw [← hpar]; exact hI.xl
 have hsx : xs.length = sx.length := hI.er.len
 refine W.loop (G := Nat × List PV × (Int → SV)) (fun z => z.1 ≤ xb.1.params.length ∧ z.2.1.length = N ∧ VOk y.L z.2.1 z.2.2 ∧ setVs z.2.2 (xb.1.params.drop z.1) (sx.drop z.1) = setVs f xb.1.params sx) (fun z => xb.1.params.length - z.1)
  (fun z => [(0, true, .pointer (some ⟨bm, 0, none⟩)), (2, true, .slice q xs.length cap), (6, true, .pointer (some ⟨b6, 0, none⟩)), (7, true, .pointer (some ⟨b7, 0, none⟩)), (8, true, .slice (some ⟨b8, 0, none⟩) N N), (10, true, .pointer (some ⟨b10, 0, none⟩)), (40, true, .slice xb.2.p.1 xb.1.params.length xb.2.p.2), (41, true, .int .i64 (xb.1.params.length : Int)), (42, true, .int .i64 (z.1 : Int))])
  (fun z => Cls (blk b10 41 [.slice xb.2.p.1 xb.1.params.length xb.2.p.2, .slice xb.2.i.1 xb.1.ins.length xb.2.i.2, .int .i64 xb.1.term.kind, .int .i64 xb.1.term.arg, .int .i64 xb.1.term.n, .slice xb.2.t.c.1 xb.1.term.cases.length xb.2.t.c.2, .slice xb.2.t.t.1 xb.1.term.to_.length xb.2.t.t.2] :: X :: blk b8 113 (cat rC z.2.1) :: blk b7 24 [.int .i64 xm.1.name, .slice (some ab) es.length xm.2.c] :: blk b6 113 [.int .i64 0, .int .i64 0, .slice none 0 0] :: rI s0.heap.size bm y H) S1) (0, vp, f) ⟨Nat.zero_le _, hvl, hI.v, rfl⟩ (by exact Sub.au) (fun w' hw' => hw') ?_
 rintro ⟨j, vp1, f1⟩ ⟨hj, hv1, hV1, hset⟩
 simp only at hj hv1 hV1 hset ⊢
 refine zgw ?_
 refine W.cnd ?_ ?_ <;> intro hlt <;> try exact zwx hlt
 ·obtain ⟨pa, pv, hqp, hpab, hpj, hcp⟩ := hokB.p.get (show j < xb.1.params.length by omega)
  have hpab : pa.block < s0.heap.size := hpab
  obtain ⟨hp0', hpN⟩ := hSl.par _ hbm2 pv (List.mem_of_getElem? hpj)
  rw [hqp]
  obtain ⟨x, hx⟩ : ∃ x, xs[j]? = some x := ⟨_, List.getElem?_eq_getElem (by omega)⟩
  obtain ⟨sv, hsv, hesv⟩ := hI.er.get hx
  refine W.fact (φ := ∃ a, q = some a) (fun w' hw' => by
   obtain ⟨a, ha, _⟩ := hI.hX w' (hw'.item (.tail _ (.head _))) (hw'.item (List.mem_append_right [_, _, _, _, _] rI_pool)) j x hx
   exact ⟨a, ha⟩) ?_
  rintro ⟨a, ha⟩
  have hcx : ∀ w', X.holds w' → (pool (pvR rF) s0.heap.size y.Op y.L).holds w' → CellsAt w' (a.add (j * 3)) [.int .i64 x.k, .int .i64 x.n, .slice x.q x.l.length x.cap] := fun w' h1 h2 => by
   obtain ⟨a', ha', hc'⟩ := hI.hX w' h1 h2 j x hx
   simp only at ha'
   rw [ha] at ha'
   obtain rfl := Option.some.inj ha'
   exact hc'
  rw [ha]
  refine zgw ?_
  (((first | apply OL.op | apply QL.op); exact Guard.au; rfl; rfl); (exact Pev.load_fa rfl yes rfl (fun _ w' hw' => hcx w' (hw'.item (.tail _ (.head _))) (hw'.item (List.mem_append_right [_, _, _, _, _] rI_pool))) rfl))
  refine zgw ?_
  refine OL.storeK (f := rC) (sz := 3) (u := x) (vp := vp1) (j := pv.toNat) (fun _ => rfl) (by decide) rfl rfl rfl CellsL.agg rfl rfl (by omega) Swap.au ?_
  refine zgw ?_
  refine At.again (j + 1, vp1.set pv.toNat x, setV f1 pv sv) ⟨by simp only; omega, by rw [List.length_set]; exact hv1, hV1.set hp0' hesv (hI.xi x (List.mem_of_getElem? hx)), ?_⟩ (by simp only; omega) (by exact Sub.au) (fun w' hw' => hw')
  rw [← hset, drop_at hpj, drop_at hsv, setVs]
 obtain rfl : j = xb.1.params.length := by omega
 rw [List.drop_length, List.drop_of_length_le (by omega), show setVs f1 [] [] = f1 from rfl] at hset
 have hC0 : Cont (fns.map Prod.fst) (mn : Int) svs y0 sA0 n mn k 0 f1 y A := by
  have h1 := hI.c
  simp only at h1
  rw [hpar, ← hset] at h1
  exact h1
 refine zgw ?_
 refine W.cls (fun w' hw' => hw'.thin (.keep (.any (fun j hj => allLe_up hBw (hI.X j hj)) Thin.same))) ?_
 have hvi := hokB.i
 obtain ⟨is, his, hArrI⟩ := hvi
 have hisl : xb.1.ins.length = is.length := by rw [← his, List.length_map]
 refine W.loop (G := Nat × List PV × (Int → SV) × YS × List (List SV)) (fun z => z.1 ≤ xb.1.ins.length ∧ z.2.1.length = N ∧ VOk z.2.2.2.1.L z.2.1 z.2.2.1 ∧ Cont (fns.map Prod.fst) (mn : Int) svs y0 sA0 n mn k z.1 z.2.2.1 z.2.2.2.1 z.2.2.2.2 ∧ z.2.2.2.1.left ≤ y.left) (fun z => xb.1.ins.length - z.1)
  (fun z => [(0, true, .pointer (some ⟨bm, 0, none⟩)), (6, true, .pointer (some ⟨b6, 0, none⟩)), (7, true, .pointer (some ⟨b7, 0, none⟩)), (8, true, .slice (some ⟨b8, 0, none⟩) N N), (10, true, .pointer (some ⟨b10, 0, none⟩)), (56, true, .slice xb.2.i.1 xb.1.ins.length xb.2.i.2), (57, true, .int .i64 (xb.1.ins.length : Int)), (58, true, .int .i64 (z.1 : Int))])
  (fun z => Cls (blk b10 41 [.slice xb.2.p.1 xb.1.params.length xb.2.p.2, .slice xb.2.i.1 xb.1.ins.length xb.2.i.2, .int .i64 xb.1.term.kind, .int .i64 xb.1.term.arg, .int .i64 xb.1.term.n, .slice xb.2.t.c.1 xb.1.term.cases.length xb.2.t.c.2, .slice xb.2.t.t.1 xb.1.term.to_.length xb.2.t.t.2] :: blk b8 113 (cat rC z.2.1) :: blk b7 24 [.int .i64 xm.1.name, .slice (some ab) es.length xm.2.c] :: blk b6 113 [.int .i64 0, .int .i64 0, .slice none 0 0] :: rI s0.heap.size bm z.2.2.2.1 H) S1) (0, vp1, f1, y, A) ⟨Nat.zero_le _, hv1, hV1, hC0, Nat.le_refl _⟩ (by exact Sub.au) (fun w' hw' => hw') ?_
 clear hset hV1 hv1 hC0 vp1 f1
 rintro ⟨a, vp1, f1, y1, A1⟩ ⟨ha, hv1, hV1, hC, hle⟩
 simp only at ha hv1 hV1 hC hle ⊢
 have hy1 := hC.same
 have gy1 : OneG fns bm y1 H s0 := ⟨by rw [hy1.qF]; exact g.hu, by rw [hy1.nF]; exact g.nF, g.hU, hbm, hno⟩
 have hnr := gy1.rI
 refine zgw ?_
 refine W.cnd ?_ ?_ <;> intro hlt <;> try exact zwx hlt
 ·obtain ⟨ia, xi, hqi, hiab, hxi, hcI, hokI⟩ := hArrI.get (show a < is.length by omega)
  have hiab : ia.block < s0.heap.size := hiab
  have hcI : CellsAt s0 (ia.add (a * 4)) [.int .i64 xi.1.to_, .int .i64 xi.1.op, .int .i64 xi.1.n, .slice xi.2.1 xi.1.args.length xi.2.2] := hcI
  have hxia : xb.1.ins[a]? = some xi.1 := by rw [← his, List.getElem?_map, hxi]; rfl
  rw [hqi]
  refine zgw ?_
  apply OL.alloc; rfl; rfl; exact CellsL.agg; (intro bk hbk; have hbk0 := hbk.mem s0 hs0)
  refine zgw ?_
  revert hbk0
  revert bk
  intro b14 hb14 hb140
  have hinOk : InsOk (fns.map Prod.fst) xi.1 := g.hU.ins (show mn < (fns.map Prod.fst).length by rw [List.length_map]; exact hml) (show k < (fnB (fns.map Prod.fst) mn).length by rw [hfB, hbl]; exact hkl) (show (bkA (fns.map Prod.fst) mn k).ins[a]? = some xi.1 by rw [hbkA]; exact hxia)
  have hiA : (bkA (fns.map Prod.fst) mn k).ins[a]? = some xi.1 := by rw [hbkA]; exact hxia
  have h16 := (form_args hinOk.form).2.2.2.2.1
  cases hl : y1.left with
  | zero =>
   obtain ⟨hd, hE⟩ := YS.broke hC.ok hl
   refine OL.callF rfl rfl (by exact Args.au) (fun w2 hw2 => spend5 s0 hs0 false true hd rfl hC.ok hw2) ?_
   refine zgw ?_
   exact At.finC (b := b6) (cs := [.int .i64 0, .int .i64 0, .slice none 0 0]) rfl rfl (by exact mau) rfl rfl (fun w' hw' => ⟨zP, _, .fin .short, rfl, hC.go _ (by rw [hl]; exact RunsT.zero), ⟨hE, hy1.trans ⟨rfl, rfl, rfl, rfl, rfl, rfl⟩⟩, hsub (db (db (db (db (db hw' hb14) hb10) hb8) hb7) hb6)⟩)
  | succ l =>
   obtain ⟨hd, _⟩ := YS.spent hC.ok hl
   refine OL.callF rfl rfl (by exact Args.au) (fun w2 hw2 => spend5 s0 hs0 true false hd rfl hC.ok hw2) ?_
   refine zgw ?_
   refine W.cls (fun w' hw' => hw'.row_nil w.heap.size 113 3) ?_
   refine W.loop (G := Nat × (Nat → Prop) × Option Addr × Nat) (fun z => z.1 ≤ xi.1.args.length) (fun z => xi.1.args.length - z.1)
    (fun z => [(0, true, .pointer (some ⟨bm, 0, none⟩)), (6, true, .pointer (some ⟨b6, 0, none⟩)), (7, true, .pointer (some ⟨b7, 0, none⟩)), (8, true, .slice (some ⟨b8, 0, none⟩) N N), (10, true, .pointer (some ⟨b10, 0, none⟩)), (14, true, .pointer (some ⟨b14, 0, none⟩)), (15, true, .slice z.2.2.1 z.1 z.2.2.2), (56, true, .slice (some ia) xb.1.ins.length xb.2.i.2), (57, true, .int .i64 (xb.1.ins.length : Int)), (58, true, .int .i64 (a : Int)), (67, true, .slice xi.2.1 xi.1.args.length xi.2.2), (68, true, .int .i64 (xi.1.args.length : Int)), (69, true, .int .i64 (z.1 : Int))])
    (fun z => Cls (row w.heap.size z.2.1 z.2.2.1 z.1 z.2.2.2 113 3 (cat rC ((argsP vp1 xi.1.args).take z.1)) :: blk b14 85 [.int .i64 xi.1.to_, .int .i64 xi.1.op, .int .i64 xi.1.n, .slice xi.2.1 xi.1.args.length xi.2.2] :: blk b10 41 [.slice xb.2.p.1 xb.1.params.length xb.2.p.2, .slice (some ia) xb.1.ins.length xb.2.i.2, .int .i64 xb.1.term.kind, .int .i64 xb.1.term.arg, .int .i64 xb.1.term.n, .slice xb.2.t.c.1 xb.1.term.cases.length xb.2.t.c.2, .slice xb.2.t.t.1 xb.1.term.to_.length xb.2.t.t.2] :: blk b8 113 (cat rC vp1) :: blk b7 24 [.int .i64 xm.1.name, .slice (some ab) es.length xm.2.c] :: blk b6 113 [.int .i64 0, .int .i64 0, .slice none 0 0] :: rI s0.heap.size bm (YS.sp y1 false) H) S1) (0, fun _ => False, none, 0) (Nat.zero_le _) (by exact Sub.au) (fun w' hw' => hw') ?_
   rintro ⟨j, O, qj, cp⟩ hj
   simp only at hj ⊢
   refine zgw ?_
   refine W.cnd ?_ ?_ <;> intro hlt2 <;> try exact zwx hlt2
   ·obtain ⟨va, vv, hqv, hvab, hvj, hcv⟩ := hokI.a.get (show j < xi.1.args.length by omega)
    have hvab : va.block < s0.heap.size := hvab
    obtain ⟨hvv0, hvN⟩ := hSl.arg _ hbm2 xi.1 (List.mem_of_getElem? hxia) vv (List.mem_of_getElem? hvj)
    obtain ⟨p, hp, hep, hip⟩ := hV1.at_ hvv0 (by omega)
    have hp0 : ∀ w', (blk b8 113 (cat rC vp1)).holds w' → CellsAt w' ⟨b8, 0 + vv.toNat * 3, none⟩ [.int .i64 p.k, .int .i64 p.n, .slice p.q p.l.length p.cap] := fun w' h1 => blk_cat h1 hp
    rw [hqv]
    refine zgw ?_
    apply OL.buildSlice; rfl; rfl; rfl; exact Elems.au; rfl; rfl; (intro bk hbk; have hbk0 := hbk.mem s0 hs0)
    apply OL.append; rfl; rfl; rfl; rfl; exact Hole.au; exact .head _; exact Take.au; rfl; rfl; assumption; omega; intro O1 g1 cap1
    refine zgw ?_
    refine At.again (j + 1, O1, some ⟨g1, 0, none⟩, cap1) (by simp only; omega) (by simp only; omega) (by exact Sub.au) (fun w' hw' => ?_)
    simp only
    rw [take_snoc (argsP_get hvj hp), cat_append, cat_one]
    exact db hw' hbk
   obtain rfl : j = xi.1.args.length := by omega
   obtain ⟨ps, hps⟩ : ∃ ps, argsP vp1 xi.1.args = ps := ⟨_, rfl⟩
   have hpsl : ps.length = xi.1.args.length := by rw [← hps]; exact argsP_len _ _
   have hpsE : Ers rN ps (xi.1.args.map f1) := by rw [← hps]; exact hV1.args (fun v hv => by rw [hv1]; exact hSl.arg _ hbm2 xi.1 (List.mem_of_getElem? hxia) v hv)
   have hpsI : ∀ p ∈ ps, InQ y1.L p := by rw [← hps]; exact hV1.argsI
   rw [hps, ← hpsl, List.take_length]
   refine zgw ?_
   obtain ⟨y3, hy3c, hok3, hl3, hL3, hin3, hout3, hs3, has3⟩ := arg_join (bm := bm) (O := O) (qj := qj) (cp := cp) hsB hC.ok hl (by omega) hpsI
   refine W.cls (C' := Cls (blk b14 85 [.int .i64 xi.1.to_, .int .i64 xi.1.op, .int .i64 xi.1.n, .slice xi.2.1 ps.length xi.2.2] :: blk b10 41 [.slice xb.2.p.1 xb.1.params.length xb.2.p.2, .slice (some ia) xb.1.ins.length xb.2.i.2, .int .i64 xb.1.term.kind, .int .i64 xb.1.term.arg, .int .i64 xb.1.term.n, .slice xb.2.t.c.1 xb.1.term.cases.length xb.2.t.c.2, .slice xb.2.t.t.1 xb.1.term.to_.length xb.2.t.t.2] :: blk b8 113 (cat rC vp1) :: blk b7 24 [.int .i64 xm.1.name, .slice (some ab) es.length xm.2.c] :: blk b6 113 [.int .i64 0, .int .i64 0, .slice none 0 0] :: rI s0.heap.size bm y3 H) S1) (fun w' hw' => hy3c hw') ?_
   have hst3 : St (fns.map Prod.fst) mn k a f1 A1 y3.out y1.left := by rw [hout3]; exact hC.st
   have hnl : y3.left < n := by have := hC.le; omega
   have hy3 := hy1.trans hs3
   have hwf3 : ∀ v ∈ xi.1.args.map f1, WfV fns.length A1.length v := fun v hv => by
    obtain ⟨u, _, rfl⟩ := List.mem_map.1 hv
    have := hC.st.wf u
    rwa [List.length_map] at this
   have hH3 : OneH fns.length xi.1 y3 A1 ps (xi.1.args.map f1) qj cp := ⟨hinOk.form, hok3, hpsl, hpsE, hin3, hwf3, has3⟩
   have hg5 : ∀ {a b c d e : Eng.Item}, (∀ k, k < s0.heap.size → NotOwned [a, b, c, d, e] k) → OneG fns bm y3 ([a, b, c, d, e] ++ H) s0 := fun hn => ⟨by rw [hy3.qF]; exact g.hu, by rw [hy3.nF]; exact g.nF, g.hU, hbm, fun k hk => no_app (hn k hk) (hno k hk)⟩
   refine W.regzC (C0 := Cls [blk b14 85 [.int .i64 xi.1.to_, .int .i64 xi.1.op, .int .i64 xi.1.n, .slice xi.2.1 ps.length xi.2.2]] []) (by (repeat (first | exact ZSplit.nil | apply ZSplit.pure rfl | apply ZSplit.tail))) (by kernel_rfl) (by decide +kernel) (fun w hw => hw.drew) (fun w hw => hw.onlyI (.head _)) ?_
   refine zgw ?_
   refine OL.callE (α := PV × YS) (fun z => .agg #[.int .i64 z.1.k, .int .i64 z.1.n, .slice z.1.q z.1.l.length z.1.cap]) (fun z => InsR (fns.map Prod.fst) xi.1 (xi.1.args.map f1) A1 y3 z.2 z.1) (fun z => Cls (blk b14 85 [.int .i64 xi.1.to_, .int .i64 xi.1.op, .int .i64 xi.1.n, .slice xi.2.1 ps.length xi.2.2] :: blk b10 41 [.slice xb.2.p.1 xb.1.params.length xb.2.p.2, .slice (some ia) xb.1.ins.length xb.2.i.2, .int .i64 xb.1.term.kind, .int .i64 xb.1.term.arg, .int .i64 xb.1.term.n, .slice xb.2.t.c.1 xb.1.term.cases.length xb.2.t.c.2, .slice xb.2.t.t.1 xb.1.term.to_.length xb.2.t.t.2] :: blk b8 113 (cat rC vp1) :: blk b7 24 [.int .i64 xm.1.name, .slice (some ab) es.length xm.2.c] :: blk b6 113 [.int .i64 0, .int .i64 0, .slice none 0 0] :: rI s0.heap.size bm z.2 H) S1) rfl rfl (by exact Args.au) (fun w2 hw2 => ?_) ?_
   ·have h1 := one_any bm fns xi.1 (xi.2.1, xi.2.2) y3 A1 ps (xi.1.args.map f1) qj cp (fun l hl v hv => by have := hC.st.ar l hl v hv; rwa [List.length_map] at this) hC.st.al hH3 hinOk _ S1 s0 (hg5 (fun k hk => NotOwned.blk (by omega) (NotOwned.blk (by omega) (NotOwned.blk (by omega) (NotOwned.blk (by omega) (NotOwned.blk (by omega) NotOwned.nil)))))) (ih _ hnl) hs0 w2 (J_in (J := [_, _, _, _, _]) hw2)
    unfold OneI inC at h1
    rw [← hpsl] at h1
    exact h1.mono fun e w3 ⟨v, y', h1, h2, h3⟩ => ⟨(v, y'), h1, h2, J_out (J := [_, _, _, _, _]) h3⟩
   rintro ⟨v, y4⟩ hR
   simp only at hR ⊢
   obtain ⟨ht0, htN⟩ := hSl.to_ _ hbm2 xi.1 (List.mem_of_getElem? hxia)
   refine OL.nil (At.tk (fun w hw => hw.onlyI (.head _)) ?_)
   refine zgw ?_
   refine OL.storeK (f := rC) (sz := 3) (u := v) (vp := vp1) (j := xi.1.to_.toNat) (fun _ => rfl) (by decide) rfl rfl rfl CellsL.agg rfl rfl (by omega) Swap.au ?_
   refine zgw ?_
   rcases hR.go g.hU hst3 hiA with ⟨gf, hE, hS, hRun⟩ | ⟨A', sv, hok4, hS, hev, hL4, hi4, hle4, hst4, hgo4⟩
   ·refine W.cond rfl (fun _ => ?_) (fun he => by rw [endY_ed hE] at he; cases he)
    refine zgw ?_
    exact At.finC (b := b6) (cs := [.int .i64 0, .int .i64 0, .slice none 0 0]) rfl rfl (by exact mau) rfl rfl (fun w' hw' => ⟨zP, y4, .fin gf, rfl, hC.go _ (by rw [hl, ← hout3, ← hl3]; exact hRun), ⟨hE, hy3.trans hS⟩, hsub (db (db (db (db (db hw' hb14) hb10) hb8) hb7) hb6)⟩)
   ·refine W.cond rfl (fun he => by rw [hok4.ed] at he; cases he) (fun _ => ?_)
    refine zgw ?_
    refine At.again (a + 1, vp1.set xi.1.to_.toNat v, setV f1 xi.1.to_ sv, y4, A') ⟨by simp only; omega, by rw [List.length_set]; exact hv1, (hV1.more (fun r hr => hL4 r (hL3 r hr))).set ht0 hev hi4, ⟨hok4, hy3.trans hS, fun r hr => hL4 r (hL3 r (hC.L0 r hr)), by have := hC.le; simp only; omega, hst4, fun r hr => hC.go r (by rw [hl, ← hout3, ← hl3]; exact hgo4 r hr)⟩, by simp only; omega⟩ (by simp only; omega) (by exact Sub.au) (fun w' hw' => db hw' hb14)
 obtain rfl : a = xb.1.ins.length := by omega
 have hnone : (bkA (fns.map Prod.fst) mn k).ins[xb.1.ins.length]? = none := by rw [hbkA]; exact List.getElem?_eq_none (Nat.le_refl _)
 have hT := hokB.t
 have hTU := g.hU.term (show mn < (fns.map Prod.fst).length by rw [List.length_map]; exact hml) (show k < (fnB (fns.map Prod.fst) mn).length by rw [hfB, hbl]; exact hkl)
 rw [show ((fnB (fns.map Prod.fst) mn).getD k noB) = xb.1 from hbkA] at hTU
 obtain ⟨hsh, hc256, hk4n, hedg⟩ := hTU
 have hkr := shape_kind hsh
 refine zgw ?_
 cases hl : y1.left with
 | zero =>
  obtain ⟨hd, hE⟩ := YS.broke hC.ok hl
  refine OL.callF rfl rfl (by exact Args.au) (fun w2 hw2 => spend4 s0 hs0 false true hd rfl hC.ok hw2) ?_
  refine zgw ?_
  exact At.finC (b := b6) (cs := [.int .i64 0, .int .i64 0, .slice none 0 0]) rfl rfl (by exact mau) rfl rfl (fun w' hw' => ⟨zP, _, .fin .short, rfl, hC.go _ (by rw [hl]; exact RunsT.zero), ⟨hE, hy1.trans ⟨rfl, rfl, rfl, rfl, rfl, rfl⟩⟩, hsub (db (db (db (db hw' hb10) hb8) hb7) hb6)⟩)
 | succ l =>
  obtain ⟨hd, hok2, hl2, _⟩ := YS.spent hC.ok hl
  refine OL.callF rfl rfl (by exact Args.au) (fun w2 hw2 => spend4 s0 hs0 true false hd rfl hC.ok hw2) ?_
  refine zgw ?_
  apply OL.alloc; rfl; rfl; exact CellsL.agg; (intro bk hbk; have hbk0 := hbk.mem s0 hs0)
  refine zgw ?_
  revert hbk0
  revert bk
  intro b18 hb18 hb180
  have hpA : xb.1.term.kind = 0 ∨ xb.1.term.kind = 2 ∨ xb.1.term.kind = 3 → ∃ p, vp1[xb.1.term.arg.toNat]? = some p ∧ Er rN p (f1 xb.1.term.arg) ∧ InQ y1.L p := fun hk => by
   obtain ⟨h1, h2⟩ := hSl.term _ hbm2 _ (arg_in hk)
   exact hV1.at_ h1 (by omega)
  refine W.cnd ?_ ?_ <;> intro hk0 <;> try exact zwx hk0
  ·obtain ⟨p, hp, hep, hip⟩ := hpA (.inl hk0)
   have hp0 : ∀ w', (blk b8 113 (cat rC vp1)).holds w' → CellsAt w' ⟨b8, 0 + xb.1.term.arg.toNat * 3, none⟩ [.int .i64 p.k, .int .i64 p.n, .slice p.q p.l.length p.cap] := fun w' h1 => blk_cat h1 hp
   have ht0 := hSl.term _ hbm2 _ (arg_in (.inl hk0))
   refine zgw ?_
   exact At.finC (b := b6) (cs := [.int .i64 p.k, .int .i64 p.n, .slice p.q p.l.length p.cap]) rfl rfl (by exact mau) rfl rfl (fun w' hw' => ⟨p, YS.sp y1 false, .ret (f1 xb.1.term.arg) A1 y1.out l, rfl, hC.go _ (by
    have h1 := RunsT.t_ret (fs := fns.map Prod.fst) (vs := f1) (A := A1) (out := y1.out) (l := l) hnone (by rw [hbkA]; exact hk0)
    rw [hbkA] at h1
    rw [hl]
    exact h1), ⟨hok2, rfl, hy1.trans ⟨rfl, rfl, rfl, rfl, rfl, rfl⟩, hl2, hep, fun r hr => hC.L0 r hr, hip⟩, hsub (db (db (db (db (db hw' hb18) hb10) hb8) hb7) hb6)⟩)
  refine zgw ?_
  refine W.cnd ?_ ?_ <;> intro hk4 <;> try exact zwx hk4
  ·refine zgw ?_
   refine OL.callF rfl rfl (by exact Args.au) (fun w2 hw2 => stop5 s0 hs0 xb.1.term.n hok2 hw2) ?_
   refine zgw ?_
   exact At.finC (b := b6) (cs := [.int .i64 0, .int .i64 0, .slice none 0 0]) rfl rfl (by exact mau) rfl rfl (fun w' hw' => ⟨zP, _, .fin (.done xb.1.term.n 0 y1.out (YS.sp y1 false).left), rfl, hC.go _ (by
    have h1 := RunsT.t_trap (fs := fns.map Prod.fst) (vs := f1) (A := A1) (out := y1.out) (l := l) hnone (by rw [hbkA]; exact hk4)
    rw [hbkA] at h1
    rw [hl, hl2]
    exact h1), ⟨(OneR.trap (v := zP) hok2).1, hy1.trans ⟨rfl, rfl, rfl, rfl, rfl, rfl⟩⟩, hsub (db (db (db (db (db hw' hb18) hb10) hb8) hb7) hb6)⟩)
  obtain ⟨eds, heds, hArrE⟩ := hT.t
  have hel : xb.1.term.to_.length = eds.length := by rw [← heds, List.length_map]
  have hel0 : 0 < xb.1.term.to_.length := by
   by_cases hk1 : xb.1.term.kind = 1
   ·exact jump_one hsh hk1
   ·have := choose_lt hsh (by omega) 0
    omega
  obtain ⟨ae, x0, hqe, haeb, hx0, hcE0, hokE0⟩ := hArrE.get (show 0 < eds.length by omega)
  have haeb : ae.block < s0.heap.size := haeb
  have hcE0 : CellsAt s0 (ae.add (0 * 2)) [.int .i64 x0.1.block, .slice x0.2.1 x0.1.args.length x0.2.2] := hcE0
  have hx0m : x0.1 ∈ xb.1.term.to_ := by rw [← heds]; exact List.mem_map.2 ⟨_, List.mem_of_getElem? hx0, rfl⟩
  rw [hqe]
  refine zgw ?_
  apply OL.alloc; rfl; rfl; exact CellsL.agg; (intro bk hbk; have hbk0 := hbk.mem s0 hs0)
  refine zgw ?_
  revert hbk0
  revert bk
  intro b19 hb19 hb190
  refine W.joinx (G := Ed × Sc) (fun xe => xe.1 ∈ xb.1.term.to_ ∧ edR.ok s0 (low s0) xe.1 xe.2 ∧ St (fns.map Prod.fst) mn xe.1.block.toNat 0 (setVs f1 (parB (fns.map Prod.fst) mn xe.1.block.toNat) (xe.1.args.map f1)) A1 y1.out l ∧ ∀ r, RunsT (fns.map Prod.fst) mn xe.1.block.toNat 0 (setVs f1 (parB (fns.map Prod.fst) mn xe.1.block.toNat) (xe.1.args.map f1)) A1 y1.out l r → RunsT (fns.map Prod.fst) mn k xb.1.ins.length f1 A1 y1.out (l + 1) r)
   (fun xe => [(0, true, .pointer (some ⟨bm, 0, none⟩)), (6, true, .pointer (some ⟨b6, 0, none⟩)), (7, true, .pointer (some ⟨b7, 0, none⟩)), (8, true, .slice (some ⟨b8, 0, none⟩) N N), (19, true, .pointer (some ⟨b19, 0, none⟩))])
   (fun xe => Cls (blk b19 105 [.int .i64 xe.1.block, .slice xe.2.1 xe.1.args.length xe.2.2] :: blk b18 39 [.int .i64 xb.1.term.kind, .int .i64 xb.1.term.arg, .int .i64 xb.1.term.n, .slice xb.2.t.c.1 xb.1.term.cases.length xb.2.t.c.2, .slice (some ae) xb.1.term.to_.length xb.2.t.t.2] :: blk b10 41 [.slice xb.2.p.1 xb.1.params.length xb.2.p.2, .slice xb.2.i.1 xb.1.ins.length xb.2.i.2, .int .i64 xb.1.term.kind, .int .i64 xb.1.term.arg, .int .i64 xb.1.term.n, .slice xb.2.t.c.1 xb.1.term.cases.length xb.2.t.c.2, .slice (some ae) xb.1.term.to_.length xb.2.t.t.2] :: blk b8 113 (cat rC vp1) :: blk b7 24 [.int .i64 xm.1.name, .slice (some ab) es.length xm.2.c] :: blk b6 113 [.int .i64 0, .int .i64 0, .slice none 0 0] :: rI s0.heap.size bm (YS.sp y1 false) H) S1) ?_ ?_
  ·by_cases hk1 : xb.1.term.kind = 1
   ·refine W.cond rfl (fun hh => by simp [hk1] at hh) (fun _ => ?_)
    apply W.skip
    have he0 : (bkA (fns.map Prod.fst) mn k).term.to_.getD 0 noE = x0.1 := by
     rw [hbkA, ← heds, List.getD_eq_getElem?_getD, List.getElem?_map, hx0]
     rfl
    have hkk : (bkA (fns.map Prod.fst) mn k).term.kind = 1 := by rw [hbkA]; exact hk1
    exact At.joinedx x0 ⟨hx0m, hokE0, hC.st.jump g.hU hnone hkk he0 l, fun r hr => RunsT.t_jump hnone hkk he0 hr⟩ (by exact Sub.au) (fun w' hw' => hw')
   ·have hk23 : xb.1.term.kind = 2 ∨ xb.1.term.kind = 3 := by omega
    refine W.cond rfl (fun _ => ?_) (fun hh => by simp [hk1] at hh)
    obtain ⟨p, hp, hep, hip⟩ := hpA (.inr hk23)
    have ht0 := hSl.term _ hbm2 _ (arg_in (.inr hk23))
    have hp0 : ∀ w', (blk b8 113 (cat rC vp1)).holds w' → CellsAt w' ⟨b8, 0 + xb.1.term.arg.toNat * 3, none⟩ [.int .i64 p.k, .int .i64 p.n, .slice p.q p.l.length p.cap] := fun w' h1 => blk_cat h1 hp
    refine zgw ?_
    by_cases hpk : p.k = 0
    ·refine W.cond rfl (fun hh => by simp [hpk] at hh) (fun _ => ?_)
     apply W.sk
     apply W.regq; apply Split.s rfl; apply Split.s rfl; apply Split.s rfl; apply Split.s rfl; apply Split.s rfl; apply Split.s rfl; apply Split.s rfl; apply Split.s rfl; apply Split.s rfl; apply Split.s rfl; apply Split.s rfl; apply Split.s rfl; exact Split.z rfl; kernel_rfl; decide +kernel; exact fun w hw => hw.drew
     refine zgw ?_
     (((first | apply OL.op | apply QL.op); exact Guard.au; rfl; rfl); (exact Pev.call (v := .int .i64 (chooseE xb.1.term p.n : Int)) rfl (by exact Args.au) (fun _ w2 hw2 => (redge_calls xb.1.term { xb.2.t with t := (some ae, xb.2.t.t.2) } p.n w2 hk23 (by omega) (fun hk3 => switch_len hsh hk3) ((hT.c.stab (hw2.same hs0 (fun k hk => NotOwned.blk (by omega) (NotOwned.blk (by omega) (NotOwned.blk (by omega) (NotOwned.blk (by omega) (NotOwned.blk (by omega) (NotOwned.blk (by omega) (no_rIy gy1 hk))))))))).mono (hw2.up hs0))).mono (fun e w3 h => ⟨h.1, hw2.ext h.2⟩))))
     have hcl := choose_lt hsh hk23 p.n
     obtain ⟨ae', x1, hqe', _, hx1, hcE1, hokE1⟩ := hArrE.get (show chooseE xb.1.term p.n < eds.length by omega)
     rw [hqe] at hqe'
     obtain rfl := Option.some.inj hqe'
     have hcE1 : CellsAt s0 (ae.add (chooseE xb.1.term p.n * 2)) [.int .i64 x1.1.block, .slice x1.2.1 x1.1.args.length x1.2.2] := hcE1
     have he1 : (bkA (fns.map Prod.fst) mn k).term.to_.getD (chooseE (bkA (fns.map Prod.fst) mn k).term (f1 (bkA (fns.map Prod.fst) mn k).term.arg).n) noE = x1.1 := by
      rw [hbkA, ← hep.nr, ← heds, List.getD_eq_getElem?_getD, List.getElem?_map, hx1]
      rfl
     have hkk : (bkA (fns.map Prod.fst) mn k).term.kind = 2 ∨ (bkA (fns.map Prod.fst) mn k).term.kind = 3 := by rw [hbkA]; exact hk23
     have hk0' : (f1 (bkA (fns.map Prod.fst) mn k).term.arg).k = 0 := by rw [hbkA, ← hep.k]; exact hpk
     refine zgw ?_
     exact At.joinedx x1 ⟨by rw [← heds]; exact List.mem_map.2 ⟨_, List.mem_of_getElem? hx1, rfl⟩, hokE1, hC.st.sw g.hU hnone hkk hk0' he1 l, fun r hr => RunsT.t_sw hnone hkk hk0' he1 hr⟩ (by exact Sub.au) (fun w' hw' => hw')
    ·refine W.cond rfl (fun _ => ?_) (fun hh => by simp at hh; exact absurd hh hpk)
     refine zgw ?_
     refine OL.callF rfl rfl (by exact Args.au) (fun w2 hw2 => stop6 s0 hs0 5 hok2 hw2) ?_
     refine zgw ?_
     exact At.finC (b := b6) (cs := [.int .i64 0, .int .i64 0, .slice none 0 0]) rfl rfl (by exact mau) rfl rfl (fun w' hw' => ⟨zP, _, .fin (.done 5 0 y1.out (YS.sp y1 false).left), rfl, hC.go _ (by
      rw [hl, hl2]
      exact RunsT.t_bad hnone (by rw [hbkA]; exact hk23) (by rw [hbkA, ← hep.k]; exact hpk)), ⟨(OneR.trap (v := zP) hok2).1, hy1.trans ⟨rfl, rfl, rfl, rfl, rfl, rfl⟩⟩, hsub (db (db (db (db (db (db hw' hb19) hb18) hb10) hb8) hb7) hb6)⟩)
  rintro xe ⟨hxem, hokE, hstE, hgoE⟩
  obtain ⟨_, ⟨hxal, _⟩, hIE, _⟩ := hokE
  obtain ⟨kb, hkb, hkbl, hkbp⟩ := hedg _ hxem
  have hxa4 : xe.1.args.length ≤ 4096 := by
   rw [← hkbp]
   unfold parB
   exact params_lim (g.hU.shape (show mn < (fns.map Prod.fst).length by rw [List.length_map]; exact hml)).1 (getD_bk hkbl)
  rw [hfB, hbl] at hkbl
  rw [hkb, Int.toNat_natCast] at hstE hgoE
  refine zgw ?_
  refine W.cls (fun w' hw' => hw'.row_nil w.heap.size 113 3) ?_
  refine W.loop (G := Nat × (Nat → Prop) × Option Addr × Nat) (fun z => z.1 ≤ xe.1.args.length) (fun z => xe.1.args.length - z.1)
   (fun z => [(0, true, .pointer (some ⟨bm, 0, none⟩)), (2, true, .slice z.2.2.1 z.1 z.2.2.2), (6, true, .pointer (some ⟨b6, 0, none⟩)), (7, true, .pointer (some ⟨b7, 0, none⟩)), (8, true, .slice (some ⟨b8, 0, none⟩) N N), (19, true, .pointer (some ⟨b19, 0, none⟩)), (145, true, .slice xe.2.1 xe.1.args.length xe.2.2), (146, true, .int .i64 (xe.1.args.length : Int)), (147, true, .int .i64 (z.1 : Int))])
   (fun z => Cls (row w.heap.size z.2.1 z.2.2.1 z.1 z.2.2.2 113 3 (cat rC ((argsP vp1 xe.1.args).take z.1)) :: blk b19 105 [.int .i64 xe.1.block, .slice xe.2.1 xe.1.args.length xe.2.2] :: blk b18 39 [.int .i64 xb.1.term.kind, .int .i64 xb.1.term.arg, .int .i64 xb.1.term.n, .slice xb.2.t.c.1 xb.1.term.cases.length xb.2.t.c.2, .slice (some ae) xb.1.term.to_.length xb.2.t.t.2] :: blk b10 41 [.slice xb.2.p.1 xb.1.params.length xb.2.p.2, .slice xb.2.i.1 xb.1.ins.length xb.2.i.2, .int .i64 xb.1.term.kind, .int .i64 xb.1.term.arg, .int .i64 xb.1.term.n, .slice xb.2.t.c.1 xb.1.term.cases.length xb.2.t.c.2, .slice (some ae) xb.1.term.to_.length xb.2.t.t.2] :: blk b8 113 (cat rC vp1) :: blk b7 24 [.int .i64 xm.1.name, .slice (some ab) es.length xm.2.c] :: blk b6 113 [.int .i64 0, .int .i64 0, .slice none 0 0] :: rI s0.heap.size bm (YS.sp y1 false) H) S1) (0, fun _ => False, none, 0) (Nat.zero_le _) (by exact Sub.au) (fun w' hw' => hw') ?_
  rintro ⟨j, O, qj, cp⟩ hj
  simp only at hj ⊢
  refine zgw ?_
  refine W.cnd ?_ ?_ <;> intro hlt3 <;> try exact zwx hlt3
  ·obtain ⟨va, vv, hqv, hvab, hvj, hcv⟩ := hIE.get (show j < xe.1.args.length by omega)
   have hvab : va.block < s0.heap.size := hvab
   obtain ⟨hvv0, hvN⟩ := hSl.term _ hbm2 vv (edge_args hxem (List.mem_of_getElem? hvj))
   obtain ⟨p, hp, hep, hip⟩ := hV1.at_ hvv0 (by omega)
   have hp0 : ∀ w', (blk b8 113 (cat rC vp1)).holds w' → CellsAt w' ⟨b8, 0 + vv.toNat * 3, none⟩ [.int .i64 p.k, .int .i64 p.n, .slice p.q p.l.length p.cap] := fun w' h1 => blk_cat h1 hp
   rw [hqv]
   refine zgw ?_
   apply OL.buildSlice; rfl; rfl; rfl; exact Elems.au; rfl; rfl; (intro bk hbk; have hbk0 := hbk.mem s0 hs0)
   apply OL.append; rfl; rfl; rfl; rfl; exact Hole.au; exact .head _; exact Take.au; rfl; rfl; assumption; omega; intro O1 g1 cap1
   refine zgw ?_
   refine At.again (j + 1, O1, some ⟨g1, 0, none⟩, cap1) (by simp only; omega) (by simp only; omega) (by exact Sub.au) (fun w' hw' => ?_)
   simp only
   rw [take_snoc (argsP_get hvj hp), cat_append, cat_one]
   exact db hw' hbk
  obtain rfl : j = xe.1.args.length := by omega
  obtain ⟨ps, hps⟩ : ∃ ps, argsP vp1 xe.1.args = ps := ⟨_, rfl⟩
  have hpsl : ps.length = xe.1.args.length := by rw [← hps]; exact argsP_len _ _
  have hpsE : Ers rN ps (xe.1.args.map f1) := by rw [← hps]; exact hV1.args (fun v hv => by rw [hv1]; exact hSl.term _ hbm2 v (edge_args hxem hv))
  have hpsI : ∀ p ∈ ps, InQ y1.L p := by rw [← hps]; exact hV1.argsI
  rw [hps, ← hpsl, List.take_length]
  refine zgw ?_
  rw [hkb]
  refine At.again ⟨kb, vp1, f1, ps, xe.1.args.map f1, qj, cp, row w.heap.size O qj ps.length cp 113 3 (cat rC ps), YS.sp y1 false, A1⟩ ⟨hkbl, hv1, ⟨hV1.er, hV1.inq⟩, hpsE, hpsI, by simp only; rw [hkbp]; exact hpsl, fun j hj => hj.1, fun w' h1 _ i p hi => ?_, hok2, hy1.trans ⟨rfl, rfl, rfl, rfl, rfl, rfl⟩, hC.L0, ?_, ?_, fun r hr => ?_⟩ ?_ (by exact Sub.au) (fun w' hw' => ?_)
  ·obtain ⟨g0, hg0⟩ := row_some h1 (List.length_pos_of_mem (List.mem_of_getElem? hi))
   refine ⟨⟨g0, 0, none⟩, hg0, fun u v hv => ?_⟩
   simp only at hg0 hi
   rw [hg0] at h1
   rw [add_mid, Nat.zero_add, add_mid]
   exact row_cell h1 (cat_get (f := rC) (fun p => rfl) hi u v hv)
  ·show (YS.sp y1 false).left ≤ n
   have := hC.le
   omega
  ·rw [hl2]; exact hstE
  ·refine hC.go r ?_
   rw [hl]
   simp only [hl2] at hr
   exact hgoE r hr
  ·show (YS.sp y1 false).left < y.left
   omega
  ·exact hw'.thin (.keep (.any (fun j hj => by rw [show j = b19 from hj]; exact hb19) (.any (fun j hj => by rw [show j = b18 from hj]; exact hb18) (.any (fun j hj => by rw [show j = b10 from hj]; exact hb10) Thin.same))))
end Go.Proofs.Ytehelljmaiophaa.ss
