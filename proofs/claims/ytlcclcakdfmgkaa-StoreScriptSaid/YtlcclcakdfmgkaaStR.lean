/- The walks of the reference's without and Bytes. Conditions: none. -/
import Derived.Test.YtlcclcakdfmgkaaStP
import Derived.Test.YtlcclcakdfmgkaaRows
namespace Go.Proofs.Ytlcclcakdfmgkaa.st
open Go.RowKit Go.Eng Go.St
set_option linter.unusedVariables false
set_option linter.unusedSimpArgs false
set_option maxRecDepth 100000

def pc (p : BA × BA) : List Value := [.string p.1, .string p.2]
theorem plen : ∀ p, (pc p).length = 2 := fun _ => rfl
structure RQ where
  q : Option Addr
  c : Nat
  O : Nat → Prop
structure WG where
  i : Nat
  out : PR
  y : RQ
theorem delK_take {R : PR} {k : BA} {i : Nat} {p : BA × BA} (hp : R[i]? = some p) : delK (R.take (i + 1)) k = delK (R.take i) k ++ (if p.1 = k then [] else [p]) := by
  rw [List.take_add_one, hp, delK_append]
  congr 1
  show List.filter _ [p] = _
  by_cases h : p.1 = k <;> simp [h]
theorem delK_le (R : PR) (k : BA) : (delK R k).length ≤ R.length := List.length_filter_le ..
theorem without_calls (q : Option Addr) (cap : Nat) (R : PR) (k : BA) (w : World) (hR : R.length ≤ 16777217) (h : SlAt w w.heap.size q (cat pc R)) :
    Calls Try.prog 27 #[.slice q R.length cap, .string k] w fun e w' => ∃ y : RQ, e = .returned (.slice y.q (delK R k).length y.c) ∧ Cls [row w.heap.size y.O y.q (delK R k).length y.c 45 2 (cat pc (delK R k))] [w] w' := by
  refine enter Try.func27 rfl Try.ntmps27 rfl (Cls.start w) ?_
  (simp only [argEnv, Nat.zero_add, Nat.reduceAdd])
  apply W.seq
  apply W.reg
  apply oas; rfl; rfl
  apply OL.nil
  with_reducible apply At.next
  apply W.seq
  apply W.reg
  apply oas; rfl; rfl
  apply OL.nil
  with_reducible apply At.next
  apply W.seq
  apply W.seq
  apply W.reg
  apply omv; rfl; rfl
  apply OL.op; exact Guard.none; rfl; rfl; apply Pev.len_slice; rfl; exact yes; rfl
  apply omv; rfl; rfl
  apply OL.nil
  with_reducible apply At.next
  apply W.block
  refine W.loop (G := WG) (fun g => g.i ≤ R.length ∧ g.out = delK (R.take g.i) k) (fun g => R.length - g.i)
    (fun g => [(1, true, .string k), (5, true, .slice g.y.q g.out.length g.y.c), (8, true, .slice q R.length cap), (9, true, .int .i64 (R.length : Int)), (10, true, .int .i64 (g.i : Int))])
    (fun g => Cls [row w.heap.size g.y.O g.y.q g.out.length g.y.c 45 2 (cat pc g.out)] [w]) ⟨0, [], none, 0, fun _ => False⟩ ⟨Nat.zero_le _, rfl⟩ (by (repeat (first | exact Sub.nil | apply Sub.cons rfl))) (fun w' hw' => hw'.row_nil _ _ _) ?_
  rintro ⟨i, out, q2, c2, O2⟩ ⟨hi, hout⟩
  simp only at hi hout ⊢
  have hol : out.length ≤ i := by
    rw [hout]
    exact Nat.le_trans (delK_le _ _) (by rw [List.length_take]; omega)
  apply W.seq
  apply W.reg
  apply obn; rfl; rfl; rfl; apply Bin.lss
  apply OL.nil
  with_reducible apply At.next
  apply W.seq
  (refine W.cond rfl (fun hlt => ?_) (fun hlt => ?_)) <;> (try (simp only [Bool.and_eq_true, Bool.or_eq_true, Bool.not_eq_true', Bool.and_eq_false_iff, Bool.or_eq_false_iff, Bool.not_eq_false', decide_eq_true_eq, decide_eq_false_iff_not, Int.not_lt, Int.not_le] at hlt)) <;> (try (exfalso; first | omega | exact hlt trivial | contradiction))
  · have hil : i < R.length := by omega
    obtain ⟨a, p, rfl, hab, hp, hcell⟩ := h.elem plen (by decide) hil
    obtain ⟨p1, p2⟩ := p
    change CellsAt w _ [.string p1, .string p2] at hcell
    have hnx := delK_take (k := k) hp
    rw [← hout] at hnx
    apply W.skip
    with_reducible apply At.next
    apply W.seq
    apply W.block
    apply W.seq
    apply W.reg
    apply OL.op; exact Guard.none; rfl; rfl; apply Pev.idx; rfl; exact yes; rfl; exact yes; rfl; rfl; intro hcond; omega
    apply OL.op; exact Guard.none; rfl; rfl; apply Pev.load_keptA; rfl; exact yes; exact .head _; rfl; intro hcond; assumption; rfl; intro hcond; (rw [add_block]; assumption); intro hcond; simp only [add_block]; refine NotOwned.row (by omega) ?_; exact NotOwned.nil
    apply OL.alloc; rfl; rfl; exact CellsL.agg; (intro bk hbk; simp only [AllLe, and_true] at hbk)
    apply OL.storeB; rfl; rfl; exact CellsL.agg; rfl; rfl; rfl; apply Swap.z; apply Put.here; apply Over.cons; apply Over.cons; apply Over.nil
    apply OL.nil
    with_reducible apply At.next
    apply W.seq
    apply W.reg
    apply ofa; rfl; rfl; rfl
    apply old; rfl; rfl; exact .head _; rfl; rfl
    apply omv; rfl; rfl
    apply obn; rfl; rfl; rfl; apply Bin.str_neq
    apply OL.nil
    with_reducible apply At.next
    (refine W.cond rfl (fun hne => ?_) (fun hne => ?_)) <;> (try (simp only [Bool.and_eq_true, Bool.or_eq_true, Bool.not_eq_true', Bool.and_eq_false_iff, Bool.or_eq_false_iff, Bool.not_eq_false', decide_eq_true_eq, decide_eq_false_iff_not, Int.not_lt, Int.not_le] at hne)) <;> (try (exfalso; first | omega | exact hne trivial | contradiction))
    · apply W.reg
      apply omv; rfl; rfl
      apply OL.op; exact Guard.none; rfl; rfl; apply Pev.load_blkA; rfl; exact yes; exact .head _; rfl; apply Take.succ; apply Take.succ; apply Take.zero
      apply OL.buildSlice; rfl; rfl; rfl; apply Elems.cons rfl; exact CellsL.agg; rfl; apply Elems.nil; apply App.cons; apply App.cons; apply App.nil; rfl; rfl; (intro bk hbk; simp only [AllLe, and_true] at hbk)
      apply OL.append; rfl; rfl; rfl; rfl; apply Hole.s; apply Hole.s; apply Hole.z; exact .head _; apply Take.succ; apply Take.succ; apply Take.zero; rfl; rfl; exact ⟨_, .head _, Nat.le_refl _⟩; omega; intro O1 g1 cap1
      apply oas; rfl; rfl
      apply OL.nil
      with_reducible apply At.in_normal
      with_reducible apply At.next
      apply W.reg
      apply obn; rfl; rfl; rfl; apply Bin.add_in; omega
      apply omv; rfl; rfl
      apply OL.nil
      rw [if_neg hne] at hnx
      rw [show out.length + 1 = (out ++ [(p1, p2)]).length by simp, show cat pc out ++ [.string p1, .string p2] = cat pc (out ++ [(p1, p2)]) by rw [cat_append]; rfl]
      exact At.again ⟨i + 1, out ++ [(p1, p2)], some ⟨g1, 0, none⟩, cap1, O1⟩ ⟨by simp only; omega, hnx.symm⟩ (by simp only; omega) (by (repeat (first | exact Sub.nil | apply Sub.cons rfl))) (fun w' hw' => hw'.thin (by (repeat (first | exact Thin.nil | exact Thin.same | apply Thin.keep | (refine Thin.blk (by assumption) ?_) | (refine Thin.blk (by simp only [AllLe, and_true]; omega) ?_)))))
    · apply W.skip
      with_reducible apply At.in_normal
      with_reducible apply At.next
      apply W.reg
      apply obn; rfl; rfl; rfl; apply Bin.add_in; omega
      apply omv; rfl; rfl
      apply OL.nil
      rw [if_pos hne, List.append_nil] at hnx
      exact At.again ⟨i + 1, out, q2, c2, O2⟩ ⟨by simp only; omega, hnx.symm⟩ (by simp only; omega) (by (repeat (first | exact Sub.nil | apply Sub.cons rfl))) (fun w' hw' => hw'.thin (by (repeat (first | exact Thin.nil | exact Thin.same | apply Thin.keep | (refine Thin.blk (by assumption) ?_) | (refine Thin.blk (by simp only [AllLe, and_true]; omega) ?_)))))
  · obtain rfl : i = R.length := by omega
    rw [List.take_length] at hout
    apply W.exit
    with_reducible apply At.then_exit
    with_reducible apply At.then_exit
    with_reducible apply At.in_exit
    with_reducible apply At.next
    apply W.seq
    apply W.reg
    apply omv; rfl; rfl
    apply oas; rfl; rfl
    apply OL.nil
    with_reducible apply At.next
    apply W.ret
    ((with_reducible apply At.fin1); rfl; rfl; intro w' hw')
    rw [← hout]
    exact ⟨⟨q2, c2, O2⟩, rfl, hw'⟩
theorem sumL_take {R : PR} {i : Nat} {p : BA × BA} (hp : R[i]? = some p) : sumL (R.take (i + 1)) = sumL (R.take i) + (p.1.size + p.2.size) := by
  rw [List.take_add_one, hp, sumL_append]; rfl
theorem sumL_le (R : PR) (i : Nat) : sumL (R.take i) ≤ sumL R := by
  have := sumL_append (R.take i) (R.drop i)
  rw [List.take_append_drop] at this
  omega
theorem Bytes_calls (room : Int) (q : Option Addr) (cap : Nat) (R : PR) (w : World) (hR : R.length ≤ 16777217) (hs : sumL R ≤ 9223372036854775807) (h : SlAt w w.heap.size q (cat pc R)) :
    Calls Try.prog 15 #[.agg #[.int .i64 room, .slice q R.length cap]] w fun e w' => e = .returned (.int .i64 (sumL R : Nat)) ∧ Ext w w' := by
  refine enter Try.func15 rfl Try.ntmps15 rfl (Cls.start w) ?_
  (simp only [argEnv, Nat.zero_add, Nat.reduceAdd])
  apply W.seq
  apply W.reg
  apply OL.box; rfl; rfl; exact CellsL.agg; (intro bk hbk; simp only [AllLe, and_true] at hbk)
  apply oas; rfl; rfl
  apply OL.nil
  with_reducible apply At.next
  apply W.seq
  apply W.reg
  apply oas; rfl; rfl
  apply OL.nil
  with_reducible apply At.next
  apply W.seq
  apply W.seq
  apply W.reg
  apply ofa; rfl; rfl; rfl
  apply old; rfl; rfl; exact .head _; rfl; rfl
  apply OL.op; exact Guard.none; rfl; rfl; apply Pev.len_slice; rfl; exact yes; rfl
  apply omv; rfl; rfl
  apply OL.nil
  with_reducible apply At.next
  apply W.block
  refine W.loop (G := Nat) (fun i => i ≤ R.length) (fun i => R.length - i)
    (fun i => [(3, true, .int .i64 (sumL (R.take i) : Nat)), (7, true, .slice q R.length cap), (8, true, .int .i64 (R.length : Int)), (9, true, .int .i64 (i : Int))])
    (fun i => Cls [] [w]) 0 (Nat.zero_le _) (by (repeat (first | exact Sub.nil | apply Sub.cons rfl))) (fun w' hw' => hw'.thin (by (repeat (first | exact Thin.nil | exact Thin.same | apply Thin.keep | (refine Thin.blk (by assumption) ?_) | (refine Thin.blk (by simp only [AllLe, and_true]; omega) ?_))))) ?_
  intro i hi
  apply W.seq
  apply W.reg
  apply obn; rfl; rfl; rfl; apply Bin.lss
  apply OL.nil
  with_reducible apply At.next
  apply W.seq
  (refine W.cond rfl (fun hlt => ?_) (fun hlt => ?_)) <;> (try (simp only [Bool.and_eq_true, Bool.or_eq_true, Bool.not_eq_true', Bool.and_eq_false_iff, Bool.or_eq_false_iff, Bool.not_eq_false', decide_eq_true_eq, decide_eq_false_iff_not, Int.not_lt, Int.not_le] at hlt)) <;> (try (exfalso; first | omega | exact hlt trivial | contradiction))
  · have hil : i < R.length := by omega
    obtain ⟨a, p, rfl, hab, hp, hcell⟩ := h.elem plen (by decide) hil
    obtain ⟨p1, p2⟩ := p
    change CellsAt w _ [.string p1, .string p2] at hcell
    have h1 := sumL_take hp
    have h2 := sumL_le R (i + 1)
    simp only at h1
    apply W.skip
    with_reducible apply At.next
    apply W.seq
    apply W.block
    apply W.seq
    apply W.reg
    apply OL.op; exact Guard.none; rfl; rfl; apply Pev.idx; rfl; exact yes; rfl; exact yes; rfl; rfl; intro hcond; omega
    apply OL.op; exact Guard.none; rfl; rfl; apply Pev.load_keptA; rfl; exact yes; exact .head _; rfl; intro hcond; assumption; rfl; intro hcond; (rw [add_block]; assumption); intro hcond; exact NotOwned.nil
    apply OL.alloc; rfl; rfl; exact CellsL.agg; (intro bk hbk; simp only [AllLe, and_true] at hbk)
    apply OL.storeB; rfl; rfl; exact CellsL.agg; rfl; rfl; rfl; apply Swap.z; apply Put.here; apply Over.cons; apply Over.cons; apply Over.nil
    apply OL.nil
    with_reducible apply At.next
    apply W.reg
    apply omv; rfl; rfl
    apply ofa; rfl; rfl; rfl
    apply old; rfl; rfl; exact .head _; rfl; rfl
    apply OL.op; exact Guard.none; rfl; rfl; apply Pev.len_str; rfl; exact yes; rfl
    apply ofa; rfl; rfl; rfl
    apply old; rfl; rfl; exact .head _; rfl; rfl
    apply OL.op; exact Guard.none; rfl; rfl; apply Pev.len_str; rfl; exact yes; rfl
    apply obn; rfl; rfl; rfl; apply Bin.add_in; omega
    apply obn; rfl; rfl; rfl; apply Bin.add_in; omega
    apply oas; rfl; rfl
    apply OL.nil
    with_reducible apply At.in_normal
    with_reducible apply At.next
    apply W.reg
    apply obn; rfl; rfl; rfl; apply Bin.add_in; omega
    apply omv; rfl; rfl
    apply OL.nil
    rw [show ((sumL (R.take i) : Nat) : Int) + ((p1.size : Int) + p2.size) = (sumL (R.take (i + 1)) : Nat) by omega]
    exact At.again (i + 1) (by omega) (by omega) (by (repeat (first | exact Sub.nil | apply Sub.cons rfl))) (fun w' hw' => hw'.thin (by (repeat (first | exact Thin.nil | exact Thin.same | apply Thin.keep | (refine Thin.blk (by assumption) ?_) | (refine Thin.blk (by simp only [AllLe, and_true]; omega) ?_)))))
  · obtain rfl : i = R.length := by omega
    apply W.exit
    with_reducible apply At.then_exit
    with_reducible apply At.then_exit
    with_reducible apply At.in_exit
    with_reducible apply At.next
    apply W.seq
    apply W.reg
    apply omv; rfl; rfl
    apply oas; rfl; rfl
    apply OL.nil
    with_reducible apply At.next
    apply W.ret
    ((with_reducible apply At.fin1); rfl; rfl; intro w' hw')
    rw [List.take_length]
    exact ⟨rfl, by (exact hw'.toExt (by (repeat (first | exact List.Mem.head _ | apply List.Mem.tail))) (fun k hk => by (focus ((try simp only [add_block]); (repeat (first | exact NotOwned.nil | exact hno _ (by omega) | refine NotOwned.nothing ?_ | refine NotOwned.nds (hlow _ (by omega)) ?_ | refine NotOwned.mapS (by omega) ?_ | apply NotOwned.bif | refine NotOwned.blk (by omega) ?_ | refine NotOwned.row (by omega) ?_ | refine NotOwned.grid (by assumption) (by omega) ?_)); done))))⟩
end Go.Proofs.Ytlcclcakdfmgkaa.st
