/- The walk of slices.Equal at []string. Conditions: none. -/
import Derived.Test.YtgllgllbgojhfaaStrs
import Derived.Test.YtgllgllbgojhfaaZip
import Derived.Test.YtgllgllbgojhfaaRows
namespace Go.Proofs.Ytgllgllbgojhfaa.mo
open Go.RowKit Go.Eng
set_option linter.unusedVariables false
set_option linter.unusedSimpArgs false
set_option maxRecDepth 100000

theorem str_at {w : World} {B : Nat} {q : Option Addr} {l : List ByteArray} (h : SlAt w B q (strs l)) {i : Nat} (hi : i < l.length) :
    ∃ a u, q = some a ∧ a.block < B ∧ l[i]? = some u ∧ w.cell? (a.add (i * 1)) = some (.string u) := by
  obtain ⟨a, rfl, hab, hc⟩ := h (by simp [strs]; omega)
  have hs : l[i]? = some l[i] := List.getElem?_eq_getElem hi
  exact ⟨a, l[i], rfl, hab, hs, by rw [Nat.mul_one]; exact hc i _ (by simp [strs, hs])⟩
theorem SEqual_calls (q1 q2 : Option Addr) (cap1 cap2 : Nat) (l1 l2 : List ByteArray) (w : World) (hl1 : l1.length ≤ 9223372036854775807) (hl2 : l2.length ≤ 9223372036854775807) (h1 : SlAt w w.heap.size q1 (strs l1)) (h2 : SlAt w w.heap.size q2 (strs l2)) :
    Calls Try.prog 10 #[.slice q1 l1.length cap1, .slice q2 l2.length cap2] w fun e w' => e = .returned (.bool (decide (l1 = l2))) ∧ Ext w w' := by
  refine enter Try.func10 rfl Try.ntmps10 rfl (Cls.start w) ?_
  (simp only [argEnv, Nat.zero_add, Nat.reduceAdd])
  apply W.seq
  apply W.reg
  apply oas; rfl; rfl
  apply OL.nil
  with_reducible apply At.next
  apply W.seq
  apply W.seq
  apply W.reg
  apply omv; rfl; rfl
  apply OL.op; exact Guard.none; rfl; rfl; apply Pev.len_slice; rfl; exact yes; rfl
  apply omv; rfl; rfl
  apply OL.op; exact Guard.none; rfl; rfl; apply Pev.len_slice; rfl; exact yes; rfl
  apply obn; rfl; rfl; rfl; apply Bin.neq
  apply OL.nil
  with_reducible apply At.next
  (refine W.cond rfl (fun hne => ?_) (fun hne => ?_)) <;> (try (simp only [Bool.and_eq_true, Bool.or_eq_true, Bool.not_eq_true', Bool.and_eq_false_iff, Bool.or_eq_false_iff, Bool.not_eq_false', decide_eq_true_eq, decide_eq_false_iff_not, Int.not_lt, Int.not_le] at hne)) <;> (try (exfalso; first | omega | exact hne trivial | contradiction))
  · apply W.seq
    apply W.reg
    apply oas; rfl; rfl
    apply OL.nil
    with_reducible apply At.next
    apply W.ret
    with_reducible apply At.then_ret
    ((with_reducible apply At.fin1); rfl; rfl; intro w' hw')
    have : ¬ l1 = l2 := fun e => by subst e; exact hne rfl
    exact ⟨by simp [this], by (exact hw'.toExt (by (repeat (first | exact List.Mem.head _ | apply List.Mem.tail))) (fun k hk => by (focus ((try simp only [add_block]); (repeat (first | exact NotOwned.nil | exact hno _ (by omega) | refine NotOwned.nothing ?_ | refine NotOwned.nds (hlow _ (by omega)) ?_ | refine NotOwned.mapS (by omega) ?_ | apply NotOwned.bif | refine NotOwned.blk (by omega) ?_ | refine NotOwned.row (by omega) ?_ | refine NotOwned.grid (by assumption) (by omega) ?_)); done))))⟩
  apply W.skip
  with_reducible apply At.next
  apply W.seq
  apply W.seq
  apply W.reg
  apply omv; rfl; rfl
  apply OL.op; exact Guard.none; rfl; rfl; apply Pev.len_slice; rfl; exact yes; rfl
  apply omv; rfl; rfl
  apply OL.nil
  with_reducible apply At.next
  apply W.block
  refine W.loop (G := Nat) (fun i => i ≤ l1.length ∧ ∀ j, j < i → l1[j]? = l2[j]?) (fun i => l1.length - i)
    (fun i => [(13, true, .int .i64 (i : Int)), (12, true, .int .i64 (l1.length : Int)), (0, true, .slice q1 l1.length cap1), (1, true, .slice q2 l2.length cap2)])
    (fun i => Cls [] [w]) 0 ⟨by omega, fun j hj => by omega⟩ (by (repeat (first | exact Sub.nil | apply Sub.cons rfl | (refine Sub.cons_eq rfl (congrArg (Value.int .i64) (by first | omega | (simp only; omega))) ?_)))) (fun w' hw' => hw') ?_
  rintro i ⟨hi, hsame⟩
  apply W.seq
  apply W.reg
  apply obn; rfl; rfl; rfl; apply Bin.lss
  apply OL.nil
  with_reducible apply At.next
  apply W.seq
  (refine W.cond rfl (fun hlt => ?_) (fun hlt => ?_)) <;> (try (simp only [Bool.and_eq_true, Bool.or_eq_true, Bool.not_eq_true', Bool.and_eq_false_iff, Bool.or_eq_false_iff, Bool.not_eq_false', decide_eq_true_eq, decide_eq_false_iff_not, Int.not_lt, Int.not_le] at hlt)) <;> (try (exfalso; first | omega | exact hlt trivial | contradiction))
  · obtain ⟨a, u, rfl, hab, hu, hcell⟩ := str_at h1 (show i < l1.length by omega)
    obtain ⟨a2, u2, rfl, hab2, hu2, hcell2⟩ := str_at h2 (show i < l2.length by omega)
    apply W.skip
    with_reducible apply At.next
    apply W.seq
    apply W.block
    apply W.seq
    apply W.reg
    apply omv; rfl; rfl
    apply oas; rfl; rfl
    apply OL.nil
    with_reducible apply At.next
    apply W.seq
    apply W.regd0; decide +kernel; kernel_rfl; decide +kernel; exact fun w hw => hw.drew
    apply qmv; rfl; rfl
    apply qmv; rfl; rfl
    apply QL.op; exact Guard.none; rfl; rfl; apply Pev.idx; rfl; exact yes; rfl; exact yes; rfl; rfl; intro hcond; omega
    apply QL.op; exact Guard.none; rfl; rfl; apply Pev.load_kept; rfl; exact yes; exact .head _; rfl; intro hcond; assumption; intro hcond; (rw [add_block]; assumption); intro hcond; exact NotOwned.nil
    apply qmv; rfl; rfl
    apply qmv; rfl; rfl
    apply QL.op; exact Guard.none; rfl; rfl; apply Pev.idx; rfl; exact yes; rfl; exact yes; rfl; rfl; intro hcond; omega
    apply QL.op; exact Guard.none; rfl; rfl; apply Pev.load_kept; rfl; exact yes; exact .head _; rfl; intro hcond; assumption; intro hcond; (rw [add_block]; assumption); intro hcond; exact NotOwned.nil
    apply qbn; rfl; rfl; rfl; apply Bin.str_neq
    apply QL.nil
    with_reducible apply At.next
    (refine W.cond rfl (fun hd => ?_) (fun hd => ?_)) <;> (try (simp only [Bool.and_eq_true, Bool.or_eq_true, Bool.not_eq_true', Bool.and_eq_false_iff, Bool.or_eq_false_iff, Bool.not_eq_false', decide_eq_true_eq, decide_eq_false_iff_not, Int.not_lt, Int.not_le] at hd)) <;> (try (exfalso; first | omega | exact hd trivial | contradiction))
    · apply W.seq
      apply W.reg
      apply oas; rfl; rfl
      apply OL.nil
      with_reducible apply At.next
      apply W.ret
      with_reducible apply At.in_ret
      with_reducible apply At.then_ret
      with_reducible apply At.then_ret
      with_reducible apply At.in_ret
      with_reducible apply At.then_ret
      ((with_reducible apply At.fin1); rfl; rfl; intro w' hw')
      have : ¬ l1 = l2 := fun e => by
        subst e
        rw [hu] at hu2
        exact hd (by rw [Option.some.inj hu2])
      exact ⟨by simp [this], by (exact hw'.toExt (by (repeat (first | exact List.Mem.head _ | apply List.Mem.tail))) (fun k hk => by (focus ((try simp only [add_block]); (repeat (first | exact NotOwned.nil | exact hno _ (by omega) | refine NotOwned.nothing ?_ | refine NotOwned.nds (hlow _ (by omega)) ?_ | refine NotOwned.mapS (by omega) ?_ | apply NotOwned.bif | refine NotOwned.blk (by omega) ?_ | refine NotOwned.row (by omega) ?_ | refine NotOwned.grid (by assumption) (by omega) ?_)); done))))⟩
    · apply W.skip
      with_reducible apply At.in_normal
      with_reducible apply At.next
      apply W.reg
      apply obn; rfl; rfl; rfl; apply Bin.add_in; omega
      apply omv; rfl; rfl
      apply OL.nil
      refine At.again (i + 1) ⟨by omega, fun j hj => ?_⟩ (by omega) (by (repeat (first | exact Sub.nil | apply Sub.cons rfl | (refine Sub.cons_eq rfl (congrArg (Value.int .i64) (by first | omega | (simp only; omega))) ?_)))) (fun w' hw' => hw')
      by_cases hji : j = i
      · subst hji
        rw [hu, hu2, show u = u2 by simpa using hd]
      · exact hsame j (by omega)
  · apply W.exit
    with_reducible apply At.then_exit
    with_reducible apply At.then_exit
    with_reducible apply At.in_exit
    with_reducible apply At.next
    apply W.seq
    apply W.reg
    apply oas; rfl; rfl
    apply OL.nil
    with_reducible apply At.next
    apply W.ret
    ((with_reducible apply At.fin1); rfl; rfl; intro w' hw')
    have : l1 = l2 := List.ext_getElem? fun j => by
      rcases Nat.lt_or_ge j l1.length with h | h
      · exact hsame j (by omega)
      · rw [List.getElem?_eq_none h, List.getElem?_eq_none (by omega)]
    exact ⟨by simp [this], by (exact hw'.toExt (by (repeat (first | exact List.Mem.head _ | apply List.Mem.tail))) (fun k hk => by (focus ((try simp only [add_block]); (repeat (first | exact NotOwned.nil | exact hno _ (by omega) | refine NotOwned.nothing ?_ | refine NotOwned.nds (hlow _ (by omega)) ?_ | refine NotOwned.mapS (by omega) ?_ | apply NotOwned.bif | refine NotOwned.blk (by omega) ?_ | refine NotOwned.row (by omega) ?_ | refine NotOwned.grid (by assumption) (by omega) ?_)); done))))⟩

/-! the reference's list is the store's, turned round -/
end Go.Proofs.Ytgllgllbgojhfaa.mo
