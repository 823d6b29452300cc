/- The walks of the reference's depthOf and nodeError. Conditions: none. -/
import Derived.Test.YtlcclcakdfmgkaaPkH
import Derived.Test.YtlcclcakdfmgkaaPkE
namespace Go.Proofs.Ytlcclcakdfmgkaa.pk
open Go.RowKit Go.Eng Go.Pk
set_option linter.unusedVariables false
set_option linter.unusedSimpArgs false
set_option maxRecDepth 100000

theorem depthOf_calls (t : List Nk) (i : Nat) (a : Addr) (cap : Nat) (w : World) (hi : i < t.length) (hlen : t.length ≤ 300) (hn : NodesAt w (some a) t) (hk : ∀ j u, j ≤ i → t[j]? = some u → ∀ k ∈ u.kids, 0 ≤ k ∧ k < (j : Int)) :
    Calls Try.prog 64 #[.slice (some a) t.length cap, .int .i64 (i : Int)] w fun e w' => e = .returned (.int .i64 (dep t i)) ∧ Ext w w' := by
  refine enter Try.func64 rfl Try.ntmps64 rfl (Cls.start w) ?_
  (simp only [argEnv, Nat.zero_add, Nat.reduceAdd])
  apply W.seq
  apply W.reg
  apply oas; rfl; rfl
  apply OL.nil
  with_reducible apply At.next
  apply W.seq
  apply W.reg
  apply omv; rfl; rfl
  apply obn; rfl; rfl; rfl; apply Bin.add_in; omega
  ((apply OL.makeSlice (m := i + 1)); rfl; rfl; rfl; rfl; rfl; omega; omega; omega; (intro bk hbk; simp only [AllLe, and_true] at hbk))
  apply oas; rfl; rfl
  apply OL.nil
  with_reducible apply At.next
  apply W.seq
  apply W.seq
  apply W.reg
  apply oas; rfl; rfl
  apply OL.nil
  with_reducible apply At.next
  apply W.block
  refine W.loop (G := Nat) (fun k => k ≤ i + 1) (fun k => i + 1 - k)
    (fun k => [(0, true, .slice (some a) t.length cap), (1, true, .int .i64 (i : Int)), (5, true, .slice (some ⟨bk, 0, none⟩) (i + 1) (i + 1)), (6, true, .int .i64 (k : Int))])
    (fun k => Cls [blk bk 3 (ins (dps t k ++ List.replicate (i + 1 - k) 0))] [w]) 0 (by omega) (by (repeat (first | exact Sub.nil | apply Sub.cons rfl | (refine Sub.cons_eq rfl (congrArg (Value.int .i64) (by first | omega | (simp only; omega))) ?_)))) (fun w' hw' => by rw [dps0]; exact hw') ?_
  rintro k hki
  apply W.seq
  apply W.seq
  apply W.reg
  apply omv; rfl; rfl
  apply omv; rfl; rfl
  apply obn; rfl; rfl; rfl; apply Bin.leq
  apply OL.nil
  with_reducible apply At.next
  (refine W.cond rfl (fun hlt => ?_) (fun hlt => ?_)) <;> (try (simp only [Bool.and_eq_true, Bool.or_eq_true, Bool.not_eq_true', Bool.and_eq_false_iff, Bool.or_eq_false_iff, Bool.not_eq_false', decide_eq_true_eq, decide_eq_false_iff_not, Int.not_lt, Int.not_le] at hlt)) <;> (try (exfalso; first | omega | exact hlt trivial | contradiction))
  · have hkl : k < i + 1 := by omega
    obtain ⟨u, hu⟩ : ∃ u, t[k]? = some u := ⟨_, List.getElem?_eq_getElem (by omega)⟩
    obtain ⟨a', ea, _, hc, hul, hus⟩ := node_at hn hu
    cases ea
    have hkk := hk k u (by omega) hu
    have hdep := dep_eq hu
    rw [dl_start hkl]
    obtain ⟨kind, text, nn, kids, kq, kcap, line, col⟩ := u
    simp only at hul hus hkk hdep
    simp only [nc] at hc
    apply W.skip
    with_reducible apply At.next
    apply W.seq
    apply W.block
    apply W.seq
    apply W.seq
    apply W.reg
    apply omv; rfl; rfl
    apply omv; rfl; rfl
    apply OL.op; exact Guard.none; rfl; rfl; apply Pev.idx; rfl; exact yes; rfl; exact yes; rfl; rfl; intro hcond; omega
    apply OL.op; exact Guard.none; rfl; rfl; apply Pev.fldA; rfl; exact yes; rfl
    apply OL.op; exact Guard.none; rfl; rfl; apply Pev.load_kept; rfl; exact yes; exact .head _; rfl; intro hcond; apply CellsAt.at_ (by assumption) rfl; intro hcond; (simp only [add_block]; assumption); intro hcond; simp only [add_block]; refine NotOwned.blk (by omega) ?_; exact NotOwned.nil
    apply OL.op; exact Guard.none; rfl; rfl; apply Pev.len_slice; rfl; exact yes; rfl
    apply omv; rfl; rfl
    apply OL.nil
    with_reducible apply At.next
    apply W.block
    refine W.loop (G := Nat) (fun j => j ≤ kids.length) (fun j => kids.length - j)
      (fun j => [(0, true, .slice (some a) t.length cap), (1, true, .int .i64 (i : Int)), (5, true, .slice (some ⟨bk, 0, none⟩) (i + 1) (i + 1)), (6, true, .int .i64 (k : Int)), (21, true, .slice kq kids.length kcap), (22, true, .int .i64 (kids.length : Int)), (23, true, .int .i64 (j : Int))])
      (fun j => Cls [blk bk 3 (ins (dl t k (mx (dps t k) (kids.take j) 0) (i + 1)))] [w]) 0 (by omega) (by (repeat (first | exact Sub.nil | apply Sub.cons rfl | (refine Sub.cons_eq rfl (congrArg (Value.int .i64) (by first | omega | (simp only; omega))) ?_)))) (fun w' hw' => hw') ?_
    rintro j hj
    apply W.seq
    apply W.reg
    apply obn; rfl; rfl; rfl; apply Bin.lss
    apply OL.nil
    with_reducible apply At.next
    apply W.seq
    (refine W.cond rfl (fun hlt2 => ?_) (fun hlt2 => ?_)) <;> (try (simp only [Bool.and_eq_true, Bool.or_eq_true, Bool.not_eq_true', Bool.and_eq_false_iff, Bool.or_eq_false_iff, Bool.not_eq_false', decide_eq_true_eq, decide_eq_false_iff_not, Int.not_lt, Int.not_le] at hlt2)) <;> (try (exfalso; first | omega | exact hlt2 trivial | contradiction))
    · have hjl : j < kids.length := by omega
      obtain ⟨ak, x, rfl, hakb, hx, hcell⟩ := SlAt.int hus hjl
      have hxr := hkk x (List.mem_of_getElem? hx)
      obtain ⟨m, rfl⟩ := Int.eq_ofNat_of_zero_le hxr.1
      have hmk : m < k := by omega
      have hd1 := dl_at (t := t) (i := k) (n := i + 1) (m := mx (dps t k) (kids.take j) 0)
      have hd2 := dl_old (t := t) (i := k) (n := i + 1) (m := mx (dps t k) (kids.take j) 0) hmk
      have hd3 := dl_set (t := t) (i := k) (n := i + 1) (m := mx (dps t k) (kids.take j) 0) (m' := (dps t k).getD m 0)
      have hdl1 : (ins (dl t k (mx (dps t k) (kids.take j) 0) (i + 1))).length = i + 1 := by rw [ins_length, dl_len hkl]
      have e2 : mx (dps t k) (kids.take (j + 1)) 0 = (if mx (dps t k) (kids.take j) 0 < (dps t k).getD m 0 then (dps t k).getD m 0 else mx (dps t k) (kids.take j) 0) := (mx_step hx).trans (by show max (mx (dps t k) (kids.take j) 0) ((dps t k).getD m 0) = _; rw [Int.max_def]; split <;> split <;> omega)
      apply W.skip
      with_reducible apply At.next
      apply W.seq
      apply W.block
      apply W.seq
      apply W.reg
      apply OL.op; exact Guard.none; rfl; rfl; apply Pev.idx; rfl; exact yes; rfl; exact yes; rfl; rfl; intro hcond; omega
      apply OL.op; exact Guard.none; rfl; rfl; apply Pev.load_kept; rfl; exact yes; exact .head _; rfl; intro hcond; assumption; intro hcond; (rw [add_block]; assumption); intro hcond; simp only [add_block]; refine NotOwned.blk (by omega) ?_; exact NotOwned.nil
      apply oas; rfl; rfl
      apply OL.nil
      with_reducible apply At.next
      apply W.seq
      apply W.regd0; decide +kernel; kernel_rfl; decide +kernel; exact fun w hw => hw.drew
      apply qmv; rfl; rfl
      apply qmv; rfl; rfl
      apply QL.op; exact Guard.none; rfl; rfl; apply Pev.idxB; rfl; exact yes; rfl; exact yes; rfl; intro hcond; omega; rfl
      apply QL.op; exact Guard.none; rfl; rfl; apply Pev.load_blk; rfl; exact yes; exact .head _; rfl; assumption
      apply qmv; rfl; rfl
      apply qmv; rfl; rfl
      apply QL.op; exact Guard.none; rfl; rfl; apply Pev.idxB; rfl; exact yes; rfl; exact yes; rfl; intro hcond; omega; rfl
      apply QL.op; exact Guard.none; rfl; rfl; apply Pev.load_blk; rfl; exact yes; exact .head _; rfl; assumption
      apply qbn; rfl; rfl; rfl; apply Bin.gtr
      apply QL.nil
      with_reducible apply At.next
      refine W.cond rfl (fun hb => ?_) (fun hb => ?_)
      · rw [if_pos (of_decide_eq_true hb)] at e2
        apply W.reg
        apply omv; rfl; rfl
        apply omv; rfl; rfl
        apply omv; rfl; rfl
        apply omv; rfl; rfl
        apply OL.op; exact Guard.none; rfl; rfl; apply Pev.idxB; rfl; exact yes; rfl; exact yes; rfl; intro hcond; omega; rfl
        apply OL.op; exact Guard.none; rfl; rfl; apply Pev.load_blk; rfl; exact yes; exact .head _; rfl; assumption
        apply OL.op; exact Guard.none; rfl; rfl; apply Pev.idxB; rfl; exact yes; rfl; exact yes; rfl; intro hcond; omega; rfl
        (apply OL.storeI); rfl; rfl; rfl; rfl; rfl; ((repeat (first | apply Swap.z | apply Swap.s))); (omega)
        rw [hd3]
        apply OL.nil
        with_reducible apply At.in_normal
        with_reducible apply At.next
        apply W.reg
        apply obn; rfl; rfl; rfl; apply Bin.add_in; omega
        apply omv; rfl; rfl
        apply OL.nil
        exact At.again (j + 1) (by omega) (by omega) (by (repeat (first | exact Sub.nil | apply Sub.cons rfl | (refine Sub.cons_eq rfl (congrArg (Value.int .i64) (by first | omega | (simp only; omega))) ?_)))) (fun w' hw' => by simp only [e2]; exact hw')
      · rw [if_neg (of_decide_eq_false hb)] at e2
        apply W.skip
        with_reducible apply At.in_normal
        with_reducible apply At.next
        apply W.reg
        apply obn; rfl; rfl; rfl; apply Bin.add_in; omega
        apply omv; rfl; rfl
        apply OL.nil
        exact At.again (j + 1) (by omega) (by omega) (by (repeat (first | exact Sub.nil | apply Sub.cons rfl | (refine Sub.cons_eq rfl (congrArg (Value.int .i64) (by first | omega | (simp only; omega))) ?_)))) (fun w' hw' => by simp only [e2]; exact hw')
    · have hje : j = kids.length := by omega
      subst hje
      rw [take_all]
      have hmx := mx_le t k kids
      have hd1 := dl_at (t := t) (i := k) (n := i + 1) (m := mx (dps t k) kids 0)
      have hd3 : (ins (dl t k (mx (dps t k) kids 0) (i + 1))).set (0 + (k : Int).toNat * 1) (.int .i64 (mx (dps t k) kids 0 + 1)) = ins (dl t k (dep t k) (i + 1)) := by rw [hdep]; exact dl_set
      have hdl1 : (ins (dl t k (mx (dps t k) kids 0) (i + 1))).length = i + 1 := by rw [ins_length, dl_len hkl]
      apply W.exit
      with_reducible apply At.then_exit
      with_reducible apply At.then_exit
      with_reducible apply At.in_exit
      with_reducible apply At.next
      apply W.reg
      apply omv; rfl; rfl
      apply omv; rfl; rfl
      apply OL.op; exact Guard.none; rfl; rfl; apply Pev.idxB; rfl; exact yes; rfl; exact yes; rfl; intro hcond; omega; rfl
      apply OL.op; exact Guard.none; rfl; rfl; apply Pev.load_blk; rfl; exact yes; exact .head _; rfl; assumption
      apply obn; rfl; rfl; rfl; apply Bin.add_in; omega
      apply OL.op; exact Guard.none; rfl; rfl; apply Pev.idxB; rfl; exact yes; rfl; exact yes; rfl; intro hcond; omega; rfl
      (apply OL.storeI); rfl; rfl; rfl; rfl; rfl; ((repeat (first | apply Swap.z | apply Swap.s))); (omega)
      rw [hd3]
      apply OL.nil
      with_reducible apply At.in_normal
      with_reducible apply At.next
      apply W.reg
      apply omv; rfl; rfl
      apply obn; rfl; rfl; rfl; apply Bin.add_in; omega
      apply oas; rfl; rfl
      apply OL.nil
      exact At.again (k + 1) (by omega) (by omega) (by (repeat (first | exact Sub.nil | apply Sub.cons rfl | (refine Sub.cons_eq rfl (congrArg (Value.int .i64) (by first | omega | (simp only; omega))) ?_)))) (fun w' hw' => by rw [← dl_end hkl]; exact hw')
  · have hke : k = i + 1 := by omega
    subst hke
    have hd4 : (ins (dps t (i + 1) ++ List.replicate (i + 1 - (i + 1)) 0))[0 + i * 1]? = some (.int .i64 (dep t i)) := by
      rw [← dl_end (by omega)]
      exact dl_at
    apply W.exit
    with_reducible apply At.then_exit
    with_reducible apply At.then_exit
    with_reducible apply At.in_exit
    with_reducible apply At.next
    apply W.seq
    apply W.reg
    apply omv; rfl; rfl
    apply omv; rfl; rfl
    apply OL.op; exact Guard.none; rfl; rfl; apply Pev.idxB; rfl; exact yes; rfl; exact yes; rfl; intro hcond; omega; rfl
    apply OL.op; exact Guard.none; rfl; rfl; apply Pev.load_blk; rfl; exact yes; exact .head _; rfl; assumption
    apply oas; rfl; rfl
    apply OL.nil
    with_reducible apply At.next
    apply W.ret
    ((with_reducible apply At.fin1); rfl; rfl; intro w' hw')
    exact ⟨rfl, by (exact hw'.toExt (by (repeat (first | exact List.Mem.head _ | apply List.Mem.tail))) (fun k hk => by (focus ((try simp only [add_block]); (repeat (first | exact NotOwned.nil | exact hno _ (by omega) | refine NotOwned.nothing ?_ | refine NotOwned.nds (hlow _ (by omega)) ?_ | refine NotOwned.mapS (by omega) ?_ | apply NotOwned.bif | refine NotOwned.blk (by omega) ?_ | refine NotOwned.row (by omega) ?_ | refine NotOwned.grid (by assumption) (by omega) ?_)); done))))⟩
end Go.Proofs.Ytlcclcakdfmgkaa.pk
