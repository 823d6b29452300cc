/- The walks of the reference's Ends and shut. Conditions: none. -/
import Derived.Test.YtlcclcakdfmgkaaLyG
import Derived.Test.YtlcclcakdfmgkaaLyF
namespace Go.Proofs.Ytlcclcakdfmgkaa.ly
open Go.RowKit Go.Eng Go.Ly
set_option linter.unusedVariables false
set_option linter.unusedSimpArgs false
set_option maxRecDepth 100000

theorem isT_or (t : Tok) (k : Int) (a b : BA) : (decide (t.kind = k) && (decide (t.text = a) || decide (t.text = b))) = (isT t k a || isT t k b) := by
  unfold isT; rw [Bool.and_or_distrib_left]
theorem upto_drop {l : List Cx} {i : Nat} {c : Cx} (h : l[i]? = some c) : uptoLet (l.drop i) = if isLet c then 1 else uptoLet (l.drop (i + 1)) + 1 := by rw [dropc h, uptoLet]
theorem any_drop {l : List Cx} {i : Nat} {c : Cx} (h : l[i]? = some c) : (l.drop i).any isLet = (isLet c || (l.drop (i + 1)).any isLet) := by rw [dropc h, List.any_cons]
theorem Ends_calls (q : Option Addr) (cap : Nat) (s : List Cx) (t : Tok) (w : World) (hlen : s.length ≤ 1000000) (h : SlAt w w.heap.size q (cat cc s.reverse)) :
    Calls Try.prog 43 #[.slice q s.length cap, .agg (tc t).toArray] w fun e w' => e = .returned (.tuple #[.int .i64 (((ends s t).1 : Nat) : Int), .bool (ends s t).2]) ∧ Ext w w' := by
  have hle := inn_le s
  refine enter Try.func43 rfl Try.ntmps43 rfl (Cls.start w) ?_
  (simp only [argEnv, Nat.zero_add, Nat.reduceAdd])
  apply W.seq
  apply W.reg
  apply OL.box; rfl; rfl; exact CellsL.agg; (intro bk hbk; simp only [AllLe, and_true] at hbk)
  apply oas; rfl; rfl
  apply oas; rfl; rfl
  apply OL.nil
  with_reducible apply At.next
  apply W.seq
  apply W.reg
  apply omv; rfl; rfl
  revert bk
  intro bt hbt
  refine OL.callE (α := Option Addr × Nat) (fun x => .slice x.1 (inn s).length x.2) (fun _ => True) (fun x w' => Cls [blk bt 51 (tc t)] [w] w' ∧ SlAt w' w'.heap.size x.1 (cat cc (inn s))) rfl rfl (by (repeat (first | exact Args.nil | (apply Args.cons rfl; ((first | exact fun _ => rfl | exact fun h => h | (intro h; simp_all; done))))))) (fun w2 hw2 => (blocks_calls q cap s w2 hlen (h.keep (hw2.below (s := w) (by (repeat (first | exact List.Mem.head _ | apply List.Mem.tail))) (Nat.le_refl _) (fun k hk => by (focus ((try simp only [add_block]); (repeat (first | exact NotOwned.nil | exact hno _ (by omega) | refine NotOwned.nothing ?_ | refine NotOwned.nds (hlow _ (by omega)) ?_ | refine NotOwned.mapS (by omega) ?_ | apply NotOwned.bif | refine NotOwned.blk (by omega) ?_ | refine NotOwned.row (by omega) ?_ | refine NotOwned.grid (by assumption) (by omega) ?_)); done)))) (hw2.kp w (by (repeat (first | exact List.Mem.head _ | apply List.Mem.tail)))).size)).mono fun _ w' ⟨x, h1, _, h2⟩ => ⟨(x.q, x.c), h1, trivial, hw2.ext (h2.toExt (.head _) (fun k hk => NotOwned.row hk .nil)), SlAt.of_row (h2.item (.head _))⟩) ?_
  rintro ⟨bq, bc⟩ _
  simp only
  refine ⟨fun a w1 hs1 hc1 => ?_⟩
  refine OL.run (C := Cls [] [w1]) ?_ a w1 hs1 (Cls.start w1)
  have hsl := hc1.2
  have hx1 : Ext w w1 := hc1.1.toExt (.head _) (fun k hk => NotOwned.blk (by omega) .nil)
  have hbt1 := blk_lt (hc1.1.item (.head _))
  have t0 : w1.cell? ⟨bt, 0 + 0, none⟩ = some (.int .i64 t.kind) := blk_cell (hc1.1.item (.head _))
  have t1 : w1.cell? ⟨bt, 0 + 1, none⟩ = some (.string t.text) := blk_cell (hc1.1.item (.head _))
  clear hs1 hc1
  apply oas; rfl; rfl
  apply OL.nil
  with_reducible apply At.next
  apply W.seq
  apply W.reg
  apply omv; rfl; rfl
  apply OL.op; exact Guard.none; rfl; rfl; apply Pev.len_slice; rfl; exact yes; rfl
  apply omv; rfl; rfl
  apply OL.op; exact Guard.none; rfl; rfl; apply Pev.len_slice; rfl; exact yes; rfl
  apply obn; rfl; rfl; rfl; apply Bin.lss
  apply oas; rfl; rfl
  apply OL.nil
  with_reducible apply At.next
  apply W.seq
  apply W.block
  apply W.seq
  apply W.reg
  apply ofa; rfl; rfl; rfl
  apply OL.op; exact Guard.none; rfl; rfl; apply Pev.load_kept; rfl; exact yes; exact .head _; rfl; intro hcond; assumption; intro hcond; assumption; intro hcond; exact NotOwned.nil
  apply obn; rfl; rfl; rfl; apply Bin.eql
  apply omv; rfl; rfl
  apply OL.op; exact Guard.yes rfl rfl; rfl; rfl; apply Pev.fld; rfl; exact yes; rfl
  apply OL.op; exact Guard.yes rfl rfl; rfl; rfl; apply Pev.load_kept; rfl; exact fun h => h; exact .head _; rfl; intro hcond; assumption; intro hcond; assumption; intro hcond; exact NotOwned.nil
  apply OL.op; exact Guard.yes rfl rfl; rfl; rfl; apply Pev.bin; rfl; exact fun h => h; rfl; exact yes; intro hcond; apply Bin.str_eql
  apply OL.op; exact Guard.yes rfl rfl; rfl; rfl; apply Pev.move; rfl; exact fun h => h
  apply OL.op; exact Guard.cno rfl rfl; rfl; rfl; apply Pev.fld; rfl; exact yes; rfl
  apply OL.op; exact Guard.cno rfl rfl; rfl; rfl; apply Pev.load_kept; rfl; exact fun h => h; exact .head _; rfl; intro hcond; assumption; intro hcond; assumption; intro hcond; exact NotOwned.nil
  apply OL.op; exact Guard.cno rfl rfl; rfl; rfl; apply Pev.bin; rfl; exact fun h => h; rfl; exact yes; intro hcond; apply Bin.str_eql
  apply OL.op; exact Guard.yes rfl rfl; rfl; rfl; apply Pev.pick_or; rfl; exact fun h => h; rfl; exact fun h => h
  apply OL.op; exact Guard.none; rfl; rfl; apply Pev.pick_and; rfl; exact yes; rfl; exact fun h => h
  apply oas; rfl; rfl
  apply OL.nil
  with_reducible apply At.next
  rw [isT_or]
  refine W.cond rfl (fun h1 => ?_) (fun h1 => ?_)
  · have he : ends s t = ((inn s).length, decide ((inn s).length < s.length)) := by unfold ends; rw [if_pos h1]
    rw [he]
    apply W.seq
    apply W.reg
    apply omv; rfl; rfl
    apply OL.op; exact Guard.none; rfl; rfl; apply Pev.len_slice; rfl; exact yes; rfl
    apply omv; rfl; rfl
    apply oas; rfl; rfl
    apply oas; rfl; rfl
    apply OL.nil
    with_reducible apply At.next
    apply W.ret
    with_reducible apply At.in_ret
    with_reducible apply At.then_ret
    ((with_reducible apply At.fin2); rfl; rfl; rfl; intro w' hw')
    exact ⟨by simp, hx1.trans (by (exact hw'.toExt (by (repeat (first | exact List.Mem.head _ | apply List.Mem.tail))) (fun k hk => by (focus ((try simp only [add_block]); (repeat (first | exact NotOwned.nil | exact hno _ (by omega) | refine NotOwned.nothing ?_ | refine NotOwned.nds (hlow _ (by omega)) ?_ | refine NotOwned.mapS (by omega) ?_ | apply NotOwned.bif | refine NotOwned.blk (by omega) ?_ | refine NotOwned.row (by omega) ?_ | refine NotOwned.grid (by assumption) (by omega) ?_)); done)))))⟩
  have e1 : ¬ ((isT t 5 ⟨#[41]⟩ || isT t 5 ⟨#[125]⟩) = true) := by rw [Bool.not_eq_true]; exact h1
  apply W.seq
  apply W.reg
  apply ofa; rfl; rfl; rfl
  apply OL.op; exact Guard.none; rfl; rfl; apply Pev.load_kept; rfl; exact yes; exact .head _; rfl; intro hcond; assumption; intro hcond; assumption; intro hcond; exact NotOwned.nil
  apply obn; rfl; rfl; rfl; apply Bin.eql
  apply omv; rfl; rfl
  apply OL.op; exact Guard.yes rfl rfl; rfl; rfl; apply Pev.fld; rfl; exact yes; rfl
  apply OL.op; exact Guard.yes rfl rfl; rfl; rfl; apply Pev.load_kept; rfl; exact fun h => h; exact .head _; rfl; intro hcond; assumption; intro hcond; assumption; intro hcond; exact NotOwned.nil
  apply OL.op; exact Guard.yes rfl rfl; rfl; rfl; apply Pev.bin; rfl; exact fun h => h; rfl; exact yes; intro hcond; apply Bin.str_eql
  apply OL.op; exact Guard.none; rfl; rfl; apply Pev.pick_and; rfl; exact yes; rfl; exact fun h => h
  apply omv; rfl; rfl
  apply OL.op; exact Guard.yes rfl rfl; rfl; rfl; apply Pev.move; rfl; exact yes
  apply OL.op; exact Guard.none; rfl; rfl; apply Pev.pick_and; rfl; exact yes; rfl; exact fun h => h
  apply oas; rfl; rfl
  apply OL.nil
  with_reducible apply At.next
  refine W.cond rfl (fun h2 => ?_) (fun h2 => ?_)
  · have h2' : isT t 5 ⟨#[44]⟩ = true ∧ ((inn s).length < s.length) := by
      rw [Bool.and_eq_true] at h2
      exact ⟨h2.1, by have := of_decide_eq_true h2.2; omega⟩
    have he : ends s t = ((inn s).length, false) := by unfold ends; rw [if_neg e1, if_pos h2'.1, if_pos h2'.2]
    rw [he]
    apply W.seq
    apply W.reg
    apply omv; rfl; rfl
    apply OL.op; exact Guard.none; rfl; rfl; apply Pev.len_slice; rfl; exact yes; rfl
    apply oas; rfl; rfl
    apply oas; rfl; rfl
    apply OL.nil
    with_reducible apply At.next
    apply W.ret
    with_reducible apply At.in_ret
    with_reducible apply At.then_ret
    ((with_reducible apply At.fin2); rfl; rfl; rfl; intro w' hw')
    exact ⟨rfl, hx1.trans (by (exact hw'.toExt (by (repeat (first | exact List.Mem.head _ | apply List.Mem.tail))) (fun k hk => by (focus ((try simp only [add_block]); (repeat (first | exact NotOwned.nil | exact hno _ (by omega) | refine NotOwned.nothing ?_ | refine NotOwned.nds (hlow _ (by omega)) ?_ | refine NotOwned.mapS (by omega) ?_ | apply NotOwned.bif | refine NotOwned.blk (by omega) ?_ | refine NotOwned.row (by omega) ?_ | refine NotOwned.grid (by assumption) (by omega) ?_)); done)))))⟩
  apply W.seq
  apply W.reg
  apply ofa; rfl; rfl; rfl
  apply OL.op; exact Guard.none; rfl; rfl; apply Pev.load_kept; rfl; exact yes; exact .head _; rfl; intro hcond; assumption; intro hcond; assumption; intro hcond; exact NotOwned.nil
  apply obn; rfl; rfl; rfl; apply Bin.eql
  apply omv; rfl; rfl
  apply OL.op; exact Guard.yes rfl rfl; rfl; rfl; apply Pev.fld; rfl; exact yes; rfl
  apply OL.op; exact Guard.yes rfl rfl; rfl; rfl; apply Pev.load_kept; rfl; exact fun h => h; exact .head _; rfl; intro hcond; assumption; intro hcond; assumption; intro hcond; exact NotOwned.nil
  apply OL.op; exact Guard.yes rfl rfl; rfl; rfl; apply Pev.bin; rfl; exact fun h => h; rfl; exact yes; intro hcond; apply Bin.str_eql
  apply OL.op; exact Guard.none; rfl; rfl; apply Pev.pick_and; rfl; exact yes; rfl; exact fun h => h
  apply oas; rfl; rfl
  apply OL.nil
  with_reducible apply At.next
  refine W.cond rfl (fun h3 => ?_) (fun h3 => ?_)
  · have h3' : isT t 4 ⟨#[105, 110]⟩ = true := h3
    have hk : ¬ (isT t 5 ⟨#[44]⟩ = true) := fun h => by
      unfold isT at h h3'
      rw [Bool.and_eq_true, decide_eq_true_eq] at h h3'
      omega
    have he : ends s t = (letN s, false) := by unfold ends; rw [if_neg e1, if_neg hk, if_pos h3']; rfl
    rw [he]
    have hN : letN s = if (inn s).any isLet then uptoLet (inn s) else 0 := rfl
    apply W.seq
    apply W.reg
    apply omv; rfl; rfl
    apply OL.op; exact Guard.none; rfl; rfl; apply Pev.len_slice; rfl; exact yes; rfl
    apply omv; rfl; rfl
    apply OL.nil
    with_reducible apply At.next
    apply W.block
    refine W.loop (G := Nat) (fun i => i ≤ (inn s).length ∧ (inn s).any isLet = ((inn s).drop i).any isLet ∧ uptoLet (inn s) = i + uptoLet ((inn s).drop i)) (fun i => (inn s).length - i)
      (fun i => [(57, true, .slice bq (inn s).length bc), (58, true, .int .i64 ((inn s).length : Int)), (59, true, .int .i64 (i : Int))])
      (fun i => Cls [] [w1]) 0 ⟨Nat.zero_le _, rfl, by simp⟩ (by (repeat (first | exact Sub.nil | apply Sub.cons rfl | (refine Sub.cons_eq rfl (congrArg (Value.int .i64) (by first | omega | (simp only; omega))) ?_)))) (fun w' hw' => hw') ?_
    rintro i ⟨hi, ha, hu⟩
    apply W.seq
    apply W.reg
    apply obn; rfl; rfl; rfl; apply Bin.lss
    apply OL.nil
    with_reducible apply At.next
    apply W.seq
    (refine W.cond rfl (fun hlt => ?_) (fun hlt => ?_)) <;> (try (simp only [Bool.and_eq_true, Bool.or_eq_true, Bool.not_eq_true', Bool.and_eq_false_iff, Bool.or_eq_false_iff, Bool.not_eq_false', decide_eq_true_eq, decide_eq_false_iff_not, Int.not_lt, Int.not_le] at hlt)) <;> (try (exfalso; first | omega | exact hlt trivial | contradiction))
    · obtain ⟨a2, c, rfl, hab, hc, hcell⟩ := hsl.elem clen (by decide) (show i < (inn s).length by omega)
      rw [upto_drop hc] at hu
      rw [any_drop hc] at ha
      apply W.skip
      with_reducible apply At.next
      apply W.seq
      apply W.block
      apply W.seq
      apply W.reg
      apply omv; rfl; rfl
      apply OL.op; exact Guard.none; rfl; rfl; apply Pev.idx; rfl; exact yes; rfl; exact yes; rfl; rfl; intro hcond; omega
      apply OL.op; exact Guard.none; rfl; rfl; apply Pev.load_keptA; rfl; exact yes; exact .head _; rfl; intro hcond; assumption; rfl; intro hcond; (rw [add_block]; assumption); intro hcond; exact NotOwned.nil
      apply OL.alloc; rfl; rfl; exact CellsL.agg; (intro bk hbk; simp only [AllLe, and_true] at hbk)
      apply oas; rfl; rfl
      apply OL.storeB; rfl; rfl; exact CellsL.agg; rfl; rfl; rfl; apply Swap.z; apply Put.here; apply Over.cons; apply Over.cons; apply Over.nil
      apply OL.nil
      with_reducible apply At.next
      apply W.seq
      apply W.reg
      apply ofa; rfl; rfl; rfl
      apply old; rfl; rfl; exact .head _; rfl; rfl
      apply obn; rfl; rfl; rfl; apply Bin.str_eql
      apply OL.nil
      with_reducible apply At.next
      refine W.cond rfl (fun h4 => ?_) (fun h4 => ?_)
      · have h4' : isLet c = true := h4
        rw [h4', if_pos rfl] at hu
        rw [h4', Bool.true_or] at ha
        rw [ha, if_pos rfl, hu] at hN
        apply W.seq
        apply W.reg
        apply omv; rfl; rfl
        apply obn; rfl; rfl; rfl; apply Bin.add_in; omega
        apply oas; rfl; rfl
        apply oas; rfl; rfl
        apply OL.nil
        with_reducible apply At.next
        apply W.ret
        with_reducible apply At.in_ret
        with_reducible apply At.then_ret
        with_reducible apply At.then_ret
        with_reducible apply At.in_ret
        with_reducible apply At.in_ret
        with_reducible apply At.then_ret
        ((with_reducible apply At.fin2); rfl; rfl; rfl; intro w' hw')
        exact ⟨by rw [hN]; rfl, hx1.trans (by (exact hw'.toExt (by (repeat (first | exact List.Mem.head _ | apply List.Mem.tail))) (fun k hk => by (focus ((try simp only [add_block]); (repeat (first | exact NotOwned.nil | exact hno _ (by omega) | refine NotOwned.nothing ?_ | refine NotOwned.nds (hlow _ (by omega)) ?_ | refine NotOwned.mapS (by omega) ?_ | apply NotOwned.bif | refine NotOwned.blk (by omega) ?_ | refine NotOwned.row (by omega) ?_ | refine NotOwned.grid (by assumption) (by omega) ?_)); done)))))⟩
      · have h4' : isLet c = false := h4
        rw [h4', if_neg (by simp)] at hu
        rw [h4', Bool.false_or] at ha
        apply W.skip
        with_reducible apply At.in_normal
        with_reducible apply At.next
        apply W.reg
        apply obn; rfl; rfl; rfl; apply Bin.add_in; omega
        apply omv; rfl; rfl
        apply OL.nil
        exact At.again (i + 1) ⟨by omega, ha, by omega⟩ (by omega) (by (repeat (first | exact Sub.nil | apply Sub.cons rfl | (refine Sub.cons_eq rfl (congrArg (Value.int .i64) (by first | omega | (simp only; omega))) ?_)))) (fun w' hw' => hw'.thin (by (repeat (first | exact Thin.nil | exact Thin.same | apply Thin.keep | (refine Thin.blk (by assumption) ?_) | (refine Thin.blk (by simp only [AllLe, and_true]; omega) ?_)))))
    · rw [List.drop_eq_nil_of_le (by omega)] at ha
      rw [ha] at hN
      simp only [List.any_nil, Bool.false_eq_true, if_false] at hN
      apply W.exit
      with_reducible apply At.then_exit
      with_reducible apply At.then_exit
      with_reducible apply At.in_exit
      with_reducible apply At.in_normal
      with_reducible apply At.next
      apply W.seq
      apply W.reg
      apply oas; rfl; rfl
      apply oas; rfl; rfl
      apply OL.nil
      with_reducible apply At.next
      apply W.ret
      ((with_reducible apply At.fin2); rfl; rfl; rfl; intro w' hw')
      exact ⟨by rw [hN]; rfl, hx1.trans (by (exact hw'.toExt (by (repeat (first | exact List.Mem.head _ | apply List.Mem.tail))) (fun k hk => by (focus ((try simp only [add_block]); (repeat (first | exact NotOwned.nil | exact hno _ (by omega) | refine NotOwned.nothing ?_ | refine NotOwned.nds (hlow _ (by omega)) ?_ | refine NotOwned.mapS (by omega) ?_ | apply NotOwned.bif | refine NotOwned.blk (by omega) ?_ | refine NotOwned.row (by omega) ?_ | refine NotOwned.grid (by assumption) (by omega) ?_)); done)))))⟩
  · have he : ends s t = (0, false) := by
      unfold ends
      rw [if_neg e1]
      by_cases hk : isT t 5 ⟨#[44]⟩ = true
      · rw [if_pos hk, if_neg]
        intro hl
        have : (isT t 5 ⟨#[44]⟩ && decide (((inn s).length : Int) < s.length)) = true := by rw [hk]; simp; omega
        rw [show (isT t 5 ⟨#[44]⟩ && decide (((inn s).length : Int) < s.length)) = false from h2] at this
        cases this
      · rw [if_neg hk, if_neg (by rw [show isT t 4 ⟨#[105, 110]⟩ = false from h3]; simp)]
    rw [he]
    apply W.skip
    with_reducible apply At.in_normal
    with_reducible apply At.next
    apply W.seq
    apply W.reg
    apply oas; rfl; rfl
    apply oas; rfl; rfl
    apply OL.nil
    with_reducible apply At.next
    apply W.ret
    ((with_reducible apply At.fin2); rfl; rfl; rfl; intro w' hw')
    exact ⟨rfl, hx1.trans (by (exact hw'.toExt (by (repeat (first | exact List.Mem.head _ | apply List.Mem.tail))) (fun k hk => by (focus ((try simp only [add_block]); (repeat (first | exact NotOwned.nil | exact hno _ (by omega) | refine NotOwned.nothing ?_ | refine NotOwned.nds (hlow _ (by omega)) ?_ | refine NotOwned.mapS (by omega) ?_ | apply NotOwned.bif | refine NotOwned.blk (by omega) ?_ | refine NotOwned.row (by omega) ?_ | refine NotOwned.grid (by assumption) (by omega) ?_)); done)))))⟩
end Go.Proofs.Ytlcclcakdfmgkaa.ly
