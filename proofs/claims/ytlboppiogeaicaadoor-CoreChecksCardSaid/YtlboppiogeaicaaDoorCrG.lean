/- The walks of the reference's goodForm and goodKids. Conditions: none. (Printed by crc.py.) The walks of the reference's Depth and binder. Conditions: none. The walks of the reference's BodyFault and Fault. Conditions: none. -/
import Derived.Test.YtlboppiogeaicaaDoorCrB
import Derived.Test.YtlboppiogeaicaaDoorCrE
import Derived.Test.YtlboppiogeaicaaDoorCoK
namespace Go.Proofs.YtlboppiogeaicaaDoor.co
open Go.RowKit Go.Eng Go.Co
set_option linter.unusedVariables false
set_option linter.unusedSimpArgs false
set_option maxRecDepth 100000
theorem goodForm_calls (es : List (Ex × ExY)) (q : Option Addr) (cap : Nat) (x : Ex) (y : ExY) (flat : Bool) (w : World) (h : ExOk w (low w) x y) :
    Calls Tryd.prog 72 [.slice q es.length cap, .agg (exC x y).toArray, .bool flat].toArray w fun e w' => e = .returned (.bool (!flatBad flat x.op && formR x)) ∧ Ext w w' := by
  have hal := h.al
  have hkl := h.kl
  have hbl := h.bl
  refine enter Tryd.func72 rfl Tryd.ntmps72 rfl (Cls.start w) ?_
  (simp only [argEnv, Nat.zero_add, Nat.reduceAdd])
  simp only [exC]
  apply W.seq
  apply W.reg
  apply OL.box; rfl; rfl; exact CellsL.agg; (intro bk hbk; simp only [AllLe, and_true] at hbk)
  apply oas; rfl; rfl
  apply OL.nil
  with_reducible apply At.next
  apply W.seq
  apply W.reg
  apply ofa; rfl; rfl; rfl
  apply old; rfl; rfl; exact .head _; rfl; rfl
  apply obn; rfl; rfl; rfl; apply Bin.eql
  apply omv; rfl; rfl
  apply OL.op; exact Guard.no rfl rfl; rfl; rfl; apply Pev.fld; rfl; exact yes; rfl
  apply OL.op; exact Guard.no rfl rfl; rfl; rfl; apply Pev.load_blk; rfl; exact fun h => h; exact .head _; rfl; rfl
  apply OL.op; exact Guard.no rfl rfl; rfl; rfl; apply Pev.bin; rfl; exact fun h => h; rfl; exact yes; intro hcond; apply Bin.eql
  apply OL.op; exact Guard.none; rfl; rfl; apply Pev.pick_or; rfl; exact yes; rfl; exact fun h => h
  apply omv; rfl; rfl
  apply OL.op; exact Guard.no rfl rfl; rfl; rfl; apply Pev.fld; rfl; exact yes; rfl
  apply OL.op; exact Guard.no rfl rfl; rfl; rfl; apply Pev.load_blk; rfl; exact fun h => h; exact .head _; rfl; rfl
  apply OL.op; exact Guard.no rfl rfl; rfl; rfl; apply Pev.bin; rfl; exact fun h => h; rfl; exact yes; intro hcond; apply Bin.eql
  apply OL.op; exact Guard.none; rfl; rfl; apply Pev.pick_or; rfl; exact yes; rfl; exact fun h => h
  apply oas; rfl; rfl
  apply OL.nil
  with_reducible apply At.next
  apply W.seq
  apply W.reg
  apply ofa; rfl; rfl; rfl
  apply old; rfl; rfl; exact .head _; rfl; rfl
  apply obn; rfl; rfl; rfl; apply Bin.eql
  apply omv; rfl; rfl
  apply OL.op; exact Guard.no rfl rfl; rfl; rfl; apply Pev.fld; rfl; exact yes; rfl
  apply OL.op; exact Guard.no rfl rfl; rfl; rfl; apply Pev.load_blk; rfl; exact fun h => h; exact .head _; rfl; rfl
  apply OL.op; exact Guard.no rfl rfl; rfl; rfl; apply Pev.bin; rfl; exact fun h => h; rfl; exact yes; intro hcond; apply Bin.eql
  apply OL.op; exact Guard.none; rfl; rfl; apply Pev.pick_or; rfl; exact yes; rfl; exact fun h => h
  apply omv; rfl; rfl
  apply OL.op; exact Guard.no rfl rfl; rfl; rfl; apply Pev.fld; rfl; exact yes; rfl
  apply OL.op; exact Guard.no rfl rfl; rfl; rfl; apply Pev.load_blk; rfl; exact fun h => h; exact .head _; rfl; rfl
  apply OL.op; exact Guard.no rfl rfl; rfl; rfl; apply Pev.bin; rfl; exact fun h => h; rfl; exact yes; intro hcond; apply Bin.eql
  apply OL.op; exact Guard.none; rfl; rfl; apply Pev.pick_or; rfl; exact yes; rfl; exact fun h => h
  apply omv; rfl; rfl
  apply OL.op; exact Guard.no rfl rfl; rfl; rfl; apply Pev.fld; rfl; exact yes; rfl
  apply OL.op; exact Guard.no rfl rfl; rfl; rfl; apply Pev.load_blk; rfl; exact fun h => h; exact .head _; rfl; rfl
  apply OL.op; exact Guard.no rfl rfl; rfl; rfl; apply Pev.bin; rfl; exact fun h => h; rfl; exact yes; intro hcond; apply Bin.eql
  apply OL.op; exact Guard.none; rfl; rfl; apply Pev.pick_or; rfl; exact yes; rfl; exact fun h => h
  apply oas; rfl; rfl
  apply OL.nil
  with_reducible apply At.next
  apply W.seq
  apply W.reg
  apply OL.op; exact Guard.none; rfl; rfl; apply Pev.load_blkA; rfl; exact yes; exact .head _; rfl; apply Take.succ; apply Take.succ; apply Take.succ; apply Take.succ; apply Take.succ; apply Take.zero
  (((first | (with_reducible apply OL.op) | (with_reducible apply QL.op)); ((first | exact Guard.none | exact Guard.yes rfl rfl | exact Guard.no rfl rfl | exact Guard.cyes rfl rfl | exact Guard.cno rfl rfl)); rfl; rfl); (exact Pev.call rfl (by (repeat (first | exact Args.nil | (apply Args.cons rfl; ((first | exact fun _ => rfl | exact fun h => h | (intro h; simp_all; done))))))) (fun _ w2 hw2 => (kidsOf_calls x y w2 (h.at hw2 (by (repeat (first | exact List.Mem.head _ | apply List.Mem.tail))) (fun k hk => by (focus ((try simp only [add_block]); (repeat (first | exact NotOwned.nil | exact hno _ (by omega) | refine NotOwned.nothing ?_ | refine NotOwned.nds (hlow _ (by omega)) ?_ | refine NotOwned.mapS (by omega) ?_ | apply NotOwned.bif | refine NotOwned.blk (by omega) ?_ | refine NotOwned.row (by omega) ?_ | refine NotOwned.grid (by assumption) (by omega) ?_ | refine NotOwned.pile (by omega) ?_ | refine NotOwned.pool (by omega) ?_ | refine NotOwned.mapI (by omega) ?_ | refine NotOwned.mapX (by omega) ?_ | refine NotOwned.itI (by omega) ?_)); done))))).mono (fun e w3 h => ⟨h.1, hw2.ext h.2⟩))))
  apply omv; rfl; rfl
  apply oex; rfl; rfl; rfl
  apply oex; rfl; rfl; rfl
  apply oas; rfl; rfl
  apply oas; rfl; rfl
  apply OL.nil
  with_reducible apply At.next
  apply W.seq
  apply W.seq
  apply W.reg
  apply omv; rfl; rfl
  apply omv; rfl; rfl
  apply OL.op; exact Guard.yes rfl rfl; rfl; rfl; apply Pev.move; rfl; exact yes
  apply OL.op; exact Guard.yes rfl rfl; rfl; rfl; apply Pev.not; rfl; exact fun h => h
  apply OL.op; exact Guard.none; rfl; rfl; apply Pev.pick_and; rfl; exact yes; rfl; exact fun h => h
  apply omv; rfl; rfl
  apply OL.op; exact Guard.no rfl rfl; rfl; rfl; apply Pev.move; rfl; exact yes
  apply OL.op; exact Guard.no rfl rfl; rfl; rfl; apply Pev.move; rfl; exact fun h => h
  apply OL.op; exact Guard.cyes rfl rfl; rfl; rfl; apply Pev.move; rfl; exact yes
  apply OL.op; exact Guard.no rfl rfl; rfl; rfl; apply Pev.pick_and; rfl; exact fun h => h; rfl; exact fun h => h
  apply OL.op; exact Guard.none; rfl; rfl; apply Pev.pick_or; rfl; exact yes; rfl; exact fun h => h
  apply omv; rfl; rfl
  apply OL.op; exact Guard.no rfl rfl; rfl; rfl; apply Pev.move; rfl; exact yes
  apply OL.op; exact Guard.no rfl rfl; rfl; rfl; apply Pev.fld; rfl; exact yes; rfl
  apply OL.op; exact Guard.no rfl rfl; rfl; rfl; apply Pev.load_blk; rfl; exact fun h => h; exact .head _; rfl; rfl
  apply OL.op; exact Guard.no rfl rfl; rfl; rfl; apply Pev.len_slice; rfl; exact fun h => h; rfl
  apply OL.op; exact Guard.no rfl rfl; rfl; rfl; apply Pev.bin; rfl; exact fun h => h; rfl; exact fun h => h; intro hcond; apply Bin.neq
  apply OL.op; exact Guard.none; rfl; rfl; apply Pev.pick_or; rfl; exact yes; rfl; exact fun h => h
  apply omv; rfl; rfl
  apply OL.op; exact Guard.no rfl rfl; rfl; rfl; apply Pev.move; rfl; exact yes
  apply OL.op; exact Guard.no rfl rfl; rfl; rfl; apply Pev.not; rfl; exact fun h => h
  apply OL.op; exact Guard.no rfl rfl; rfl; rfl; apply Pev.move; rfl; exact fun h => h
  apply OL.op; exact Guard.cyes rfl rfl; rfl; rfl; apply Pev.fld; rfl; exact yes; rfl
  apply OL.op; exact Guard.cyes rfl rfl; rfl; rfl; apply Pev.load_blk; rfl; exact fun h => h; exact .head _; rfl; rfl
  apply OL.op; exact Guard.cyes rfl rfl; rfl; rfl; apply Pev.bin; rfl; exact fun h => h; rfl; exact yes; intro hcond; apply Bin.neq
  apply OL.op; exact Guard.no rfl rfl; rfl; rfl; apply Pev.pick_and; rfl; exact fun h => h; rfl; exact fun h => h
  apply OL.op; exact Guard.none; rfl; rfl; apply Pev.pick_or; rfl; exact yes; rfl; exact fun h => h
  apply omv; rfl; rfl
  apply OL.op; exact Guard.no rfl rfl; rfl; rfl; apply Pev.load_blkA; rfl; exact yes; exact .head _; rfl; apply Take.succ; apply Take.succ; apply Take.succ; apply Take.succ; apply Take.succ; apply Take.zero
  (((first | (with_reducible apply OL.op) | (with_reducible apply QL.op)); ((first | exact Guard.none | exact Guard.yes rfl rfl | exact Guard.no rfl rfl | exact Guard.cyes rfl rfl | exact Guard.cno rfl rfl)); rfl; rfl); (exact Pev.call rfl (by (repeat (first | exact Args.nil | (apply Args.cons rfl; ((first | exact fun _ => rfl | exact fun h => h | (intro h; simp_all; done))))))) (fun _ w2 hw2 => (goodAlts_calls x y w2 (h.at hw2 (by (repeat (first | exact List.Mem.head _ | apply List.Mem.tail))) (fun k hk => by (focus ((try simp only [add_block]); (repeat (first | exact NotOwned.nil | exact hno _ (by omega) | refine NotOwned.nothing ?_ | refine NotOwned.nds (hlow _ (by omega)) ?_ | refine NotOwned.mapS (by omega) ?_ | apply NotOwned.bif | refine NotOwned.blk (by omega) ?_ | refine NotOwned.row (by omega) ?_ | refine NotOwned.grid (by assumption) (by omega) ?_ | refine NotOwned.pile (by omega) ?_ | refine NotOwned.pool (by omega) ?_ | refine NotOwned.mapI (by omega) ?_ | refine NotOwned.mapX (by omega) ?_ | refine NotOwned.itI (by omega) ?_)); done))))).mono (fun e w3 h => ⟨h.1, hw2.ext h.2⟩))))
  have hflat : flatBad flat x.op = (flat && (decide (x.op = 2) || decide (x.op = 5) || decide (x.op = 12) || decide (x.op = 13)) || !flat && (decide (x.op = 14) || decide (x.op = 15) || decide (x.op = 16))) := rfl
  have hform : formR x = (decide ((kidsR x).1 = (x.kids.length : Int)) && ((kidsR x).2 || decide (x.n = 0)) && altsR x && bindsR x) := rfl
  generalize kidsR x = kr at *
  obtain ⟨kn, ku⟩ := kr
  generalize altsR x = ar at *
  apply OL.op; exact Guard.no rfl rfl; rfl; rfl; apply Pev.not; rfl; exact fun h => h
  apply OL.op; exact Guard.none; rfl; rfl; apply Pev.pick_or; rfl; exact yes; rfl; exact fun h => h
  apply OL.nil
  with_reducible apply At.next
  refine W.cond rfl (fun hb => ?_) (fun hb => ?_)
  · apply W.seq
    apply W.reg
    apply oas; rfl; rfl
    apply OL.nil
    with_reducible apply At.next
    apply W.ret
    with_reducible apply At.then_ret
    ((with_reducible apply At.fin1); rfl; rfl; intro w' hw')
    refine ⟨congrArg (fun b => Ending.returned (Value.bool b)) ?_, by (exact hw'.toExt (by (repeat (first | exact List.Mem.head _ | apply List.Mem.tail))) (fun k hk => by (focus ((try simp only [add_block]); (repeat (first | exact NotOwned.nil | exact hno _ (by omega) | refine NotOwned.nothing ?_ | refine NotOwned.nds (hlow _ (by omega)) ?_ | refine NotOwned.mapS (by omega) ?_ | apply NotOwned.bif | refine NotOwned.blk (by omega) ?_ | refine NotOwned.row (by omega) ?_ | refine NotOwned.grid (by assumption) (by omega) ?_ | refine NotOwned.pile (by omega) ?_ | refine NotOwned.pool (by omega) ?_ | refine NotOwned.mapI (by omega) ?_ | refine NotOwned.mapX (by omega) ?_ | refine NotOwned.itI (by omega) ?_)); done))))⟩
    rw [hflat, hform]
    cases flat <;> cases ku <;> cases ar <;> simp only [Bool.and_eq_true, Bool.and_eq_false_iff, Bool.or_eq_false_iff, Bool.not_eq_true', Bool.not_eq_false', decide_eq_true_eq, decide_eq_false_iff_not, Bool.or_eq_true, Bool.not_eq_true] at hb ⊢ <;> simp at hb ⊢ <;> grind
  have hrest : (!flatBad flat x.op && formR x) = bindsR x := by
    rw [hflat, hform]
    cases flat <;> cases ku <;> cases ar <;> simp only [Bool.and_eq_true, Bool.and_eq_false_iff, Bool.or_eq_false_iff, Bool.not_eq_true', Bool.not_eq_false', decide_eq_true_eq, decide_eq_false_iff_not, Bool.or_eq_true, Bool.not_eq_true] at hb <;> simp at hb ⊢ <;> grind
  rw [hrest]
  clear hrest hform hflat hb
  apply W.skip
  with_reducible apply At.next
  apply W.seq
  apply W.seq
  apply W.reg
  apply ofa; rfl; rfl; rfl
  apply old; rfl; rfl; exact .head _; rfl; rfl
  apply OL.nil
  with_reducible apply At.next
  apply W.block
  apply W.seq
  apply W.seq
  apply W.reg
  apply obn; rfl; rfl; rfl; apply Bin.eql
  apply oas; rfl; rfl
  apply OL.nil
  with_reducible apply At.next
  (refine W.cond rfl (fun c1 => ?_) (fun c1 => ?_)) <;> (try (simp only [Bool.and_eq_true, Bool.or_eq_true, Bool.not_eq_true', Bool.and_eq_false_iff, Bool.or_eq_false_iff, Bool.not_eq_false', decide_eq_true_eq, decide_eq_false_iff_not, Int.not_lt, Int.not_le] at c1)) <;> (try (exfalso; first | omega | exact c1 trivial | contradiction))
  · apply W.skip
    with_reducible apply At.next
    (refine W.cond rfl (fun c1b => ?_) (fun c1b => ?_)) <;> (try (simp only [Bool.and_eq_true, Bool.or_eq_true, Bool.not_eq_true', Bool.and_eq_false_iff, Bool.or_eq_false_iff, Bool.not_eq_false', decide_eq_true_eq, decide_eq_false_iff_not, Int.not_lt, Int.not_le] at c1b)) <;> (try (exfalso; first | omega | exact c1b trivial | contradiction))
    apply W.seq
    apply W.reg
    apply oas; rfl; rfl
    apply OL.nil
    with_reducible apply At.next
    apply W.ret
    with_reducible apply At.in_ret
    with_reducible apply At.then_ret
    ((with_reducible apply At.fin1); rfl; rfl; intro w' hw')
    exact ⟨by unfold bindsR; rw [if_pos (by omega)], by (exact hw'.toExt (by (repeat (first | exact List.Mem.head _ | apply List.Mem.tail))) (fun k hk => by (focus ((try simp only [add_block]); (repeat (first | exact NotOwned.nil | exact hno _ (by omega) | refine NotOwned.nothing ?_ | refine NotOwned.nds (hlow _ (by omega)) ?_ | refine NotOwned.mapS (by omega) ?_ | apply NotOwned.bif | refine NotOwned.blk (by omega) ?_ | refine NotOwned.row (by omega) ?_ | refine NotOwned.grid (by assumption) (by omega) ?_ | refine NotOwned.pile (by omega) ?_ | refine NotOwned.pool (by omega) ?_ | refine NotOwned.mapI (by omega) ?_ | refine NotOwned.mapX (by omega) ?_ | refine NotOwned.itI (by omega) ?_)); done))))⟩
  apply W.reg
  apply obn; rfl; rfl; rfl; apply Bin.eql
  apply oas; rfl; rfl
  apply OL.nil
  with_reducible apply At.next
  (refine W.cond rfl (fun c2 => ?_) (fun c2 => ?_)) <;> (try (simp only [Bool.and_eq_true, Bool.or_eq_true, Bool.not_eq_true', Bool.and_eq_false_iff, Bool.or_eq_false_iff, Bool.not_eq_false', decide_eq_true_eq, decide_eq_false_iff_not, Int.not_lt, Int.not_le] at c2)) <;> (try (exfalso; first | omega | exact c2 trivial | contradiction))
  · apply W.seq
    apply W.reg
    apply oas; rfl; rfl
    apply OL.nil
    with_reducible apply At.next
    apply W.ret
    with_reducible apply At.in_ret
    with_reducible apply At.then_ret
    ((with_reducible apply At.fin1); rfl; rfl; intro w' hw')
    exact ⟨by unfold bindsR; rw [if_pos (by omega)], by (exact hw'.toExt (by (repeat (first | exact List.Mem.head _ | apply List.Mem.tail))) (fun k hk => by (focus ((try simp only [add_block]); (repeat (first | exact NotOwned.nil | exact hno _ (by omega) | refine NotOwned.nothing ?_ | refine NotOwned.nds (hlow _ (by omega)) ?_ | refine NotOwned.mapS (by omega) ?_ | apply NotOwned.bif | refine NotOwned.blk (by omega) ?_ | refine NotOwned.row (by omega) ?_ | refine NotOwned.grid (by assumption) (by omega) ?_ | refine NotOwned.pile (by omega) ?_ | refine NotOwned.pool (by omega) ?_ | refine NotOwned.mapI (by omega) ?_ | refine NotOwned.mapX (by omega) ?_ | refine NotOwned.itI (by omega) ?_)); done))))⟩
  apply W.seq
  apply W.reg
  apply obn; rfl; rfl; rfl; apply Bin.eql
  apply oas; rfl; rfl
  apply OL.nil
  with_reducible apply At.next
  (refine W.cond rfl (fun c3 => ?_) (fun c3 => ?_)) <;> (try (simp only [Bool.and_eq_true, Bool.or_eq_true, Bool.not_eq_true', Bool.and_eq_false_iff, Bool.or_eq_false_iff, Bool.not_eq_false', decide_eq_true_eq, decide_eq_false_iff_not, Int.not_lt, Int.not_le] at c3)) <;> (try (exfalso; first | omega | exact c3 trivial | contradiction))
  · apply W.seq
    apply W.reg
    apply ofa; rfl; rfl; rfl
    apply old; rfl; rfl; exact .head _; rfl; rfl
    apply OL.op; exact Guard.none; rfl; rfl; apply Pev.len_slice; rfl; exact yes; rfl
    apply obn; rfl; rfl; rfl; apply Bin.eql
    apply oas; rfl; rfl
    apply OL.nil
    with_reducible apply At.next
    apply W.ret
    with_reducible apply At.in_ret
    with_reducible apply At.then_ret
    ((with_reducible apply At.fin1); rfl; rfl; intro w' hw')
    refine ⟨congrArg (fun b => Ending.returned (Value.bool b)) ?_, by (exact hw'.toExt (by (repeat (first | exact List.Mem.head _ | apply List.Mem.tail))) (fun k hk => by (focus ((try simp only [add_block]); (repeat (first | exact NotOwned.nil | exact hno _ (by omega) | refine NotOwned.nothing ?_ | refine NotOwned.nds (hlow _ (by omega)) ?_ | refine NotOwned.mapS (by omega) ?_ | apply NotOwned.bif | refine NotOwned.blk (by omega) ?_ | refine NotOwned.row (by omega) ?_ | refine NotOwned.grid (by assumption) (by omega) ?_ | refine NotOwned.pile (by omega) ?_ | refine NotOwned.pool (by omega) ?_ | refine NotOwned.mapI (by omega) ?_ | refine NotOwned.mapX (by omega) ?_ | refine NotOwned.itI (by omega) ?_)); done))))⟩
    unfold bindsR
    rw [if_neg (by omega), if_pos (by omega)]
    grind
  apply W.seq
  apply W.reg
  apply obn; rfl; rfl; rfl; apply Bin.eql
  apply oas; rfl; rfl
  apply OL.nil
  with_reducible apply At.next
  (refine W.cond rfl (fun c4 => ?_) (fun c4 => ?_)) <;> (try (simp only [Bool.and_eq_true, Bool.or_eq_true, Bool.not_eq_true', Bool.and_eq_false_iff, Bool.or_eq_false_iff, Bool.not_eq_false', decide_eq_true_eq, decide_eq_false_iff_not, Int.not_lt, Int.not_le] at c4)) <;> (try (exfalso; first | omega | exact c4 trivial | contradiction))
  · apply W.seq
    apply W.reg
    apply ofa; rfl; rfl; rfl
    apply old; rfl; rfl; exact .head _; rfl; rfl
    apply OL.op; exact Guard.none; rfl; rfl; apply Pev.len_slice; rfl; exact yes; rfl
    apply obn; rfl; rfl; rfl; apply Bin.gtr
    apply oas; rfl; rfl
    apply OL.nil
    with_reducible apply At.next
    apply W.ret
    with_reducible apply At.in_ret
    with_reducible apply At.then_ret
    ((with_reducible apply At.fin1); rfl; rfl; intro w' hw')
    refine ⟨congrArg (fun b => Ending.returned (Value.bool b)) ?_, by (exact hw'.toExt (by (repeat (first | exact List.Mem.head _ | apply List.Mem.tail))) (fun k hk => by (focus ((try simp only [add_block]); (repeat (first | exact NotOwned.nil | exact hno _ (by omega) | refine NotOwned.nothing ?_ | refine NotOwned.nds (hlow _ (by omega)) ?_ | refine NotOwned.mapS (by omega) ?_ | apply NotOwned.bif | refine NotOwned.blk (by omega) ?_ | refine NotOwned.row (by omega) ?_ | refine NotOwned.grid (by assumption) (by omega) ?_ | refine NotOwned.pile (by omega) ?_ | refine NotOwned.pool (by omega) ?_ | refine NotOwned.mapI (by omega) ?_ | refine NotOwned.mapX (by omega) ?_ | refine NotOwned.itI (by omega) ?_)); done))))⟩
    unfold bindsR
    rw [if_neg (by omega), if_neg (by omega), if_pos (by omega)]
    grind
  apply W.skip
  with_reducible apply At.in_normal
  with_reducible apply At.next
  apply W.seq
  apply W.reg
  apply ofa; rfl; rfl; rfl
  apply old; rfl; rfl; exact .head _; rfl; rfl
  apply OL.op; exact Guard.none; rfl; rfl; apply Pev.len_slice; rfl; exact yes; rfl
  apply obn; rfl; rfl; rfl; apply Bin.eql
  apply oas; rfl; rfl
  apply OL.nil
  with_reducible apply At.next
  apply W.ret
  ((with_reducible apply At.fin1); rfl; rfl; intro w' hw')
  refine ⟨congrArg (fun b => Ending.returned (Value.bool b)) ?_, by (exact hw'.toExt (by (repeat (first | exact List.Mem.head _ | apply List.Mem.tail))) (fun k hk => by (focus ((try simp only [add_block]); (repeat (first | exact NotOwned.nil | exact hno _ (by omega) | refine NotOwned.nothing ?_ | refine NotOwned.nds (hlow _ (by omega)) ?_ | refine NotOwned.mapS (by omega) ?_ | apply NotOwned.bif | refine NotOwned.blk (by omega) ?_ | refine NotOwned.row (by omega) ?_ | refine NotOwned.grid (by assumption) (by omega) ?_ | refine NotOwned.pile (by omega) ?_ | refine NotOwned.pool (by omega) ?_ | refine NotOwned.mapI (by omega) ?_ | refine NotOwned.mapX (by omega) ?_ | refine NotOwned.itI (by omega) ?_)); done))))⟩
  unfold bindsR
  rw [if_neg (by omega), if_neg (by omega), if_neg (by omega)]
  grind
theorem goodKids_calls (es : List (Ex × ExY)) (q : Option Addr) (cap : Nat) (x : Ex) (y : ExY) (w : World) (h : ExOk w (low w) x y) (he : Arr exR w (low w) es q) (hlen : es.length ≤ 4096) (hkd : ∀ k ∈ x.kids, 0 ≤ k ∧ k < (es.length : Int)) (hk5 : x.op = 5 → x.kids.length = x.binds.length + 1) :
    Calls Tryd.prog 74 [.slice q es.length cap, .agg (exC x y).toArray].toArray w fun e w' => e = .returned (.bool (kidsB (es.map Prod.fst) x)) ∧ Ext w w' := by
  have hal := h.al
  have hkl := h.kl
  have hbl := h.bl
  refine enter Tryd.func74 rfl Tryd.ntmps74 rfl (Cls.start w) ?_
  (simp only [argEnv, Nat.zero_add, Nat.reduceAdd])
  simp only [exC]
  apply W.seq
  apply W.reg
  apply OL.box; rfl; rfl; exact CellsL.agg; (intro bk hbk; simp only [AllLe, and_true] at hbk)
  apply oas; rfl; rfl
  apply OL.nil
  with_reducible apply At.next
  apply W.seq
  apply W.seq
  apply W.reg
  apply ofa; rfl; rfl; rfl
  apply old; rfl; rfl; exact .head _; rfl; rfl
  apply OL.op; exact Guard.none; rfl; rfl; apply Pev.len_slice; rfl; exact yes; rfl
  apply omv; rfl; rfl
  apply OL.nil
  with_reducible apply At.next
  apply W.block
  refine W.loop (G := Nat) (fun i => i ≤ x.binds.length ∧ ∀ j, j < i → bindOk (es.map Prod.fst) x j = true) (fun i => x.binds.length - i)
    (fun i => [(0, true, .slice q es.length cap), (3, true, .pointer (some ⟨bk, 0, none⟩)), (8, true, .int .i64 (x.binds.length : Int)), (9, true, .int .i64 (i : Int))])
    (fun _ => Cls [blk bk 28 [.int .i64 x.op, .int .i64 x.n, .slice y.b.1 x.binds.length y.b.2, .slice y.k.1 x.kids.length y.k.2, .slice y.a.1 x.alts.length y.a.2]] [w]) 0 ⟨by omega, fun j hj => by omega⟩ (by (repeat (first | exact Sub.nil | apply Sub.cons rfl | (refine Sub.cons_eq rfl (congrArg (Value.int .i64) (by first | omega | (simp only; omega))) ?_)))) (fun w' hw' => hw') ?_
  rintro i ⟨hi, hall⟩
  apply W.seq
  apply W.reg
  apply obn; rfl; rfl; rfl; apply Bin.lss
  apply OL.nil
  with_reducible apply At.next
  apply W.seq
  (refine W.cond rfl (fun hlt => ?_) (fun hlt => ?_)) <;> (try (simp only [Bool.and_eq_true, Bool.or_eq_true, Bool.not_eq_true', Bool.and_eq_false_iff, Bool.or_eq_false_iff, Bool.not_eq_false', decide_eq_true_eq, decide_eq_false_iff_not, Int.not_lt, Int.not_le] at hlt)) <;> (try (exfalso; first | omega | exact hlt trivial | contradiction))
  · have hil : i < x.binds.length := by omega
    have hbad : bindOk (es.map Prod.fst) x i = false → kidsB (es.map Prod.fst) x = false := fun hf => not_all_range hil hf
    have hagain : bindOk (es.map Prod.fst) x i = true → ∀ j, j < i + 1 → bindOk (es.map Prod.fst) x j = true := fun hf j hj => by
      by_cases e : j = i
      · rw [e]; exact hf
      · exact hall j (by omega)
    by_cases h5 : x.op = 5
    · have hkl5 := hk5 h5
      obtain ⟨ak, kv, hqk, habk, hkv, hck⟩ := h.k.get (i := i) (by omega)
      have habk : ak.block < w.heap.size := habk
      have hkr := hkd kv (List.mem_of_getElem? hkv)
      obtain ⟨ae, p, hqe, habe, hp, hcell, hok⟩ := he.get (i := kv.toNat) (by omega)
      have habe : ae.block < w.heap.size := habe
      have hcell : CellsAt w (ae.add (kv.toNat * 5)) [.int .i64 p.1.op, .int .i64 p.1.n, .slice p.2.b.1 p.1.binds.length p.2.b.2, .slice p.2.k.1 p.1.kids.length p.2.k.2, .slice p.2.a.1 p.1.alts.length p.2.a.2] := hcell
      have hbk : bindOk (es.map Prod.fst) x i = decide (p.1.op = 2) := by
        have e1 : x.kids.getD i 0 = kv := by simp [List.getD, hkv]
        have e2 : (es.map Prod.fst).getD kv.toNat ⟨0, 0, [], [], []⟩ = p.1 := by simp [List.getD, hp]
        unfold bindOk
        rw [e1, e2]
        grind
      rw [hqk, hqe]
      apply W.skip
      with_reducible apply At.next
      apply W.seq
      apply W.block
      apply W.seq
      apply W.reg
      apply omv; rfl; rfl
      apply oas; rfl; rfl
      apply OL.nil
      with_reducible apply At.next
      apply W.seq
      apply W.regd0; decide +kernel; kernel_rfl; decide +kernel; exact fun w hw => hw.drew
      apply qfa; rfl; rfl; rfl
      apply qld; rfl; rfl; exact .head _; rfl; rfl
      apply qbn; rfl; rfl; rfl; apply Bin.eql
      apply qmv; rfl; rfl
      apply QL.op; exact Guard.yes rfl rfl; rfl; rfl; apply Pev.move; rfl; exact yes
      apply QL.op; exact Guard.yes rfl rfl; rfl; rfl; apply Pev.fld; rfl; exact yes; rfl
      apply QL.op; exact Guard.yes rfl rfl; rfl; rfl; apply Pev.load_blk; rfl; exact fun h => h; exact .head _; rfl; rfl
      apply QL.op; exact Guard.yes rfl rfl; rfl; rfl; apply Pev.move; rfl; exact yes
      apply QL.op; exact Guard.yes rfl rfl; rfl; rfl; apply Pev.idx; rfl; exact fun h => h; rfl; exact fun h => h; rfl; rfl; intro hcond; omega
      apply QL.op; exact Guard.yes rfl rfl; rfl; rfl; apply Pev.load_kept; rfl; exact fun h => h; exact .head _; rfl; intro hcond; assumption; intro hcond; (rw [add_block]; assumption); intro hcond; simp only [add_block]; refine NotOwned.blk (by omega) ?_; exact NotOwned.nil
      apply QL.op; exact Guard.yes rfl rfl; rfl; rfl; apply Pev.idxI; rfl; exact fun h => h; rfl; exact fun h => h; rfl; intro hcond; omega
      apply QL.op; exact Guard.yes rfl rfl; rfl; rfl; apply Pev.fldA; rfl; exact fun h => h; rfl
      apply QL.op; exact Guard.yes rfl rfl; rfl; rfl; apply Pev.load_kept; rfl; exact fun h => h; exact .head _; rfl; intro hcond; apply CellsAt.at_ (by assumption) rfl; intro hcond; (simp only [add_block]; assumption); intro hcond; simp only [add_block]; refine NotOwned.blk (by omega) ?_; exact NotOwned.nil
      apply QL.op; exact Guard.yes rfl rfl; rfl; rfl; apply Pev.bin; rfl; exact fun h => h; rfl; exact yes; intro hcond; apply Bin.neq
      apply QL.op; exact Guard.none; rfl; rfl; apply Pev.pick_and; rfl; exact yes; rfl; exact fun h => h
      apply qmv; rfl; rfl
      apply QL.op; exact Guard.no rfl rfl; rfl; rfl; apply Pev.fld; rfl; exact yes; rfl
      apply QL.op; exact Guard.no rfl rfl; rfl; rfl; apply Pev.load_blk; rfl; exact fun h => h; exact .head _; rfl; rfl
      apply QL.op; exact Guard.no rfl rfl; rfl; rfl; apply Pev.bin; rfl; exact fun h => h; rfl; exact yes; intro hcond; apply Bin.eql
      apply QL.op; exact Guard.no rfl rfl; rfl; rfl; apply Pev.move; rfl; exact fun h => h
      apply QL.op; exact Guard.cyes rfl rfl; rfl; rfl; apply Pev.move; rfl; exact yes
      apply QL.op; exact Guard.cyes rfl rfl; rfl; rfl; apply Pev.bin; rfl; exact fun h => h; rfl; exact yes; intro hcond; apply Bin.gtr
      apply QL.op; exact Guard.no rfl rfl; rfl; rfl; apply Pev.pick_and; rfl; exact fun h => h; rfl; exact fun h => h
      apply QL.op; exact Guard.no rfl rfl; rfl; rfl; apply Pev.move; rfl; exact fun h => h
      apply QL.op; exact Guard.cyes rfl rfl; rfl; rfl; apply Pev.fld; rfl; exact yes; rfl
      apply QL.op; exact Guard.cyes rfl rfl; rfl; rfl; apply Pev.load_blk; rfl; exact fun h => h; exact .head _; rfl; rfl
      apply QL.op; exact Guard.cyes rfl rfl; rfl; rfl; apply Pev.move; rfl; exact yes
      apply QL.gateOff; exact Guard.cyes rfl rfl; (simp; omega); rfl
      apply QL.gateOff; exact Guard.cyes rfl rfl; (simp; omega); rfl
      apply QL.op; exact Guard.cyes rfl rfl; rfl; rfl; apply Pev.fld; rfl; exact yes; rfl
      apply QL.op; exact Guard.cyes rfl rfl; rfl; rfl; apply Pev.load_blk; rfl; exact fun h => h; exact .head _; rfl; rfl
      apply QL.op; exact Guard.cyes rfl rfl; rfl; rfl; apply Pev.move; rfl; exact yes
      apply QL.op; exact Guard.cyes rfl rfl; rfl; rfl; apply Pev.bin; rfl; exact fun h => h; rfl; exact yes; intro hcond; apply Bin.sub_in; omega
      apply QL.gateOff; exact Guard.cyes rfl rfl; (simp; omega); rfl
      apply QL.gateOff; exact Guard.cyes rfl rfl; (simp; omega); rfl
      apply QL.gateOff; exact Guard.cyes rfl rfl; (simp; omega); rfl
      apply QL.op; exact Guard.no rfl rfl; rfl; rfl; apply Pev.pick_off; rfl; exact fun h => h; (intro hcond; simp; omega); rfl; exact yes
      apply QL.op; exact Guard.none; rfl; rfl; apply Pev.pick_or; rfl; exact yes; rfl; exact fun h => h
      apply QL.nil
      with_reducible apply At.next
      refine W.cond rfl (fun hb => ?_) (fun hb => ?_)
      · apply W.seq
        apply W.reg
        apply oas; rfl; rfl
        apply OL.nil
        with_reducible apply At.next
        apply W.ret
        with_reducible apply At.in_ret
        with_reducible apply At.then_ret
        with_reducible apply At.then_ret
        with_reducible apply At.in_ret
        with_reducible apply At.then_ret
        ((with_reducible apply At.fin1); rfl; rfl; intro w' hw')
        exact ⟨by rw [hbad (by rw [hbk]; grind)], by (exact hw'.toExt (by (repeat (first | exact List.Mem.head _ | apply List.Mem.tail))) (fun k hk => by (focus ((try simp only [add_block]); (repeat (first | exact NotOwned.nil | exact hno _ (by omega) | refine NotOwned.nothing ?_ | refine NotOwned.nds (hlow _ (by omega)) ?_ | refine NotOwned.mapS (by omega) ?_ | apply NotOwned.bif | refine NotOwned.blk (by omega) ?_ | refine NotOwned.row (by omega) ?_ | refine NotOwned.grid (by assumption) (by omega) ?_ | refine NotOwned.pile (by omega) ?_ | refine NotOwned.pool (by omega) ?_ | refine NotOwned.mapI (by omega) ?_ | refine NotOwned.mapX (by omega) ?_ | refine NotOwned.itI (by omega) ?_)); done))))⟩
      · apply W.skip
        with_reducible apply At.in_normal
        with_reducible apply At.next
        apply W.reg
        apply obn; rfl; rfl; rfl; apply Bin.add_in; omega
        apply omv; rfl; rfl
        apply OL.nil
        exact At.again (i + 1) ⟨by omega, hagain (by first | exact hbk | (rw [hbk]; grind))⟩ (by omega) (by (repeat (first | exact Sub.nil | apply Sub.cons rfl | (refine Sub.cons_eq rfl (congrArg (Value.int .i64) (by first | omega | (simp only; omega))) ?_)))) (fun w' hw' => hw')
    · by_cases h9 : x.op = 9
      · obtain ⟨ab, vi, hqb, habb, hvi, hci⟩ := h.b.get hil
        have habb : ab.block < w.heap.size := habb
        have e1 : x.binds.getD i 0 = vi := by simp [List.getD, hvi]
        by_cases hi0 : i = 0
        · subst hi0
          have hbk : bindOk (es.map Prod.fst) x 0 = true := by unfold bindOk; grind
          apply W.skip
          with_reducible apply At.next
          apply W.seq
          apply W.block
          apply W.seq
          apply W.reg
          apply omv; rfl; rfl
          apply oas; rfl; rfl
          apply OL.nil
          with_reducible apply At.next
          apply W.seq
          apply W.regd0; decide +kernel; kernel_rfl; decide +kernel; exact fun w hw => hw.drew
          apply qfa; rfl; rfl; rfl
          apply qld; rfl; rfl; exact .head _; rfl; rfl
          apply qbn; rfl; rfl; rfl; apply Bin.eql
          apply qmv; rfl; rfl
          apply QL.op; exact Guard.yes rfl rfl; rfl; rfl; apply Pev.move; rfl; exact yes
          apply QL.op; exact Guard.yes rfl rfl; rfl; rfl; apply Pev.fld; rfl; exact yes; rfl
          apply QL.op; exact Guard.yes rfl rfl; rfl; rfl; apply Pev.load_blk; rfl; exact fun h => h; exact .head _; rfl; rfl
          apply QL.op; exact Guard.yes rfl rfl; rfl; rfl; apply Pev.move; rfl; exact yes
          apply QL.gateOff; exact Guard.yes rfl rfl; (simp; omega); rfl
          apply QL.gateOff; exact Guard.yes rfl rfl; (simp; omega); rfl
          apply QL.gateOff; exact Guard.yes rfl rfl; (simp; omega); rfl
          apply QL.gateOff; exact Guard.yes rfl rfl; (simp; omega); rfl
          apply QL.gateOff; exact Guard.yes rfl rfl; (simp; omega); rfl
          apply QL.gateOff; exact Guard.yes rfl rfl; (simp; omega); rfl
          apply QL.op; exact Guard.none; rfl; rfl; apply Pev.pick_off; rfl; exact yes; (intro hcond; simp; omega); rfl; exact yes
          apply qmv; rfl; rfl
          apply QL.op; exact Guard.no rfl rfl; rfl; rfl; apply Pev.fld; rfl; exact yes; rfl
          apply QL.op; exact Guard.no rfl rfl; rfl; rfl; apply Pev.load_blk; rfl; exact yes; exact .head _; rfl; rfl
          apply QL.op; exact Guard.no rfl rfl; rfl; rfl; apply Pev.bin; rfl; exact yes; rfl; exact yes; intro hcond; apply Bin.eql
          apply QL.op; exact Guard.no rfl rfl; rfl; rfl; apply Pev.move; rfl; exact yes
          apply QL.op; exact Guard.yes rfl rfl; rfl; rfl; apply Pev.move; rfl; exact yes
          apply QL.op; exact Guard.yes rfl rfl; rfl; rfl; apply Pev.bin; rfl; exact fun h => h; rfl; exact yes; intro hcond; apply Bin.gtr
          apply QL.op; exact Guard.no rfl rfl; rfl; rfl; apply Pev.pick_and; rfl; exact yes; rfl; exact fun h => h
          apply QL.op; exact Guard.no rfl rfl; rfl; rfl; apply Pev.move; rfl; exact yes
          apply QL.op; exact Guard.yes rfl rfl; rfl; rfl; apply Pev.fld; rfl; exact yes; rfl
          apply QL.op; exact Guard.yes rfl rfl; rfl; rfl; apply Pev.load_blk; rfl; exact fun h => h; exact .head _; rfl; rfl
          apply QL.op; exact Guard.yes rfl rfl; rfl; rfl; apply Pev.move; rfl; exact yes
          apply QL.gateOff; exact Guard.yes rfl rfl; (focus (simp; done)); rfl
          apply QL.gateOff; exact Guard.yes rfl rfl; (focus (simp; done)); rfl
          apply QL.op; exact Guard.yes rfl rfl; rfl; rfl; apply Pev.fld; rfl; exact yes; rfl
          apply QL.op; exact Guard.yes rfl rfl; rfl; rfl; apply Pev.load_blk; rfl; exact fun h => h; exact .head _; rfl; rfl
          apply QL.op; exact Guard.yes rfl rfl; rfl; rfl; apply Pev.move; rfl; exact yes
          apply QL.op; exact Guard.yes rfl rfl; rfl; rfl; apply Pev.bin; rfl; exact fun h => h; rfl; exact yes; intro hcond; apply Bin.sub_in; omega
          apply QL.gateOff; exact Guard.yes rfl rfl; (focus (simp; done)); rfl
          apply QL.gateOff; exact Guard.yes rfl rfl; (focus (simp; done)); rfl
          apply QL.gateOff; exact Guard.yes rfl rfl; (focus (simp; done)); rfl
          apply QL.op; exact Guard.no rfl rfl; rfl; rfl; apply Pev.pick_off; rfl; exact yes; (focus (intro hcond; simp; done)); rfl; exact yes
          apply QL.op; exact Guard.none; rfl; rfl; apply Pev.pick_or; rfl; exact yes; rfl; exact yes
          apply QL.nil
          with_reducible apply At.next
          refine W.cond rfl (fun hb => ?_) (fun hb => ?_)
          · apply W.seq
            apply W.reg
            apply oas; rfl; rfl
            apply OL.nil
            with_reducible apply At.next
            apply W.ret
            with_reducible apply At.in_ret
            with_reducible apply At.then_ret
            with_reducible apply At.then_ret
            with_reducible apply At.in_ret
            with_reducible apply At.then_ret
            ((with_reducible apply At.fin1); rfl; rfl; intro w' hw')
            exact ⟨by rw [hbad (by rw [hbk]; grind)], by (exact hw'.toExt (by (repeat (first | exact List.Mem.head _ | apply List.Mem.tail))) (fun k hk => by (focus ((try simp only [add_block]); (repeat (first | exact NotOwned.nil | exact hno _ (by omega) | refine NotOwned.nothing ?_ | refine NotOwned.nds (hlow _ (by omega)) ?_ | refine NotOwned.mapS (by omega) ?_ | apply NotOwned.bif | refine NotOwned.blk (by omega) ?_ | refine NotOwned.row (by omega) ?_ | refine NotOwned.grid (by assumption) (by omega) ?_ | refine NotOwned.pile (by omega) ?_ | refine NotOwned.pool (by omega) ?_ | refine NotOwned.mapI (by omega) ?_ | refine NotOwned.mapX (by omega) ?_ | refine NotOwned.itI (by omega) ?_)); done))))⟩
          · apply W.skip
            with_reducible apply At.in_normal
            with_reducible apply At.next
            apply W.reg
            apply obn; rfl; rfl; rfl; apply Bin.add_in; omega
            apply omv; rfl; rfl
            apply OL.nil
            exact At.again (0 + 1) ⟨by omega, hagain (by first | exact hbk | (rw [hbk]; grind))⟩ (by omega) (by (repeat (first | exact Sub.nil | apply Sub.cons rfl | (refine Sub.cons_eq rfl (congrArg (Value.int .i64) (by first | omega | (simp only; omega))) ?_)))) (fun w' hw' => hw')
        · obtain ⟨ab2, vm, hqb2, _, hvm, hcm⟩ := h.b.get (i := i - 1) (by omega)
          rw [hqb] at hqb2
          obtain rfl := Option.some.inj hqb2
          have e2 : x.binds.getD (i - 1) 0 = vm := by simp [List.getD, hvm]
          have hbk : bindOk (es.map Prod.fst) x i = decide (vm < vi) := by
            unfold bindOk
            rw [e1, e2]
            grind
          have hcm : w.cell? (ab.add (((i : Int) - 1).toNat * 1)) = some (.int .i64 vm) := by rw [show ((i : Int) - 1).toNat = i - 1 by omega]; exact hcm
          rw [hqb]
          apply W.skip
          with_reducible apply At.next
          apply W.seq
          apply W.block
          apply W.seq
          apply W.reg
          apply omv; rfl; rfl
          apply oas; rfl; rfl
          apply OL.nil
          with_reducible apply At.next
          apply W.seq
          apply W.regd0; decide +kernel; kernel_rfl; decide +kernel; exact fun w hw => hw.drew
          apply qfa; rfl; rfl; rfl
          apply qld; rfl; rfl; exact .head _; rfl; rfl
          apply qbn; rfl; rfl; rfl; apply Bin.eql
          apply qmv; rfl; rfl
          apply QL.op; exact Guard.yes rfl rfl; rfl; rfl; apply Pev.move; rfl; exact yes
          apply QL.op; exact Guard.yes rfl rfl; rfl; rfl; apply Pev.fld; rfl; exact yes; rfl
          apply QL.op; exact Guard.yes rfl rfl; rfl; rfl; apply Pev.load_blk; rfl; exact fun h => h; exact .head _; rfl; rfl
          apply QL.op; exact Guard.yes rfl rfl; rfl; rfl; apply Pev.move; rfl; exact yes
          apply QL.gateOff; exact Guard.yes rfl rfl; (simp; omega); rfl
          apply QL.gateOff; exact Guard.yes rfl rfl; (simp; omega); rfl
          apply QL.gateOff; exact Guard.yes rfl rfl; (simp; omega); rfl
          apply QL.gateOff; exact Guard.yes rfl rfl; (simp; omega); rfl
          apply QL.gateOff; exact Guard.yes rfl rfl; (simp; omega); rfl
          apply QL.gateOff; exact Guard.yes rfl rfl; (simp; omega); rfl
          apply QL.op; exact Guard.none; rfl; rfl; apply Pev.pick_off; rfl; exact yes; (intro hcond; simp; omega); rfl; exact yes
          apply qmv; rfl; rfl
          apply QL.op; exact Guard.no rfl rfl; rfl; rfl; apply Pev.fld; rfl; exact yes; rfl
          apply QL.op; exact Guard.no rfl rfl; rfl; rfl; apply Pev.load_blk; rfl; exact yes; exact .head _; rfl; rfl
          apply QL.op; exact Guard.no rfl rfl; rfl; rfl; apply Pev.bin; rfl; exact yes; rfl; exact yes; intro hcond; apply Bin.eql
          apply QL.op; exact Guard.no rfl rfl; rfl; rfl; apply Pev.move; rfl; exact yes
          apply QL.op; exact Guard.yes rfl rfl; rfl; rfl; apply Pev.move; rfl; exact yes
          apply QL.op; exact Guard.yes rfl rfl; rfl; rfl; apply Pev.bin; rfl; exact fun h => h; rfl; exact yes; intro hcond; apply Bin.gtr
          apply QL.op; exact Guard.no rfl rfl; rfl; rfl; apply Pev.pick_and; rfl; exact yes; rfl; exact fun h => h
          apply QL.op; exact Guard.no rfl rfl; rfl; rfl; apply Pev.move; rfl; exact yes
          apply QL.op; exact Guard.yes rfl rfl; rfl; rfl; apply Pev.fld; rfl; exact yes; rfl
          apply QL.op; exact Guard.yes rfl rfl; rfl; rfl; apply Pev.load_blk; rfl; exact fun h => h; exact .head _; rfl; rfl
          apply QL.op; exact Guard.yes rfl rfl; rfl; rfl; apply Pev.move; rfl; exact yes
          apply QL.op; exact Guard.yes rfl rfl; rfl; rfl; apply Pev.idx; rfl; exact fun h => h; rfl; exact fun h => h; rfl; rfl; intro hcond; omega
          apply QL.op; exact Guard.yes rfl rfl; rfl; rfl; apply Pev.load_kept; rfl; exact fun h => h; exact .head _; rfl; intro hcond; assumption; intro hcond; (rw [add_block]; assumption); intro hcond; simp only [add_block]; refine NotOwned.blk (by omega) ?_; exact NotOwned.nil
          apply QL.op; exact Guard.yes rfl rfl; rfl; rfl; apply Pev.fld; rfl; exact yes; rfl
          apply QL.op; exact Guard.yes rfl rfl; rfl; rfl; apply Pev.load_blk; rfl; exact fun h => h; exact .head _; rfl; rfl
          apply QL.op; exact Guard.yes rfl rfl; rfl; rfl; apply Pev.move; rfl; exact yes
          apply QL.op; exact Guard.yes rfl rfl; rfl; rfl; apply Pev.bin; rfl; exact fun h => h; rfl; exact yes; intro hcond; apply Bin.sub_in; omega
          apply QL.op; exact Guard.yes rfl rfl; rfl; rfl; apply Pev.idxI; rfl; exact fun h => h; rfl; exact fun h => h; rfl; intro hcond; omega
          apply QL.op; exact Guard.yes rfl rfl; rfl; rfl; apply Pev.load_kept; rfl; exact fun h => h; exact .head _; rfl; intro hcond; assumption; intro hcond; (rw [add_block]; assumption); intro hcond; simp only [add_block]; refine NotOwned.blk (by omega) ?_; exact NotOwned.nil
          apply QL.op; exact Guard.yes rfl rfl; rfl; rfl; apply Pev.bin; rfl; exact fun h => h; rfl; exact fun h => h; intro hcond; apply Bin.leq
          apply QL.op; exact Guard.no rfl rfl; rfl; rfl; apply Pev.pick_and; rfl; exact yes; rfl; exact fun h => h
          apply QL.op; exact Guard.none; rfl; rfl; apply Pev.pick_or; rfl; exact yes; rfl; exact yes
          apply QL.nil
          with_reducible apply At.next
          refine W.cond rfl (fun hb => ?_) (fun hb => ?_)
          · apply W.seq
            apply W.reg
            apply oas; rfl; rfl
            apply OL.nil
            with_reducible apply At.next
            apply W.ret
            with_reducible apply At.in_ret
            with_reducible apply At.then_ret
            with_reducible apply At.then_ret
            with_reducible apply At.in_ret
            with_reducible apply At.then_ret
            ((with_reducible apply At.fin1); rfl; rfl; intro w' hw')
            exact ⟨by rw [hbad (by rw [hbk]; grind)], by (exact hw'.toExt (by (repeat (first | exact List.Mem.head _ | apply List.Mem.tail))) (fun k hk => by (focus ((try simp only [add_block]); (repeat (first | exact NotOwned.nil | exact hno _ (by omega) | refine NotOwned.nothing ?_ | refine NotOwned.nds (hlow _ (by omega)) ?_ | refine NotOwned.mapS (by omega) ?_ | apply NotOwned.bif | refine NotOwned.blk (by omega) ?_ | refine NotOwned.row (by omega) ?_ | refine NotOwned.grid (by assumption) (by omega) ?_ | refine NotOwned.pile (by omega) ?_ | refine NotOwned.pool (by omega) ?_ | refine NotOwned.mapI (by omega) ?_ | refine NotOwned.mapX (by omega) ?_ | refine NotOwned.itI (by omega) ?_)); done))))⟩
          · apply W.skip
            with_reducible apply At.in_normal
            with_reducible apply At.next
            apply W.reg
            apply obn; rfl; rfl; rfl; apply Bin.add_in; omega
            apply omv; rfl; rfl
            apply OL.nil
            exact At.again (i + 1) ⟨by omega, hagain (by first | exact hbk | (rw [hbk]; grind))⟩ (by omega) (by (repeat (first | exact Sub.nil | apply Sub.cons rfl | (refine Sub.cons_eq rfl (congrArg (Value.int .i64) (by first | omega | (simp only; omega))) ?_)))) (fun w' hw' => hw')
      · have hbk : bindOk (es.map Prod.fst) x i = true := by unfold bindOk; grind
        apply W.skip
        with_reducible apply At.next
        apply W.seq
        apply W.block
        apply W.seq
        apply W.reg
        apply omv; rfl; rfl
        apply oas; rfl; rfl
        apply OL.nil
        with_reducible apply At.next
        apply W.seq
        apply W.regd0; decide +kernel; kernel_rfl; decide +kernel; exact fun w hw => hw.drew
        apply qfa; rfl; rfl; rfl
        apply qld; rfl; rfl; exact .head _; rfl; rfl
        apply qbn; rfl; rfl; rfl; apply Bin.eql
        apply qmv; rfl; rfl
        apply QL.op; exact Guard.yes rfl rfl; rfl; rfl; apply Pev.move; rfl; exact yes
        apply QL.op; exact Guard.yes rfl rfl; rfl; rfl; apply Pev.fld; rfl; exact yes; rfl
        apply QL.op; exact Guard.yes rfl rfl; rfl; rfl; apply Pev.load_blk; rfl; exact fun h => h; exact .head _; rfl; rfl
        apply QL.op; exact Guard.yes rfl rfl; rfl; rfl; apply Pev.move; rfl; exact yes
        apply QL.gateOff; exact Guard.yes rfl rfl; (simp; omega); rfl
        apply QL.gateOff; exact Guard.yes rfl rfl; (simp; omega); rfl
        apply QL.gateOff; exact Guard.yes rfl rfl; (simp; omega); rfl
        apply QL.gateOff; exact Guard.yes rfl rfl; (simp; omega); rfl
        apply QL.gateOff; exact Guard.yes rfl rfl; (simp; omega); rfl
        apply QL.gateOff; exact Guard.yes rfl rfl; (simp; omega); rfl
        apply QL.op; exact Guard.none; rfl; rfl; apply Pev.pick_off; rfl; exact yes; (intro hcond; simp; omega); rfl; exact yes
        apply qmv; rfl; rfl
        apply QL.op; exact Guard.no rfl rfl; rfl; rfl; apply Pev.fld; rfl; exact yes; rfl
        apply QL.op; exact Guard.no rfl rfl; rfl; rfl; apply Pev.load_blk; rfl; exact yes; exact .head _; rfl; rfl
        apply QL.op; exact Guard.no rfl rfl; rfl; rfl; apply Pev.bin; rfl; exact yes; rfl; exact yes; intro hcond; apply Bin.eql
        apply QL.op; exact Guard.no rfl rfl; rfl; rfl; apply Pev.move; rfl; exact yes
        apply QL.op; exact Guard.yes rfl rfl; rfl; rfl; apply Pev.move; rfl; exact yes
        apply QL.op; exact Guard.yes rfl rfl; rfl; rfl; apply Pev.bin; rfl; exact fun h => h; rfl; exact yes; intro hcond; apply Bin.gtr
        apply QL.op; exact Guard.no rfl rfl; rfl; rfl; apply Pev.pick_and; rfl; exact yes; rfl; exact fun h => h
        apply QL.op; exact Guard.no rfl rfl; rfl; rfl; apply Pev.move; rfl; exact yes
        apply QL.op; exact Guard.yes rfl rfl; rfl; rfl; apply Pev.fld; rfl; exact yes; rfl
        apply QL.op; exact Guard.yes rfl rfl; rfl; rfl; apply Pev.load_blk; rfl; exact fun h => h; exact .head _; rfl; rfl
        apply QL.op; exact Guard.yes rfl rfl; rfl; rfl; apply Pev.move; rfl; exact yes
        apply QL.gateOff; exact Guard.yes rfl rfl; (simp; omega); rfl
        apply QL.gateOff; exact Guard.yes rfl rfl; (simp; omega); rfl
        apply QL.op; exact Guard.yes rfl rfl; rfl; rfl; apply Pev.fld; rfl; exact yes; rfl
        apply QL.op; exact Guard.yes rfl rfl; rfl; rfl; apply Pev.load_blk; rfl; exact fun h => h; exact .head _; rfl; rfl
        apply QL.op; exact Guard.yes rfl rfl; rfl; rfl; apply Pev.move; rfl; exact yes
        apply QL.op; exact Guard.yes rfl rfl; rfl; rfl; apply Pev.bin; rfl; exact fun h => h; rfl; exact yes; intro hcond; apply Bin.sub_in; omega
        apply QL.gateOff; exact Guard.yes rfl rfl; (simp; omega); rfl
        apply QL.gateOff; exact Guard.yes rfl rfl; (simp; omega); rfl
        apply QL.gateOff; exact Guard.yes rfl rfl; (simp; omega); rfl
        apply QL.op; exact Guard.no rfl rfl; rfl; rfl; apply Pev.pick_off; rfl; exact yes; (intro hcond; simp; omega); rfl; exact yes
        apply QL.op; exact Guard.none; rfl; rfl; apply Pev.pick_or; rfl; exact yes; rfl; exact yes
        apply QL.nil
        with_reducible apply At.next
        refine W.cond rfl (fun hb => ?_) (fun hb => ?_)
        · apply W.seq
          apply W.reg
          apply oas; rfl; rfl
          apply OL.nil
          with_reducible apply At.next
          apply W.ret
          with_reducible apply At.in_ret
          with_reducible apply At.then_ret
          with_reducible apply At.then_ret
          with_reducible apply At.in_ret
          with_reducible apply At.then_ret
          ((with_reducible apply At.fin1); rfl; rfl; intro w' hw')
          exact ⟨by rw [hbad (by rw [hbk]; grind)], by (exact hw'.toExt (by (repeat (first | exact List.Mem.head _ | apply List.Mem.tail))) (fun k hk => by (focus ((try simp only [add_block]); (repeat (first | exact NotOwned.nil | exact hno _ (by omega) | refine NotOwned.nothing ?_ | refine NotOwned.nds (hlow _ (by omega)) ?_ | refine NotOwned.mapS (by omega) ?_ | apply NotOwned.bif | refine NotOwned.blk (by omega) ?_ | refine NotOwned.row (by omega) ?_ | refine NotOwned.grid (by assumption) (by omega) ?_ | refine NotOwned.pile (by omega) ?_ | refine NotOwned.pool (by omega) ?_ | refine NotOwned.mapI (by omega) ?_ | refine NotOwned.mapX (by omega) ?_ | refine NotOwned.itI (by omega) ?_)); done))))⟩
        · apply W.skip
          with_reducible apply At.in_normal
          with_reducible apply At.next
          apply W.reg
          apply obn; rfl; rfl; rfl; apply Bin.add_in; omega
          apply omv; rfl; rfl
          apply OL.nil
          exact At.again (i + 1) ⟨by omega, hagain (by first | exact hbk | (rw [hbk]; grind))⟩ (by omega) (by (repeat (first | exact Sub.nil | apply Sub.cons rfl | (refine Sub.cons_eq rfl (congrArg (Value.int .i64) (by first | omega | (simp only; omega))) ?_)))) (fun w' hw' => hw')
  · obtain rfl : i = x.binds.length := by omega
    have hkb : kidsB (es.map Prod.fst) x = true := all_range hall
    apply W.exit
    with_reducible apply At.then_exit
    with_reducible apply At.then_exit
    with_reducible apply At.in_exit
    with_reducible apply At.next
    apply W.seq
    apply W.reg
    apply oas; rfl; rfl
    apply OL.nil
    with_reducible apply At.next
    apply W.ret
    ((with_reducible apply At.fin1); rfl; rfl; intro w' hw')
    exact ⟨by rw [hkb], by (exact hw'.toExt (by (repeat (first | exact List.Mem.head _ | apply List.Mem.tail))) (fun k hk => by (focus ((try simp only [add_block]); (repeat (first | exact NotOwned.nil | exact hno _ (by omega) | refine NotOwned.nothing ?_ | refine NotOwned.nds (hlow _ (by omega)) ?_ | refine NotOwned.mapS (by omega) ?_ | apply NotOwned.bif | refine NotOwned.blk (by omega) ?_ | refine NotOwned.row (by omega) ?_ | refine NotOwned.grid (by assumption) (by omega) ?_ | refine NotOwned.pile (by omega) ?_ | refine NotOwned.pool (by omega) ?_ | refine NotOwned.mapI (by omega) ?_ | refine NotOwned.mapX (by omega) ?_ | refine NotOwned.itI (by omega) ?_)); done))))⟩
end Go.Proofs.YtlboppiogeaicaaDoor.co
namespace Go.Co
open Go.Eng Go.RowKit
set_option linter.unusedVariables false
set_option linter.unusedSimpArgs false
theorem dep_small {e : List Ex} {P : List Int} (ht : IsTree e) (hP : Parents e P) {i : Nat} (hi : i < e.length) : dep e P i ≤ e.length := by
  obtain ⟨d, hu, hd⟩ := dep_under ht hP hi
  have := hu.le ht.down
  omega
theorem depths_small {e : List Ex} {P : List Int} (ht : IsTree e) (hP : Parents e P) : ∀ {n : Nat}, n ≤ e.length → depths e P n ≤ e.length
  | 0, _ => Nat.zero_le _
  | n + 1, h => by
    rw [depths_succ]
    have := depths_small ht hP (n := n) (by omega)
    have := dep_small ht hP (i := n) (by omega)
    omega
/-- a node's parent, or none -/
theorem Parents.cases {e : List Ex} {P : List Int} (hP : Parents e P) (ht : IsTree e) {c : Nat} (hc : c < e.length) : P[c]? = some (-1) ∨ ∃ p m : Nat, P[c]? = some (p : Int) ∧ c < p ∧ p < e.length ∧ Par e c p m := by
  by_cases h : c + 1 < e.length
  · obtain ⟨p, m, hp⟩ := ht.one c h
    have hl := hp.lt ht.down
    exact .inr ⟨p, m, hP.par c p m hp, hl.1, hl.2, hp⟩
  · rw [show c = e.length - 1 by omega]
    exact .inl hP.root
end Go.Co
namespace Go.Proofs.YtlboppiogeaicaaDoor.co
open Go.RowKit Go.Eng Go.Co
set_option linter.unusedVariables false
set_option linter.unusedSimpArgs false
set_option maxRecDepth 100000
theorem Depth_calls (e : List Ex) (q qp : Option Addr) (cap cp : Nat) (P : List Int) (w : World) (ht : IsTree e) (hP : Parents e P) (hlen : e.length ≤ 4096) (hI : IntsO w (low w) P qp) :
    Calls Tryd.prog 71 [.slice q e.length cap, .slice qp e.length cp].toArray w fun e1 w' => e1 = .returned (.int .i64 (depths e P e.length : Int)) ∧ Ext w w' := by
  refine enter Tryd.func71 rfl Tryd.ntmps71 rfl (Cls.start w) ?_
  (simp only [argEnv, Nat.zero_add, Nat.reduceAdd])
  apply W.seq
  apply W.reg
  apply oas; rfl; rfl
  apply OL.nil
  with_reducible apply At.next
  apply W.seq
  apply W.reg
  apply oas; rfl; rfl
  apply OL.nil
  with_reducible apply At.next
  apply W.seq
  apply W.seq
  apply W.reg
  apply omv; rfl; rfl
  apply OL.op; exact Guard.none; rfl; rfl; apply Pev.len_slice; rfl; exact yes; rfl
  apply omv; rfl; rfl
  apply OL.nil
  with_reducible apply At.next
  apply W.block
  refine W.loop (G := Nat) (fun i => i ≤ e.length) (fun i => e.length - i)
    (fun i => [(1, true, .slice qp e.length cp), (5, true, .int .i64 (depths e P i : Int)), (10, true, .int .i64 (e.length : Int)), (11, true, .int .i64 (i : Int))])
    (fun i => Cls [] [w]) 0 (by omega) (by (repeat (first | exact Sub.nil | apply Sub.cons rfl | (refine Sub.cons_eq rfl (congrArg (Value.int .i64) (by first | omega | (simp only; omega))) ?_)))) (fun w' hw' => hw') ?_
  rintro i hi
  apply W.seq
  apply W.reg
  apply obn; rfl; rfl; rfl; apply Bin.lss
  apply OL.nil
  with_reducible apply At.next
  apply W.seq
  (refine W.cond rfl (fun hlt => ?_) (fun hlt => ?_)) <;> (try (simp only [Bool.and_eq_true, Bool.or_eq_true, Bool.not_eq_true', Bool.and_eq_false_iff, Bool.or_eq_false_iff, Bool.not_eq_false', decide_eq_true_eq, decide_eq_false_iff_not, Int.not_lt, Int.not_le] at hlt)) <;> (try (exfalso; first | omega | exact hlt trivial | contradiction))
  · have hil : i < e.length := by omega
    have hdi := dep_small ht hP hil
    have hds := depths_small ht hP hi
    apply W.skip
    with_reducible apply At.next
    apply W.seq
    apply W.block
    apply W.seq
    apply W.reg
    apply omv; rfl; rfl
    apply oas; rfl; rfl
    apply OL.nil
    with_reducible apply At.next
    apply W.seq
    apply W.reg
    apply oas; rfl; rfl
    apply OL.nil
    with_reducible apply At.next
    apply W.seq
    apply W.seq
    apply W.reg
    apply omv; rfl; rfl
    apply oas; rfl; rfl
    apply OL.nil
    with_reducible apply At.next
    apply W.block
    refine W.loop (G := Int × Nat) (fun g => (g.1 = -1 ∧ g.2 = dep e P i) ∨ (0 ≤ g.1 ∧ g.1.toNat < e.length ∧ g.2 + dep e P g.1.toNat = dep e P i)) (fun g => if g.1 < 0 then 0 else e.length - g.1.toNat)
      (fun g => [(1, true, .slice qp e.length cp), (5, true, .int .i64 (depths e P i : Int)), (7, true, .int .i64 (g.2 : Int)), (8, true, .int .i64 g.1), (10, true, .int .i64 (e.length : Int)), (11, true, .int .i64 (i : Int))])
      (fun i => Cls [] [w]) ((i : Int), 0) (.inr ⟨by simp, by simpa using hil, by simp⟩) (by (repeat (first | exact Sub.nil | apply Sub.cons rfl | (refine Sub.cons_eq rfl (congrArg (Value.int .i64) (by first | omega | (simp only; omega))) ?_)))) (fun w' hw' => hw') ?_
    rintro ⟨k, n⟩ hk
    simp only at hk ⊢
    apply W.seq
    apply W.seq
    apply W.reg
    apply omv; rfl; rfl
    apply obn; rfl; rfl; rfl; apply Bin.geq
    apply OL.nil
    with_reducible apply At.next
    (refine W.cond rfl (fun hk0 => ?_) (fun hk0 => ?_)) <;> (try (simp only [Bool.and_eq_true, Bool.or_eq_true, Bool.not_eq_true', Bool.and_eq_false_iff, Bool.or_eq_false_iff, Bool.not_eq_false', decide_eq_true_eq, decide_eq_false_iff_not, Int.not_lt, Int.not_le] at hk0)) <;> (try (exfalso; first | omega | exact hk0 trivial | contradiction))
    · obtain ⟨c, rfl⟩ : ∃ c : Nat, k = (c : Int) := ⟨k.toNat, by omega⟩
      obtain ⟨hc, hn⟩ : c < e.length ∧ n + dep e P c = dep e P i := by
        rcases hk with ⟨h1, _⟩ | ⟨_, h2, h3⟩
        · omega
        · exact ⟨by simpa using h2, by simpa using h3⟩
      obtain ⟨a, u, hq, hab, hu, hcell⟩ := hI.get (i := c) (by rw [hP.len]; exact hc)
      have hab : a.block < w.heap.size := hab
      rw [hq]
      apply W.skip
      with_reducible apply At.next
      apply W.seq
      apply W.block
      apply W.reg
      apply omv; rfl; rfl
      apply obn; rfl; rfl; rfl; apply Bin.add_in; omega
      apply oas; rfl; rfl
      apply OL.nil
      with_reducible apply At.in_normal
      with_reducible apply At.next
      apply W.reg
      apply omv; rfl; rfl
      apply omv; rfl; rfl
      apply OL.op; exact Guard.none; rfl; rfl; apply Pev.idx; rfl; exact yes; rfl; exact yes; rfl; rfl; intro hcond; omega
      apply OL.op; exact Guard.none; rfl; rfl; apply Pev.load_kept; rfl; exact yes; exact .head _; rfl; intro hcond; assumption; intro hcond; (rw [add_block]; assumption); intro hcond; exact NotOwned.nil
      apply oas; rfl; rfl
      apply OL.nil
      rcases hP.cases ht hc with h1 | ⟨p, m, h1, h2, h3, _⟩
      · rw [h1] at hu
        obtain rfl := Option.some.inj hu
        have := dep_root (e := e) h1
        exact At.again (-1, n + 1) (.inl ⟨rfl, by simp only; omega⟩) (by simp only; rw [if_pos (by omega), if_neg (by omega)]; simp; omega) (by (repeat (first | exact Sub.nil | apply Sub.cons rfl | (refine Sub.cons_eq rfl (congrArg (Value.int .i64) (by first | omega | (simp only; omega))) ?_)))) (fun w' hw' => hw')
      · rw [h1] at hu
        obtain rfl := Option.some.inj hu
        have := dep_up h1 ⟨by omega, by simpa using h2, by simpa using h3⟩
        simp only [Int.toNat_natCast] at this
        exact At.again ((p : Int), n + 1) (.inr ⟨by simp, by simpa using h3, by simp only [Int.toNat_natCast]; omega⟩) (by simp only; rw [if_neg (by omega), if_neg (by omega)]; simp; omega) (by (repeat (first | exact Sub.nil | apply Sub.cons rfl | (refine Sub.cons_eq rfl (congrArg (Value.int .i64) (by first | omega | (simp only; omega))) ?_)))) (fun w' hw' => hw')
    · have hn : n = dep e P i := by
        rcases hk with ⟨_, h1⟩ | ⟨h1, _⟩
        · exact h1
        · omega
      subst hn
      apply W.exit
      with_reducible apply At.then_exit
      with_reducible apply At.then_exit
      with_reducible apply At.in_exit
      with_reducible apply At.next
      apply W.reg
      apply omv; rfl; rfl
      apply omv; rfl; rfl
      apply OL.op; exact Guard.none; rfl; rfl; apply Pev.max2; rfl; exact yes; rfl; exact yes
      apply oas; rfl; rfl
      apply OL.nil
      with_reducible apply At.in_normal
      with_reducible apply At.next
      apply W.reg
      apply obn; rfl; rfl; rfl; apply Bin.add_in; omega
      apply omv; rfl; rfl
      apply OL.nil
      rw [maxIf, ← depths_succ]
      skip
      exact At.again (i + 1) (by omega) (by omega) (by (repeat (first | exact Sub.nil | apply Sub.cons rfl | (refine Sub.cons_eq rfl (congrArg (Value.int .i64) (by first | omega | (simp only; omega))) ?_)))) (fun w' hw' => hw')
  · obtain rfl : i = e.length := by omega
    apply W.exit
    with_reducible apply At.then_exit
    with_reducible apply At.then_exit
    with_reducible apply At.in_exit
    with_reducible apply At.next
    apply W.seq
    apply W.reg
    apply omv; rfl; rfl
    apply oas; rfl; rfl
    apply OL.nil
    with_reducible apply At.next
    apply W.ret
    ((with_reducible apply At.fin1); rfl; rfl; intro w' hw')
    exact ⟨rfl, by (exact hw'.toExt (by (repeat (first | exact List.Mem.head _ | apply List.Mem.tail))) (fun k hk => by (focus ((try simp only [add_block]); (repeat (first | exact NotOwned.nil | exact hno _ (by omega) | refine NotOwned.nothing ?_ | refine NotOwned.nds (hlow _ (by omega)) ?_ | refine NotOwned.mapS (by omega) ?_ | apply NotOwned.bif | refine NotOwned.blk (by omega) ?_ | refine NotOwned.row (by omega) ?_ | refine NotOwned.grid (by assumption) (by omega) ?_ | refine NotOwned.pile (by omega) ?_ | refine NotOwned.pool (by omega) ?_ | refine NotOwned.mapI (by omega) ?_ | refine NotOwned.mapX (by omega) ?_ | refine NotOwned.itI (by omega) ?_)); done))))⟩
theorem binder_calls (es : List (Ex × ExY)) (q qp : Option Addr) (cap cp : Nat) (P : List Int) (at_ : Nat) (x0 : Ex) (w : World) (he : Arr exR w (low w) es q) (hlen : es.length ≤ 4096) (ht : IsTree (es.map Prod.fst)) (hP : Parents (es.map Prod.fst) P) (hI : IntsO w (low w) P qp)
    (hx0 : (es.map Prod.fst)[at_]? = some x0) (hk7 : ∀ p ∈ es, p.1.op = 7 ∨ p.1.op = 13 → p.1.kids.length = 1 + p.1.alts.length) (ha : ∀ p ∈ es, ¬ (p.1.op = 7 ∨ p.1.op = 13) → p.1.alts.length = 0) :
    Calls Tryd.prog 46 [.slice q es.length cap, .slice qp es.length cp, .int .i64 (at_ : Int)].toArray w fun e1 w' => e1 = .returned (.int .i64 (bnd (es.map Prod.fst) P x0.n at_)) ∧ Ext w w' := by
  obtain ⟨e, hee⟩ : ∃ e, es.map Prod.fst = e := ⟨_, rfl⟩
  have hel : e.length = es.length := by rw [← hee, List.length_map]
  rw [hee] at hx0 ht hP ⊢
  have hget : ∀ {i : Nat}, i < es.length → ∃ a p, q = some a ∧ a.block < w.heap.size ∧ es[i]? = some p ∧ e[i]? = some p.1 ∧ CellsAt w (a.add (i * 5)) [.int .i64 p.1.op, .int .i64 p.1.n, .slice p.2.b.1 p.1.binds.length p.2.b.2, .slice p.2.k.1 p.1.kids.length p.2.k.2, .slice p.2.a.1 p.1.alts.length p.2.a.2] ∧ ExOk w (low w) p.1 p.2 := fun {i} hi => by
    obtain ⟨a, p, h1, h2, h3, h4, h5⟩ := he.get hi
    exact ⟨a, p, h1, h2, h3, by rw [← hee, List.getElem?_map, h3]; rfl, h4, h5⟩
  have hat : at_ < es.length := by have := (List.getElem?_eq_some_iff.1 hx0).1; omega
  obtain ⟨a0, p0, hq0, hab0, hp0, hpe0, hcell0, hok0⟩ := hget hat
  rw [hx0] at hpe0
  obtain rfl := Option.some.inj hpe0
  refine enter Tryd.func46 rfl Tryd.ntmps46 rfl (Cls.start w) ?_
  (simp only [argEnv, Nat.zero_add, Nat.reduceAdd])
  apply W.seq
  apply W.reg
  apply oas; rfl; rfl
  apply OL.nil
  with_reducible apply At.next
  apply W.seq
  apply W.seq
  apply W.reg
  apply omv; rfl; rfl
  apply oas; rfl; rfl
  apply OL.nil
  with_reducible apply At.next
  apply W.block
  refine W.loop (G := Nat) (fun c => c < es.length ∧ bnd e P p0.1.n c = bnd e P p0.1.n at_) (fun c => es.length - c)
    (fun c => [(0, true, .slice q es.length cap), (1, true, .slice qp es.length cp), (2, true, .int .i64 (at_ : Int)), (7, true, .int .i64 (c : Int))])
    (fun c => Cls [] [w]) at_ ⟨hat, rfl⟩ (by (repeat (first | exact Sub.nil | apply Sub.cons rfl | (refine Sub.cons_eq rfl (congrArg (Value.int .i64) (by first | omega | (simp only; omega))) ?_)))) (fun w' hw' => hw') ?_
  rintro c ⟨hc, hb⟩
  obtain ⟨a, u, hq, hab, hu, hcell⟩ := hI.get (i := c) (by rw [hP.len]; omega)
  have hab : a.block < w.heap.size := hab
  rw [hq]
  apply W.seq
  apply W.seq
  apply W.reg
  apply omv; rfl; rfl
  apply omv; rfl; rfl
  apply OL.op; exact Guard.none; rfl; rfl; apply Pev.idx; rfl; exact yes; rfl; exact yes; rfl; rfl; intro hcond; omega
  apply OL.op; exact Guard.none; rfl; rfl; apply Pev.load_kept; rfl; exact yes; exact .head _; rfl; intro hcond; assumption; intro hcond; (rw [add_block]; assumption); intro hcond; exact NotOwned.nil
  apply obn; rfl; rfl; rfl; apply Bin.geq
  apply OL.nil
  with_reducible apply At.next
  rcases hP.cases ht (c := c) (by omega) with h1 | ⟨p, m0, h1, h2, h3, _⟩
  · rw [h1] at hu
    obtain rfl := Option.some.inj hu
    refine W.cond rfl (fun hb => by cases hb) (fun _ => ?_)
    apply W.exit
    with_reducible apply At.then_exit
    with_reducible apply At.then_exit
    with_reducible apply At.in_exit
    with_reducible apply At.next
    apply W.seq
    apply W.reg
    apply oas; rfl; rfl
    apply OL.nil
    with_reducible apply At.next
    apply W.ret
    ((with_reducible apply At.fin1); rfl; rfl; intro w' hw')
    exact ⟨by rw [← hb, bnd_root h1], by (exact hw'.toExt (by (repeat (first | exact List.Mem.head _ | apply List.Mem.tail))) (fun k hk => by (focus ((try simp only [add_block]); (repeat (first | exact NotOwned.nil | exact hno _ (by omega) | refine NotOwned.nothing ?_ | refine NotOwned.nds (hlow _ (by omega)) ?_ | refine NotOwned.mapS (by omega) ?_ | apply NotOwned.bif | refine NotOwned.blk (by omega) ?_ | refine NotOwned.row (by omega) ?_ | refine NotOwned.grid (by assumption) (by omega) ?_ | refine NotOwned.pile (by omega) ?_ | refine NotOwned.pool (by omega) ?_ | refine NotOwned.mapI (by omega) ?_ | refine NotOwned.mapX (by omega) ?_ | refine NotOwned.itI (by omega) ?_)); done))))⟩
  · rw [h1] at hu
    obtain rfl := Option.some.inj hu
    obtain ⟨a1, x, hq1, hab1, hp1, hpe1, hcell1, hok1⟩ := hget (i := p) (by omega)
    rw [hq0] at hq1
    obtain rfl := Option.some.inj hq1
    have hkl := hok1.kl
    have hup := bnd_up (n := p0.1.n) h1 h2 hpe1
    rw [hq0]
    refine W.cond rfl (fun _ => ?_) (fun hb => by simp at hb)
    apply W.skip
    with_reducible apply At.next
    apply W.seq
    apply W.block
    apply W.seq
    apply W.reg
    apply omv; rfl; rfl
    apply omv; rfl; rfl
    apply OL.op; exact Guard.none; rfl; rfl; apply Pev.idx; rfl; exact yes; rfl; exact yes; rfl; rfl; intro hcond; omega
    apply OL.op; exact Guard.none; rfl; rfl; apply Pev.load_kept; rfl; exact yes; exact .head _; rfl; intro hcond; assumption; intro hcond; (rw [add_block]; assumption); intro hcond; exact NotOwned.nil
    apply oas; rfl; rfl
    apply OL.nil
    with_reducible apply At.next
    apply W.seq
    apply W.reg
    apply omv; rfl; rfl
    apply omv; rfl; rfl
    apply OL.op; exact Guard.none; rfl; rfl; apply Pev.idx; rfl; exact yes; rfl; exact yes; rfl; rfl; intro hcond; omega
    apply OL.op; exact Guard.none; rfl; rfl; apply Pev.fldA; rfl; exact yes; rfl
    apply OL.op; exact Guard.none; rfl; rfl; apply Pev.load_kept; rfl; exact yes; exact .head _; rfl; intro hcond; apply CellsAt.at_ (by assumption) rfl; intro hcond; (simp only [add_block]; assumption); intro hcond; exact NotOwned.nil
    apply OL.op; exact Guard.none; rfl; rfl; apply Pev.len_slice; rfl; exact yes; rfl
    apply omv; rfl; rfl
    apply OL.nil
    with_reducible apply At.next
    apply W.block
    refine W.loop (G := Nat) (fun m => m ≤ x.1.kids.length ∧ ∀ m', m' < m → hitK x.1 c p0.1.n m' = false) (fun m => x.1.kids.length - m)
      (fun m => [(0, true, .slice (some a0) es.length cap), (1, true, .slice (some a) es.length cp), (2, true, .int .i64 (at_ : Int)), (7, true, .int .i64 (c : Int)), (8, true, .int .i64 (p : Int)), (29, true, .slice x.2.k.1 x.1.kids.length x.2.k.2), (30, true, .int .i64 (x.1.kids.length : Int)), (31, true, .int .i64 (m : Int))])
      (fun m => Cls [] [w]) 0 ⟨by omega, fun m' h => by omega⟩ (by (repeat (first | exact Sub.nil | apply Sub.cons rfl | (refine Sub.cons_eq rfl (congrArg (Value.int .i64) (by first | omega | (simp only; omega))) ?_)))) (fun w' hw' => hw') ?_
    rintro m ⟨hm, hno⟩
    apply W.seq
    apply W.reg
    apply obn; rfl; rfl; rfl; apply Bin.lss
    apply OL.nil
    with_reducible apply At.next
    apply W.seq
    (refine W.cond rfl (fun hlt => ?_) (fun hlt => ?_)) <;> (try (simp only [Bool.and_eq_true, Bool.or_eq_true, Bool.not_eq_true', Bool.and_eq_false_iff, Bool.or_eq_false_iff, Bool.not_eq_false', decide_eq_true_eq, decide_eq_false_iff_not, Int.not_lt, Int.not_le] at hlt)) <;> (try (exfalso; first | omega | exact hlt trivial | contradiction))
    · have hml : m < x.1.kids.length := by omega
      obtain ⟨ak, k, hqk, habk, hk, hck⟩ := hok1.k.get hml
      have habk : ak.block < w.heap.size := habk
      have hxm := List.mem_of_getElem? hp1
      rw [hqk]
      by_cases hkc : k = (c : Int)
      · subst hkc
        obtain ⟨qs, cs, hIs, hsl, hcall⟩ := Scope_calls x.1 x.2 m w hok1 (fun h7 => by have := hk7 x hxm h7; omega) (ha x hxm) (by omega)
        simp only [exC] at hcall
        have hhk : hitK x.1 c p0.1.n m = decide (p0.1.n ∈ scopeX x.1 m) := by unfold hitK; rw [hk]; simp
        apply W.skip
        with_reducible apply At.next
        apply W.seq
        apply W.block
        apply W.seq
        apply W.reg
        apply omv; rfl; rfl
        apply OL.op; exact Guard.none; rfl; rfl; apply Pev.idx; rfl; exact yes; rfl; exact yes; rfl; rfl; intro hcond; omega
        apply OL.op; exact Guard.none; rfl; rfl; apply Pev.load_kept; rfl; exact yes; exact .head _; rfl; intro hcond; assumption; intro hcond; (rw [add_block]; assumption); intro hcond; exact NotOwned.nil
        apply oas; rfl; rfl
        apply oas; rfl; rfl
        apply OL.nil
        with_reducible apply At.next
        apply W.seq
        apply W.regd0; decide +kernel; kernel_rfl; decide +kernel; exact fun w hw => hw.drew
        apply qmv; rfl; rfl
        apply qmv; rfl; rfl
        apply qbn; rfl; rfl; rfl; apply Bin.eql
        apply qmv; rfl; rfl
        apply QL.op; exact Guard.yes rfl rfl; rfl; rfl; apply Pev.move; rfl; exact yes
        apply QL.op; exact Guard.yes rfl rfl; rfl; rfl; apply Pev.move; rfl; exact yes
        apply QL.op; exact Guard.yes rfl rfl; rfl; rfl; apply Pev.idx; rfl; exact fun h => h; rfl; exact fun h => h; rfl; rfl; intro hcond; omega
        apply QL.op; exact Guard.yes rfl rfl; rfl; rfl; apply Pev.load_keptA; rfl; exact fun h => h; exact .head _; rfl; intro hcond; assumption; rfl; intro hcond; (rw [add_block]; assumption); intro hcond; exact NotOwned.nil
        apply QL.op; exact Guard.yes rfl rfl; rfl; rfl; apply Pev.move; rfl; exact yes
        (((first | (with_reducible apply OL.op) | (with_reducible apply QL.op)); ((first | exact Guard.none | exact Guard.yes rfl rfl | exact Guard.no rfl rfl | exact Guard.cyes rfl rfl | exact Guard.cno rfl rfl)); rfl; rfl); (exact Pev.call rfl (by (repeat (first | exact Args.nil | (apply Args.cons rfl; ((first | exact fun _ => rfl | exact fun h => h | (intro h; simp_all; done))))))) (fun _ w2 hw2 => (hcall w2 (hw2.same (.head _) (fun k hk => by (focus ((try simp only [add_block]); (repeat (first | exact NotOwned.nil | exact hno _ (by omega) | refine NotOwned.nothing ?_ | refine NotOwned.nds (hlow _ (by omega)) ?_ | refine NotOwned.mapS (by omega) ?_ | apply NotOwned.bif | refine NotOwned.blk (by omega) ?_ | refine NotOwned.row (by omega) ?_ | refine NotOwned.grid (by assumption) (by omega) ?_ | refine NotOwned.pile (by omega) ?_ | refine NotOwned.pool (by omega) ?_ | refine NotOwned.mapI (by omega) ?_ | refine NotOwned.mapX (by omega) ?_ | refine NotOwned.itI (by omega) ?_)); done)))) (hw2.kp w (by (repeat (first | exact List.Mem.head _ | apply List.Mem.tail)))).size).mono (fun e w3 h => ⟨h.1, hw2.ext h.2⟩))))
        apply QL.op; exact Guard.yes rfl rfl; rfl; rfl; apply Pev.move; rfl; exact yes
        apply QL.op; exact Guard.yes rfl rfl; rfl; rfl; apply Pev.move; rfl; exact yes
        apply QL.op; exact Guard.yes rfl rfl; rfl; rfl; apply Pev.idx; rfl; exact fun h => h; rfl; exact fun h => h; rfl; rfl; intro hcond; omega
        apply QL.op; exact Guard.yes rfl rfl; rfl; rfl; apply Pev.fldA; rfl; exact fun h => h; rfl
        apply QL.op; exact Guard.yes rfl rfl; rfl; rfl; apply Pev.load_kept; rfl; exact fun h => h; exact .head _; rfl; intro hcond; apply CellsAt.at_ (by assumption) rfl; intro hcond; (simp only [add_block]; assumption); intro hcond; exact NotOwned.nil
        (((first | (with_reducible apply OL.op) | (with_reducible apply QL.op)); ((first | exact Guard.none | exact Guard.yes rfl rfl | exact Guard.no rfl rfl | exact Guard.cyes rfl rfl | exact Guard.cno rfl rfl)); rfl; rfl); (exact Pev.call rfl (by (repeat (first | exact Args.nil | (apply Args.cons rfl; ((first | exact fun _ => rfl | exact fun h => h | (intro h; simp_all; done))))))) (fun _ w2 hw2 => (In_calls qs cs (scopeX x.1 m) p0.1.n w2 (by omega) (hIs.at hw2 (by (repeat (first | exact List.Mem.head _ | apply List.Mem.tail))) (fun k hk => by (focus ((try simp only [add_block]); (repeat (first | exact NotOwned.nil | exact hno _ (by omega) | refine NotOwned.nothing ?_ | refine NotOwned.nds (hlow _ (by omega)) ?_ | refine NotOwned.mapS (by omega) ?_ | apply NotOwned.bif | refine NotOwned.blk (by omega) ?_ | refine NotOwned.row (by omega) ?_ | refine NotOwned.grid (by assumption) (by omega) ?_ | refine NotOwned.pile (by omega) ?_ | refine NotOwned.pool (by omega) ?_ | refine NotOwned.mapI (by omega) ?_ | refine NotOwned.mapX (by omega) ?_ | refine NotOwned.itI (by omega) ?_)); done))))).mono (fun e w3 h => ⟨h.1, hw2.ext h.2⟩))))
        apply QL.op; exact Guard.none; rfl; rfl; apply Pev.pick_and; rfl; exact yes; rfl; exact fun h => h
        apply QL.nil
        with_reducible apply At.next
        refine W.cond rfl (fun hb2 => ?_) (fun hb2 => ?_)
        · have hin : p0.1.n ∈ scopeX x.1 m := by simpa using hb2
          apply W.seq
          apply W.reg
          apply omv; rfl; rfl
          apply oas; rfl; rfl
          apply OL.nil
          with_reducible apply At.next
          apply W.ret
          with_reducible apply At.in_ret
          with_reducible apply At.then_ret
          with_reducible apply At.then_ret
          with_reducible apply At.in_ret
          with_reducible apply At.in_ret
          with_reducible apply At.then_ret
          with_reducible apply At.then_ret
          with_reducible apply At.in_ret
          with_reducible apply At.then_ret
          ((with_reducible apply At.fin1); rfl; rfl; intro w' hw')
          refine ⟨?_, by (exact hw'.toExt (by (repeat (first | exact List.Mem.head _ | apply List.Mem.tail))) (fun k hk => by (focus ((try simp only [add_block]); (repeat (first | exact NotOwned.nil | exact hno _ (by omega) | refine NotOwned.nothing ?_ | refine NotOwned.nds (hlow _ (by omega)) ?_ | refine NotOwned.mapS (by omega) ?_ | apply NotOwned.bif | refine NotOwned.blk (by omega) ?_ | refine NotOwned.row (by omega) ?_ | refine NotOwned.grid (by assumption) (by omega) ?_ | refine NotOwned.pile (by omega) ?_ | refine NotOwned.pool (by omega) ?_ | refine NotOwned.mapI (by omega) ?_ | refine NotOwned.mapX (by omega) ?_ | refine NotOwned.itI (by omega) ?_)); done))))⟩
          have hh : hit x.1 c p0.1.n = true := by
            unfold hit
            rw [List.any_eq_true]
            exact ⟨m, List.mem_range.2 hml, by rw [hhk]; simpa using hin⟩
          rw [← hb, hup, if_pos hh]
        · have hnin : ¬ p0.1.n ∈ scopeX x.1 m := by simpa using hb2
          apply W.skip
          with_reducible apply At.in_normal
          with_reducible apply At.next
          apply W.reg
          apply obn; rfl; rfl; rfl; apply Bin.add_in; omega
          apply omv; rfl; rfl
          apply OL.nil
          refine At.again (m + 1) ⟨by omega, fun m' hm' => ?_⟩ (by omega) (by (repeat (first | exact Sub.nil | apply Sub.cons rfl | (refine Sub.cons_eq rfl (congrArg (Value.int .i64) (by first | omega | (simp only; omega))) ?_)))) (fun w' hw' => hw')
          by_cases em : m' = m
          · subst em
            rw [hhk]
            simpa using hnin
          · exact hno m' (by omega)
      · apply W.skip
        with_reducible apply At.next
        apply W.seq
        apply W.block
        apply W.seq
        apply W.reg
        apply omv; rfl; rfl
        apply OL.op; exact Guard.none; rfl; rfl; apply Pev.idx; rfl; exact yes; rfl; exact yes; rfl; rfl; intro hcond; omega
        apply OL.op; exact Guard.none; rfl; rfl; apply Pev.load_kept; rfl; exact yes; exact .head _; rfl; intro hcond; assumption; intro hcond; (rw [add_block]; assumption); intro hcond; exact NotOwned.nil
        apply oas; rfl; rfl
        apply oas; rfl; rfl
        apply OL.nil
        with_reducible apply At.next
        apply W.seq
        apply W.regd0; decide +kernel; kernel_rfl; decide +kernel; exact fun w hw => hw.drew
        apply qmv; rfl; rfl
        apply qmv; rfl; rfl
        apply qbn; rfl; rfl; rfl; apply Bin.eql
        apply qmv; rfl; rfl
        apply QL.op; exact Guard.yes rfl rfl; rfl; rfl; apply Pev.move; rfl; exact yes
        apply QL.op; exact Guard.yes rfl rfl; rfl; rfl; apply Pev.move; rfl; exact yes
        apply QL.op; exact Guard.yes rfl rfl; rfl; rfl; apply Pev.idx; rfl; exact fun h => h; rfl; exact fun h => h; rfl; rfl; intro hcond; omega
        apply QL.op; exact Guard.yes rfl rfl; rfl; rfl; apply Pev.load_keptA; rfl; exact fun h => h; exact .head _; rfl; intro hcond; assumption; rfl; intro hcond; (rw [add_block]; assumption); intro hcond; exact NotOwned.nil
        apply QL.op; exact Guard.yes rfl rfl; rfl; rfl; apply Pev.move; rfl; exact yes
        apply QL.gateOff; exact Guard.yes rfl rfl; (simp; omega); rfl
        apply QL.op; exact Guard.yes rfl rfl; rfl; rfl; apply Pev.move; rfl; exact yes
        apply QL.op; exact Guard.yes rfl rfl; rfl; rfl; apply Pev.move; rfl; exact yes
        apply QL.op; exact Guard.yes rfl rfl; rfl; rfl; apply Pev.idx; rfl; exact fun h => h; rfl; exact fun h => h; rfl; rfl; intro hcond; omega
        apply QL.op; exact Guard.yes rfl rfl; rfl; rfl; apply Pev.fldA; rfl; exact fun h => h; rfl
        apply QL.op; exact Guard.yes rfl rfl; rfl; rfl; apply Pev.load_kept; rfl; exact fun h => h; exact .head _; rfl; intro hcond; apply CellsAt.at_ (by assumption) rfl; intro hcond; (simp only [add_block]; assumption); intro hcond; exact NotOwned.nil
        apply QL.gateOff; exact Guard.yes rfl rfl; (simp; omega); rfl
        apply QL.op; exact Guard.none; rfl; rfl; apply Pev.pick_off; rfl; exact yes; (intro hcond; simp; omega); rfl; exact yes
        apply QL.nil
        with_reducible apply At.next
        refine W.cond rfl (fun hb2 => by simp [hkc] at hb2) (fun hb2 => ?_)
        apply W.skip
        with_reducible apply At.in_normal
        with_reducible apply At.next
        apply W.reg
        apply obn; rfl; rfl; rfl; apply Bin.add_in; omega
        apply omv; rfl; rfl
        apply OL.nil
        refine At.again (m + 1) ⟨by omega, fun m' hm' => ?_⟩ (by omega) (by (repeat (first | exact Sub.nil | apply Sub.cons rfl | (refine Sub.cons_eq rfl (congrArg (Value.int .i64) (by first | omega | (simp only; omega))) ?_)))) (fun w' hw' => hw')
        by_cases em : m' = m
        · subst em
          unfold hitK
          rw [hk]
          simp [hkc]
        · exact hno m' (by omega)
    · obtain rfl : m = x.1.kids.length := by omega
      have hh : ¬ hit x.1 c p0.1.n = true := by
        unfold hit
        rw [List.any_eq_true]
        rintro ⟨m', h4, h5⟩
        rw [hno m' (List.mem_range.1 h4)] at h5
        cases h5
      rw [if_neg hh] at hup
      apply W.exit
      with_reducible apply At.then_exit
      with_reducible apply At.then_exit
      with_reducible apply At.in_exit
      with_reducible apply At.in_normal
      with_reducible apply At.next
      apply W.reg
      apply omv; rfl; rfl
      apply omv; rfl; rfl
      apply OL.op; exact Guard.none; rfl; rfl; apply Pev.idx; rfl; exact yes; rfl; exact yes; rfl; rfl; intro hcond; omega
      apply OL.op; exact Guard.none; rfl; rfl; apply Pev.load_kept; rfl; exact yes; exact .head _; rfl; intro hcond; assumption; intro hcond; (rw [add_block]; assumption); intro hcond; exact NotOwned.nil
      apply oas; rfl; rfl
      apply OL.nil
      refine At.again p ⟨by omega, by rw [← hb, hup]⟩ (by omega) (by (repeat (first | exact Sub.nil | apply Sub.cons rfl | (refine Sub.cons_eq rfl (congrArg (Value.int .i64) (by first | omega | (simp only; omega))) ?_)))) (fun w' hw' => hw')
end Go.Proofs.YtlboppiogeaicaaDoor.co
namespace Go.Co
open Go.Eng Go.RowKit
set_option linter.unusedVariables false
set_option linter.unusedSimpArgs false
theorem IntsO.part {w w' : World} {lo : Nat} {l : List Int} {q : Option Addr} {H : List Eng.Item} {S : List World} (h : IntsO w (fun k => lo ≤ k ∧ k < w.heap.size) l q) (hw : Cls H S w') (hs : w ∈ S) (hno : ∀ k, lo ≤ k → NotOwned H k) : IntsO w' (low w') l q :=
  IntsO.mono (fun k hk => Nat.lt_of_lt_of_le hk.2 (hw.kp w hs).size) (IntsO.stab (fun k hk => (hw.kp w hs).block k hk.2 (hno k hk.1).not) h)
theorem IntsO.take {w : World} {O : Nat → Prop} {l : List Int} {q : Option Addr} (h : IntsO w O l q) (i : Nat) : IntsO w O (l.take i) q := fun hl => by
  rw [List.length_take] at hl
  obtain ⟨a, h1, h2, h3⟩ := h (by omega)
  refine ⟨a, h1, h2, fun j v hj => ?_⟩
  unfold ints at hj
  rw [List.map_take] at hj
  by_cases hji : j < i
  · rw [List.getElem?_take_of_lt hji] at hj
    exact h3 j v hj
  · rw [List.getElem?_eq_none (by rw [List.length_take]; omega)] at hj
    cases hj
theorem oneR_zero {e : List Ex} {flat : Bool} {x : Ex} (h : oneE e flat x = 0) : nodeE e x = 0 := by
  unfold oneE at h
  split at h
  · omega
  · exact h
theorem shape_kids {x : Ex} (h : shapeB x = true) : (x.op = 7 ∨ x.op = 13 → x.kids.length = 1 + x.alts.length) ∧ (¬ (x.op = 7 ∨ x.op = 13) → x.alts.length = 0) ∧ (x.op = 5 → x.kids.length = x.binds.length + 1) := by
  unfold shapeB at h
  by_cases h7 : x.op = 7 ∨ x.op = 13
  · rw [if_pos h7] at h
    simp only [Bool.and_eq_true, altsB, decide_eq_true_eq] at h
    exact ⟨fun _ => h.1.1.1.2, fun h8 => absurd h7 h8, fun h5 => by omega⟩
  · rw [if_neg h7] at h
    split at h
    · cases h
    · rename_i k b u hs
      simp only [Bool.and_eq_true, decide_eq_true_eq] at h
      refine ⟨fun h8 => absurd h8 h7, fun _ => h.1.2, fun h5 => ?_⟩
      unfold sh at hs
      simp [h5] at hs
      omega
theorem free_ok {e : List Ex} {P : List Int} {ps : List Int} (ht : IsTree e) (hP : Parents e P) (h0 : 0 < e.length) (h : ∀ (j : Nat) (x : Ex), e[j]? = some x → x.op = 0 → bnd e P x.n j < 0 → x.n ∈ ps) : ∀ n ∈ fv (grow e (e.length - 1)) [], n ∈ ps := fun n hn => by
  obtain ⟨j, x, sc, h1, h2, h3, h4, h5⟩ := (mem_fv ht.down (e.length - 1) (by omega) []).1 hn
  subst h3
  refine h j x h1 h2 ((bnd_neg ht hP x.n (List.getElem?_eq_some_iff.1 h1).1).2 fun sc2 hu => ?_)
  rw [Under.uniq ht hu h4]
  simpa using h5
theorem free_bad {e : List Ex} {P : List Int} (ht : IsTree e) (hP : Parents e P) (h0 : 0 < e.length) {j : Nat} {x : Ex} (hx : e[j]? = some x) (hop : x.op = 0) (hb : bnd e P x.n j < 0) : x.n ∈ fv (grow e (e.length - 1)) [] := by
  have hj := (List.getElem?_eq_some_iff.1 hx).1
  obtain ⟨sc, hu⟩ := ht.root hj
  exact (mem_fv ht.down (e.length - 1) (by omega) []).2 ⟨j, x, sc, hx, hop, rfl, hu, by simpa using (bnd_neg ht hP x.n hj).1 hb sc hu⟩
theorem treeE_tree {e : List Ex} (h : e.length ≤ 4096) (hg : TreeP e) : treeE e = if 400 < high (grow e (e.length - 1)) then 2 else 0 := treeE_ok h hg.1 hg.2.1 hg.2.2
theorem binders_small {l : List Ex} (h : ∀ x ∈ l, Lim x) : (l.flatMap bindersX).length ≤ l.length * 65552 := by
  induction l with
  | nil => simp
  | cons x r ih =>
    have h1 := h x (.head _)
    have h2 := ih fun y hy => h y (.tail _ hy)
    have h3 := flat_len h1.ab
    have h4 := h1.a
    have h5 := h1.b
    have h6 : (bindersX x).length ≤ 65552 := by
      unfold bindersX
      have h8 : (if x.op = 2 ∨ x.op = 4 ∨ x.op = 5 then x.binds else []).length ≤ x.binds.length := by split <;> simp
      rw [List.length_append]
      omega
    rw [List.flatMap_cons, List.length_append, List.length_cons]
    omega
end Go.Co
namespace Go.Proofs.YtlboppiogeaicaaDoor.co
open Go.RowKit Go.Eng Go.Co
set_option linter.unusedVariables false
set_option linter.unusedSimpArgs false
set_option maxRecDepth 100000
theorem BodyFault_calls (es : List (Ex × ExY)) (q qp : Option Addr) (cap cp : Nat) (ps : List Int) (flat : Bool) (w : World) (he : Arr exR w (low w) es q) (hlen : es.length ≤ 9223372036854775807) (hp : IntsO w (low w) ps qp) (hpl : ps.length ≤ 4096) :
    Calls Tryd.prog 38 [.slice q es.length cap, .slice qp ps.length cp, .bool flat].toArray w fun e w' => e = .returned (.int .i64 (bodyE (es.map Prod.fst) ps flat)) ∧ Ext w w' := by
  obtain ⟨e, hee⟩ : ∃ e, es.map Prod.fst = e := ⟨_, rfl⟩
  have hel : e.length = es.length := by rw [← hee, List.length_map]
  rw [hee]
  refine enter Tryd.func38 rfl Tryd.ntmps38 rfl (Cls.start w) ?_
  (simp only [argEnv, Nat.zero_add, Nat.reduceAdd])
  apply W.seq
  apply W.reg
  apply oas; rfl; rfl
  apply OL.nil
  with_reducible apply At.next
  apply W.seq
  apply W.seq
  apply W.reg
  apply omv; rfl; rfl
  apply OL.op; exact Guard.none; rfl; rfl; apply Pev.len_slice; rfl; exact yes; rfl
  apply obn; rfl; rfl; rfl; apply Bin.gtr
  apply OL.nil
  with_reducible apply At.next
  (refine W.cond rfl (fun hbig => ?_) (fun hbig => ?_)) <;> (try (simp only [Bool.and_eq_true, Bool.or_eq_true, Bool.not_eq_true', Bool.and_eq_false_iff, Bool.or_eq_false_iff, Bool.not_eq_false', decide_eq_true_eq, decide_eq_false_iff_not, Int.not_lt, Int.not_le] at hbig)) <;> (try (exfalso; first | omega | exact hbig trivial | contradiction))
  · apply W.seq
    apply W.reg
    apply oas; rfl; rfl
    apply OL.nil
    with_reducible apply At.next
    apply W.ret
    with_reducible apply At.then_ret
    ((with_reducible apply At.fin1); rfl; rfl; intro w' hw')
    have h2 := treeE_big (e := e) (by omega)
    exact ⟨by rw [bodyE_tree (by rw [h2]; simp), h2], by (exact hw'.toExt (by (repeat (first | exact List.Mem.head _ | apply List.Mem.tail))) (fun k hk => by (focus ((try simp only [add_block]); (repeat (first | exact NotOwned.nil | exact hno _ (by omega) | refine NotOwned.nothing ?_ | refine NotOwned.nds (hlow _ (by omega)) ?_ | refine NotOwned.mapS (by omega) ?_ | apply NotOwned.bif | refine NotOwned.blk (by omega) ?_ | refine NotOwned.row (by omega) ?_ | refine NotOwned.grid (by assumption) (by omega) ?_ | refine NotOwned.pile (by omega) ?_ | refine NotOwned.pool (by omega) ?_ | refine NotOwned.mapI (by omega) ?_ | refine NotOwned.mapX (by omega) ?_ | refine NotOwned.itI (by omega) ?_)); done))))⟩
  have hl4 : es.length ≤ 4096 := by omega
  apply W.skip
  with_reducible apply At.next
  apply W.seq
  apply W.reg
  apply omv; rfl; rfl
  refine OL.callE (α := Option Addr × Nat × Nat × Bool × World) (fun z => .tuple #[.slice z.1 z.2.1 z.2.2.1, .bool z.2.2.2.1]) (fun z => (z.2.2.2.1 = true ↔ TreeP e) ∧ (z.2.2.2.1 = true → z.2.1 = es.length ∧ ∃ P, Parents e P ∧ IntsO z.2.2.2.2 (low z.2.2.2.2) P z.1) ∧ w.heap.size ≤ z.2.2.2.2.heap.size) (fun z => Cls [] [z.2.2.2.2, w]) rfl rfl (by (repeat (first | exact Args.nil | (apply Args.cons rfl; ((first | exact fun _ => rfl | exact fun h => h | (intro h; simp_all; done))))))) (fun w2 hw2 => (parentsOf_calls es q cap w2 (he.at hw2 (by (repeat (first | exact List.Mem.head _ | apply List.Mem.tail))) (fun k hk => by (focus ((try simp only [add_block]); (repeat (first | exact NotOwned.nil | exact hno _ (by omega) | refine NotOwned.nothing ?_ | refine NotOwned.nds (hlow _ (by omega)) ?_ | refine NotOwned.mapS (by omega) ?_ | apply NotOwned.bif | refine NotOwned.blk (by omega) ?_ | refine NotOwned.row (by omega) ?_ | refine NotOwned.grid (by assumption) (by omega) ?_ | refine NotOwned.pile (by omega) ?_ | refine NotOwned.pool (by omega) ?_ | refine NotOwned.mapI (by omega) ?_ | refine NotOwned.mapX (by omega) ?_ | refine NotOwned.itI (by omega) ?_)); done)))) hl4).mono (fun e1 w3 ⟨q', n, c, b, h1, h2, h3, h4⟩ => ⟨(q', n, c, b, w3), h1, ⟨by rw [hee] at h3; exact h3, by rw [hee] at h4; exact h4, Nat.le_trans (hw2.kp w (by (repeat (first | exact List.Mem.head _ | apply List.Mem.tail)))).size h2.size⟩, (hw2.ext h2).note⟩)) ?_
  rintro ⟨qr, n, cr, b, w1⟩ ⟨hbt, hbP, hsz1⟩
  simp only at hbt hbP hsz1 ⊢
  apply omv; rfl; rfl
  apply oex; rfl; rfl; rfl
  apply oex; rfl; rfl; rfl
  apply oas; rfl; rfl
  apply oas; rfl; rfl
  apply OL.nil
  with_reducible apply At.next
  apply W.seq
  apply W.seq
  apply W.reg
  apply omv; rfl; rfl
  apply OL.op; exact Guard.none; rfl; rfl; apply Pev.not; rfl; exact yes
  apply OL.nil
  with_reducible apply At.next
  (refine W.cond rfl (fun hnt => ?_) (fun hnt => ?_)) <;> (try (simp only [Bool.and_eq_true, Bool.or_eq_true, Bool.not_eq_true', Bool.and_eq_false_iff, Bool.or_eq_false_iff, Bool.not_eq_false', decide_eq_true_eq, decide_eq_false_iff_not, Int.not_lt, Int.not_le] at hnt)) <;> (try (exfalso; first | omega | exact hnt trivial | contradiction))
  · have hnot : ¬ TreeP e := fun h => by have := hbt.2 h; simp_all
    have h3 : treeE e = 3 := treeE_bad (by omega) hnot
    apply W.seq
    apply W.reg
    apply oas; rfl; rfl
    apply OL.nil
    with_reducible apply At.next
    apply W.ret
    with_reducible apply At.then_ret
    ((with_reducible apply At.fin1); rfl; rfl; intro w' hw')
    exact ⟨by rw [bodyE_tree (by rw [h3]; simp), h3], by (exact hw'.toExt (by (repeat (first | exact List.Mem.head _ | apply List.Mem.tail))) (fun k hk => by (focus ((try simp only [add_block]); (repeat (first | exact NotOwned.nil | exact hno _ (by omega) | refine NotOwned.nothing ?_ | refine NotOwned.nds (hlow _ (by omega)) ?_ | refine NotOwned.mapS (by omega) ?_ | apply NotOwned.bif | refine NotOwned.blk (by omega) ?_ | refine NotOwned.row (by omega) ?_ | refine NotOwned.grid (by assumption) (by omega) ?_ | refine NotOwned.pile (by omega) ?_ | refine NotOwned.pool (by omega) ?_ | refine NotOwned.mapI (by omega) ?_ | refine NotOwned.mapX (by omega) ?_ | refine NotOwned.itI (by omega) ?_)); done))))⟩
  have hb1 : b = true := by simpa using hnt
  have hT : TreeP e := hbt.1 hb1
  obtain ⟨rfl, P, hP, hPI⟩ := hbP hb1
  have ht := hT.tree
  have hpos := hT.1
  have hte := treeE_tree (by omega) hT
  rw [← depths_high ht hP hpos] at hte
  apply W.skip
  with_reducible apply At.next
  apply W.seq
  apply W.seq
  apply W.reg
  apply omv; rfl; rfl
  apply omv; rfl; rfl
  (((first | (with_reducible apply OL.op) | (with_reducible apply QL.op)); ((first | exact Guard.none | exact Guard.yes rfl rfl | exact Guard.no rfl rfl | exact Guard.cyes rfl rfl | exact Guard.cno rfl rfl)); rfl; rfl); (refine Pev.call (v := .int .i64 (depths e P e.length : Int)) rfl (by (repeat (first | exact Args.nil | (apply Args.cons rfl; ((first | exact fun _ => rfl | exact fun h => h | (intro h; simp_all; done))))))) (fun _ w2 hw2 => ?_)))
  · have h5 := Depth_calls e q qr cap cr P w2 ht hP (by omega) (hPI.at hw2 (by (repeat (first | exact List.Mem.head _ | apply List.Mem.tail))) (fun k hk => by (focus ((try simp only [add_block]); (repeat (first | exact NotOwned.nil | exact hno _ (by omega) | refine NotOwned.nothing ?_ | refine NotOwned.nds (hlow _ (by omega)) ?_ | refine NotOwned.mapS (by omega) ?_ | apply NotOwned.bif | refine NotOwned.blk (by omega) ?_ | refine NotOwned.row (by omega) ?_ | refine NotOwned.grid (by assumption) (by omega) ?_ | refine NotOwned.pile (by omega) ?_ | refine NotOwned.pool (by omega) ?_ | refine NotOwned.mapI (by omega) ?_ | refine NotOwned.mapX (by omega) ?_ | refine NotOwned.itI (by omega) ?_)); done))))
    rw [hel] at h5 ⊢
    exact h5.mono (fun e w3 h => ⟨h.1, hw2.ext h.2⟩)
  apply obn; rfl; rfl; rfl; apply Bin.gtr
  apply OL.nil
  with_reducible apply At.next
  (refine W.cond rfl (fun hdeep => ?_) (fun hdeep => ?_)) <;> (try (simp only [Bool.and_eq_true, Bool.or_eq_true, Bool.not_eq_true', Bool.and_eq_false_iff, Bool.or_eq_false_iff, Bool.not_eq_false', decide_eq_true_eq, decide_eq_false_iff_not, Int.not_lt, Int.not_le] at hdeep)) <;> (try (exfalso; first | omega | exact hdeep trivial | contradiction))
  · rw [if_pos (by omega)] at hte
    apply W.seq
    apply W.reg
    apply oas; rfl; rfl
    apply OL.nil
    with_reducible apply At.next
    apply W.ret
    with_reducible apply At.then_ret
    ((with_reducible apply At.fin1); rfl; rfl; intro w' hw')
    exact ⟨by rw [bodyE_tree (by rw [hte]; simp), hte], by (exact hw'.toExt (by (repeat (first | exact List.Mem.head _ | apply List.Mem.tail))) (fun k hk => by (focus ((try simp only [add_block]); (repeat (first | exact NotOwned.nil | exact hno _ (by omega) | refine NotOwned.nothing ?_ | refine NotOwned.nds (hlow _ (by omega)) ?_ | refine NotOwned.mapS (by omega) ?_ | apply NotOwned.bif | refine NotOwned.blk (by omega) ?_ | refine NotOwned.row (by omega) ?_ | refine NotOwned.grid (by assumption) (by omega) ?_ | refine NotOwned.pile (by omega) ?_ | refine NotOwned.pool (by omega) ?_ | refine NotOwned.mapI (by omega) ?_ | refine NotOwned.mapX (by omega) ?_ | refine NotOwned.itI (by omega) ?_)); done))))⟩
  rw [if_neg (by omega)] at hte
  have hkd : ∀ p ∈ es, ∀ k ∈ p.1.kids, 0 ≤ k ∧ k < (es.length : Int) := fun p hp k hk => by
    obtain ⟨i, hi⟩ := List.getElem?_of_mem hp
    have hx : e[i]? = some p.1 := by rw [← hee, List.getElem?_map, hi]; rfl
    have := ht.down i p.1 hx k hk
    have := (List.getElem?_eq_some_iff.1 hx).1
    omega
  apply W.skip
  with_reducible apply At.next
  apply W.seq
  apply W.seq
  apply W.reg
  apply omv; rfl; rfl
  apply OL.op; exact Guard.none; rfl; rfl; apply Pev.len_slice; rfl; exact yes; rfl
  apply omv; rfl; rfl
  apply OL.nil
  with_reducible apply At.next
  apply W.block
  refine W.loop (G := Nat) (fun i => i ≤ es.length ∧ firstE (oneE e flat) (e.drop i) = firstE (oneE e flat) e) (fun i => es.length - i)
    (fun i => [(0, true, .slice q es.length cap), (1, true, .slice qp ps.length cp), (2, true, .bool flat), (7, true, .slice qr es.length cr), (33, true, .slice q es.length cap), (34, true, .int .i64 (es.length : Int)), (35, true, .int .i64 (i : Int))])
    (fun i => Cls [] [w1, w]) 0 ⟨by omega, rfl⟩ (by (repeat (first | exact Sub.nil | apply Sub.cons rfl | (refine Sub.cons_eq rfl (congrArg (Value.int .i64) (by first | omega | (simp only; omega))) ?_)))) (fun w' hw' => hw') ?_
  rintro i ⟨hi, hrest⟩
  apply W.seq
  apply W.reg
  apply obn; rfl; rfl; rfl; apply Bin.lss
  apply OL.nil
  with_reducible apply At.next
  apply W.seq
  (refine W.cond rfl (fun hlt => ?_) (fun hlt => ?_)) <;> (try (simp only [Bool.and_eq_true, Bool.or_eq_true, Bool.not_eq_true', Bool.and_eq_false_iff, Bool.or_eq_false_iff, Bool.not_eq_false', decide_eq_true_eq, decide_eq_false_iff_not, Int.not_lt, Int.not_le] at hlt)) <;> (try (exfalso; first | omega | exact hlt trivial | contradiction))
  · have hil : i < es.length := by omega
    obtain ⟨a, p, rfl, hab, hpi, hcell, hok⟩ := he.get hil
    have hab : a.block < w.heap.size := hab
    have hcell : CellsAt w (a.add (i * 5)) [.int .i64 p.1.op, .int .i64 p.1.n, .slice p.2.b.1 p.1.binds.length p.2.b.2, .slice p.2.k.1 p.1.kids.length p.2.k.2, .slice p.2.a.1 p.1.alts.length p.2.a.2] := hcell
    have hx : e[i]? = some p.1 := by rw [← hee, List.getElem?_map, hpi]; rfl
    rw [firstE_drop hx] at hrest
    have hone : oneE e flat p.1 = oneR e flat p.1 := (oneR_eq e flat p.1).symm
    apply W.skip
    with_reducible apply At.next
    apply W.seq
    apply W.block
    apply W.seq
    apply W.reg
    apply OL.op; exact Guard.none; rfl; rfl; apply Pev.idx; rfl; exact yes; rfl; exact yes; rfl; rfl; intro hcond; omega
    apply OL.op; exact Guard.none; rfl; rfl; apply Pev.load_keptA; rfl; exact yes; exact .tail _ (.head _); rfl; intro hcond; assumption; rfl; intro hcond; (rw [add_block]; assumption); intro hcond; exact NotOwned.nil
    apply OL.alloc; rfl; rfl; exact CellsL.agg; (intro bk hbk; simp only [AllLe, and_true] at hbk)
    apply OL.storeB; rfl; rfl; exact CellsL.agg; rfl; rfl; rfl; apply Swap.z; apply Put.here; apply Over.cons; apply Over.cons; apply Over.cons; apply Over.cons; apply Over.cons; apply Over.nil
    apply OL.nil
    with_reducible apply At.next
    apply W.seq
    apply W.seq
    apply W.reg
    apply omv; rfl; rfl
    apply OL.op; exact Guard.none; rfl; rfl; apply Pev.load_blkA; rfl; exact yes; exact .head _; rfl; apply Take.succ; apply Take.succ; apply Take.succ; apply Take.succ; apply Take.succ; apply Take.zero
    apply omv; rfl; rfl
    (((first | (with_reducible apply OL.op) | (with_reducible apply QL.op)); ((first | exact Guard.none | exact Guard.yes rfl rfl | exact Guard.no rfl rfl | exact Guard.cyes rfl rfl | exact Guard.cno rfl rfl)); rfl; rfl); (exact Pev.call rfl (by (repeat (first | exact Args.nil | (apply Args.cons rfl; ((first | exact fun _ => rfl | exact fun h => h | (intro h; simp_all; done))))))) (fun _ w2 hw2 => (goodForm_calls es (some a) cap p.1 p.2 flat w2 (hok.at hw2 (by (repeat (first | exact List.Mem.head _ | apply List.Mem.tail))) (fun k hk => by (focus ((try simp only [add_block]); (repeat (first | exact NotOwned.nil | exact hno _ (by omega) | refine NotOwned.nothing ?_ | refine NotOwned.nds (hlow _ (by omega)) ?_ | refine NotOwned.mapS (by omega) ?_ | apply NotOwned.bif | refine NotOwned.blk (by omega) ?_ | refine NotOwned.row (by omega) ?_ | refine NotOwned.grid (by assumption) (by omega) ?_ | refine NotOwned.pile (by omega) ?_ | refine NotOwned.pool (by omega) ?_ | refine NotOwned.mapI (by omega) ?_ | refine NotOwned.mapX (by omega) ?_ | refine NotOwned.itI (by omega) ?_)); done))))).mono (fun e w3 h => ⟨h.1, hw2.ext h.2⟩))))
    apply OL.op; exact Guard.none; rfl; rfl; apply Pev.not; rfl; exact yes
    apply OL.nil
    with_reducible apply At.next
    (refine W.cond rfl (fun hgf => ?_) (fun hgf => ?_)) <;> (try (simp only [Bool.and_eq_true, Bool.or_eq_true, Bool.not_eq_true', Bool.and_eq_false_iff, Bool.or_eq_false_iff, Bool.not_eq_false', decide_eq_true_eq, decide_eq_false_iff_not, Int.not_lt, Int.not_le] at hgf)) <;> (try (exfalso; first | omega | exact hgf trivial | contradiction))
    · have h3 : oneE e flat p.1 = 3 := by rw [hone]; unfold oneR; rw [if_pos (by cases h1 : flatBad flat p.1.op <;> cases h2 : formR p.1 <;> simp_all)]
      rw [h3] at hrest
      apply W.seq
      apply W.reg
      apply oas; rfl; rfl
      apply OL.nil
      with_reducible apply At.next
      apply W.ret
      with_reducible apply At.then_ret
      with_reducible apply At.in_ret
      with_reducible apply At.then_ret
      with_reducible apply At.then_ret
      with_reducible apply At.in_ret
      with_reducible apply At.then_ret
      ((with_reducible apply At.fin1); rfl; rfl; intro w' hw')
      exact ⟨by rw [bodyE_one hte (by rw [← hrest]; simp), ← hrest]; simp, by (exact hw'.toExt (by (repeat (first | exact List.Mem.head _ | apply List.Mem.tail))) (fun k hk => by (focus ((try simp only [add_block]); (repeat (first | exact NotOwned.nil | exact hno _ (by omega) | refine NotOwned.nothing ?_ | refine NotOwned.nds (hlow _ (by omega)) ?_ | refine NotOwned.mapS (by omega) ?_ | apply NotOwned.bif | refine NotOwned.blk (by omega) ?_ | refine NotOwned.row (by omega) ?_ | refine NotOwned.grid (by assumption) (by omega) ?_ | refine NotOwned.pile (by omega) ?_ | refine NotOwned.pool (by omega) ?_ | refine NotOwned.mapI (by omega) ?_ | refine NotOwned.mapX (by omega) ?_ | refine NotOwned.itI (by omega) ?_)); done))))⟩
    have hgf' : (!flatBad flat p.1.op && formR p.1) = true := by cases h1 : flatBad flat p.1.op <;> cases h2 : formR p.1 <;> simp_all
    have hsh : shapeB p.1 = true := by rw [← formR_eq]; exact (Bool.and_eq_true _ _ ▸ hgf' : _ ∧ _).2
    have hskk := shape_kids hsh
    apply W.skip
    with_reducible apply At.next
    apply W.seq
    apply W.seq
    apply W.reg
    apply OL.op; exact Guard.none; rfl; rfl; apply Pev.load_blkA; rfl; exact yes; exact .head _; rfl; apply Take.succ; apply Take.succ; apply Take.succ; apply Take.succ; apply Take.succ; apply Take.zero
    (((first | (with_reducible apply OL.op) | (with_reducible apply QL.op)); ((first | exact Guard.none | exact Guard.yes rfl rfl | exact Guard.no rfl rfl | exact Guard.cyes rfl rfl | exact Guard.cno rfl rfl)); rfl; rfl); (exact Pev.call rfl (by (repeat (first | exact Args.nil | (apply Args.cons rfl; ((first | exact fun _ => rfl | exact fun h => h | (intro h; simp_all; done))))))) (fun _ w2 hw2 => (numbersError_calls p.1 p.2 w2 (hok.at hw2 (by (repeat (first | exact List.Mem.head _ | apply List.Mem.tail))) (fun k hk => by (focus ((try simp only [add_block]); (repeat (first | exact NotOwned.nil | exact hno _ (by omega) | refine NotOwned.nothing ?_ | refine NotOwned.nds (hlow _ (by omega)) ?_ | refine NotOwned.mapS (by omega) ?_ | apply NotOwned.bif | refine NotOwned.blk (by omega) ?_ | refine NotOwned.row (by omega) ?_ | refine NotOwned.grid (by assumption) (by omega) ?_ | refine NotOwned.pile (by omega) ?_ | refine NotOwned.pool (by omega) ?_ | refine NotOwned.mapI (by omega) ?_ | refine NotOwned.mapX (by omega) ?_ | refine NotOwned.itI (by omega) ?_)); done))))).mono (fun e w3 h => ⟨h.1, hw2.ext h.2⟩))))
    apply oas; rfl; rfl
    apply OL.nil
    with_reducible apply At.next
    apply W.seq
    apply W.reg
    apply omv; rfl; rfl
    apply obn; rfl; rfl; rfl; apply Bin.neq
    apply OL.nil
    with_reducible apply At.next
    (refine W.cond rfl (fun hne => ?_) (fun hne => ?_)) <;> (try (simp only [Bool.and_eq_true, Bool.or_eq_true, Bool.not_eq_true', Bool.and_eq_false_iff, Bool.or_eq_false_iff, Bool.not_eq_false', decide_eq_true_eq, decide_eq_false_iff_not, Int.not_lt, Int.not_le] at hne)) <;> (try (exfalso; first | omega | exact hne trivial | contradiction))
    · have h3 : oneE e flat p.1 = numE p.1 := by rw [hone]; unfold oneR; rw [if_neg (by rw [hgf']; simp), if_pos (by simpa using hne)]
      rw [h3, if_neg (by simpa using hne)] at hrest
      apply W.seq
      apply W.reg
      apply omv; rfl; rfl
      apply oas; rfl; rfl
      apply OL.nil
      with_reducible apply At.next
      apply W.ret
      with_reducible apply At.then_ret
      with_reducible apply At.in_ret
      with_reducible apply At.then_ret
      with_reducible apply At.then_ret
      with_reducible apply At.in_ret
      with_reducible apply At.then_ret
      ((with_reducible apply At.fin1); rfl; rfl; intro w' hw')
      exact ⟨by rw [bodyE_one hte (by rw [← hrest]; simpa using hne), ← hrest], by (exact hw'.toExt (by (repeat (first | exact List.Mem.head _ | apply List.Mem.tail))) (fun k hk => by (focus ((try simp only [add_block]); (repeat (first | exact NotOwned.nil | exact hno _ (by omega) | refine NotOwned.nothing ?_ | refine NotOwned.nds (hlow _ (by omega)) ?_ | refine NotOwned.mapS (by omega) ?_ | apply NotOwned.bif | refine NotOwned.blk (by omega) ?_ | refine NotOwned.row (by omega) ?_ | refine NotOwned.grid (by assumption) (by omega) ?_ | refine NotOwned.pile (by omega) ?_ | refine NotOwned.pool (by omega) ?_ | refine NotOwned.mapI (by omega) ?_ | refine NotOwned.mapX (by omega) ?_ | refine NotOwned.itI (by omega) ?_)); done))))⟩
    apply W.skip
    with_reducible apply At.next
    apply W.seq
    apply W.reg
    apply omv; rfl; rfl
    apply OL.op; exact Guard.none; rfl; rfl; apply Pev.load_blkA; rfl; exact yes; exact .head _; rfl; apply Take.succ; apply Take.succ; apply Take.succ; apply Take.succ; apply Take.succ; apply Take.zero
    (((first | (with_reducible apply OL.op) | (with_reducible apply QL.op)); ((first | exact Guard.none | exact Guard.yes rfl rfl | exact Guard.no rfl rfl | exact Guard.cyes rfl rfl | exact Guard.cno rfl rfl)); rfl; rfl); (exact Pev.call rfl (by (repeat (first | exact Args.nil | (apply Args.cons rfl; ((first | exact fun _ => rfl | exact fun h => h | (intro h; simp_all; done))))))) (fun _ w2 hw2 => (goodKids_calls es (some a) cap p.1 p.2 w2 (hok.at hw2 (by (repeat (first | exact List.Mem.head _ | apply List.Mem.tail))) (fun k hk => by (focus ((try simp only [add_block]); (repeat (first | exact NotOwned.nil | exact hno _ (by omega) | refine NotOwned.nothing ?_ | refine NotOwned.nds (hlow _ (by omega)) ?_ | refine NotOwned.mapS (by omega) ?_ | apply NotOwned.bif | refine NotOwned.blk (by omega) ?_ | refine NotOwned.row (by omega) ?_ | refine NotOwned.grid (by assumption) (by omega) ?_ | refine NotOwned.pile (by omega) ?_ | refine NotOwned.pool (by omega) ?_ | refine NotOwned.mapI (by omega) ?_ | refine NotOwned.mapX (by omega) ?_ | refine NotOwned.itI (by omega) ?_)); done)))) (he.at hw2 (by (repeat (first | exact List.Mem.head _ | apply List.Mem.tail))) (fun k hk => by (focus ((try simp only [add_block]); (repeat (first | exact NotOwned.nil | exact hno _ (by omega) | refine NotOwned.nothing ?_ | refine NotOwned.nds (hlow _ (by omega)) ?_ | refine NotOwned.mapS (by omega) ?_ | apply NotOwned.bif | refine NotOwned.blk (by omega) ?_ | refine NotOwned.row (by omega) ?_ | refine NotOwned.grid (by assumption) (by omega) ?_ | refine NotOwned.pile (by omega) ?_ | refine NotOwned.pool (by omega) ?_ | refine NotOwned.mapI (by omega) ?_ | refine NotOwned.mapX (by omega) ?_ | refine NotOwned.itI (by omega) ?_)); done)))) hl4 (hkd p (List.mem_of_getElem? hpi)) hskk.2.2).mono (fun e w3 h => ⟨h.1, hw2.ext h.2⟩))))
    rw [hee]
    apply OL.op; exact Guard.none; rfl; rfl; apply Pev.not; rfl; exact yes
    apply OL.nil
    with_reducible apply At.next
    (refine W.cond rfl (fun hgk => ?_) (fun hgk => ?_)) <;> (try (simp only [Bool.and_eq_true, Bool.or_eq_true, Bool.not_eq_true', Bool.and_eq_false_iff, Bool.or_eq_false_iff, Bool.not_eq_false', decide_eq_true_eq, decide_eq_false_iff_not, Int.not_lt, Int.not_le] at hgk)) <;> (try (exfalso; first | omega | exact hgk trivial | contradiction))
    · have h3 : oneE e flat p.1 = 3 := by rw [hone]; unfold oneR; rw [if_neg (by rw [hgf']; simp), if_neg (by simpa using hne), if_pos (by simpa using hgk)]
      rw [h3] at hrest
      apply W.seq
      apply W.reg
      apply oas; rfl; rfl
      apply OL.nil
      with_reducible apply At.next
      apply W.ret
      with_reducible apply At.in_ret
      with_reducible apply At.then_ret
      with_reducible apply At.then_ret
      with_reducible apply At.in_ret
      with_reducible apply At.then_ret
      ((with_reducible apply At.fin1); rfl; rfl; intro w' hw')
      exact ⟨by rw [bodyE_one hte (by rw [← hrest]; simp), ← hrest]; simp, by (exact hw'.toExt (by (repeat (first | exact List.Mem.head _ | apply List.Mem.tail))) (fun k hk => by (focus ((try simp only [add_block]); (repeat (first | exact NotOwned.nil | exact hno _ (by omega) | refine NotOwned.nothing ?_ | refine NotOwned.nds (hlow _ (by omega)) ?_ | refine NotOwned.mapS (by omega) ?_ | apply NotOwned.bif | refine NotOwned.blk (by omega) ?_ | refine NotOwned.row (by omega) ?_ | refine NotOwned.grid (by assumption) (by omega) ?_ | refine NotOwned.pile (by omega) ?_ | refine NotOwned.pool (by omega) ?_ | refine NotOwned.mapI (by omega) ?_ | refine NotOwned.mapX (by omega) ?_ | refine NotOwned.itI (by omega) ?_)); done))))⟩
    have h3 : oneE e flat p.1 = 0 := by rw [hone]; unfold oneR; rw [if_neg (by rw [hgf']; simp), if_neg (by simpa using hne), if_neg (by simpa using hgk)]
    rw [h3, if_pos rfl] at hrest
    apply W.skip
    with_reducible apply At.in_normal
    with_reducible apply At.next
    apply W.reg
    apply obn; rfl; rfl; rfl; apply Bin.add_in; omega
    apply omv; rfl; rfl
    apply OL.nil
    exact At.again (i + 1) ⟨by omega, hrest⟩ (by omega) (by (repeat (first | exact Sub.nil | apply Sub.cons rfl | (refine Sub.cons_eq rfl (congrArg (Value.int .i64) (by first | omega | (simp only; omega))) ?_)))) (fun w' hw' => hw'.thin (by (repeat (first | exact Thin.nil | exact Thin.same | apply Thin.keep | (refine Thin.blk (by assumption) ?_) | (refine Thin.blk (by simp only [AllLe, and_true]; omega) ?_)))))
  obtain rfl : i = es.length := by omega
  rw [← hel, List.drop_length] at hrest
  have hall : firstE (oneE e flat) e = 0 := hrest.symm
  have hzero : ∀ x ∈ e, nodeE e x = 0 ∧ x.kids.length ≤ 4096 := fun x hx => by
    obtain ⟨i, hi⟩ := List.getElem?_of_mem hx
    have h2 := kids_len ht hi
    exact ⟨oneR_zero (firstE_zero.1 hall x hx), by omega⟩
  have hlim : ∀ x ∈ e, Lim x := fun x hx => by
    obtain ⟨h1, h2⟩ := hzero x hx
    obtain ⟨h3, h4⟩ := nodeE_zero h1
    exact lim_of h3 h4 h2
  have hmem : ∀ p ∈ es, p.1 ∈ e := fun p hp => by rw [← hee]; exact List.mem_map_of_mem hp
  have hskk : ∀ p ∈ es, shapeB p.1 = true := fun p hp => (nodeE_zero (hzero p.1 (hmem p hp)).1).1
  clear hrest
  apply W.exit
  with_reducible apply At.then_exit
  with_reducible apply At.then_exit
  with_reducible apply At.in_exit
  with_reducible apply At.next
  apply W.seq
  apply W.reg
  apply omv; rfl; rfl
  refine OL.cls (C' := Cls [row w1.heap.size (fun _ => False) none 0 0 3 1 []] [w1, w]) (fun w' hw' => hw'.row_nil w1.heap.size 3 1) ?_
  skip
  (apply OL.appendK (news := ints ps)); rfl; rfl; rfl; rfl; ((repeat (first | apply Hole.z | apply Hole.s))); (exact fun w2 hw2 => (hp.at hw2 (.tail _ (.head _)) (fun k hk => by (focus ((try simp only [add_block]); (repeat (first | exact NotOwned.nil | exact hno _ (by omega) | refine NotOwned.nothing ?_ | refine NotOwned.nds (hlow _ (by omega)) ?_ | refine NotOwned.mapS (by omega) ?_ | apply NotOwned.bif | refine NotOwned.blk (by omega) ?_ | refine NotOwned.row (by omega) ?_ | refine NotOwned.grid (by assumption) (by omega) ?_ | refine NotOwned.pile (by omega) ?_ | refine NotOwned.pool (by omega) ?_ | refine NotOwned.mapI (by omega) ?_ | refine NotOwned.mapX (by omega) ?_ | refine NotOwned.itI (by omega) ?_)); done)))).slAt); (rw [ints_length, Nat.mul_one]); (exact ints_oneL _); (exact ⟨w1, .head _, Nat.le_refl _⟩); (omega); (intro O1 q1 c1)
  simp only [Nat.zero_add, List.nil_append]
  obtain ⟨all, hal⟩ : ∃ f : Nat → List Int, f = fun i => ps ++ (e.take i).flatMap bindersX := ⟨_, rfl⟩
  have hbnd : ∀ i, (all i).length ≤ 4096 + 4096 * 65552 := fun i => by
    have h1 := binders_small (l := e.take i) fun x hx => hlim x (List.mem_of_mem_take hx)
    rw [hal]
    simp only [List.length_append]
    have h2 : (e.take i).length ≤ 4096 := by rw [List.length_take]; omega
    have h3 : (e.take i).length * 65552 ≤ 4096 * 65552 := Nat.mul_le_mul_right _ h2
    omega
  have hall0 : all 0 = ps := by rw [hal]; simp
  have hallE : all es.length = ps ++ e.flatMap bindersX := by rw [hal]; simp only; rw [← hel, List.take_length]
  have hsnoc : ∀ {i : Nat} {x : Ex}, e[i]? = some x → all (i + 1) = all i ++ bindersX x := fun {i x} hx => by
    rw [hal]
    simp only
    rw [List.take_add_one, hx]
    simp
  clear hal
  apply oas; rfl; rfl
  apply OL.nil
  with_reducible apply At.next
  apply W.seq
  apply W.seq
  apply W.reg
  apply omv; rfl; rfl
  apply OL.op; exact Guard.none; rfl; rfl; apply Pev.len_slice; rfl; exact yes; rfl
  apply omv; rfl; rfl
  apply OL.nil
  with_reducible apply At.next
  apply W.block
  refine W.loop (G := Nat × GR) (fun g => g.1 ≤ es.length) (fun g => es.length - g.1)
    (fun g => [(0, true, .slice q es.length cap), (1, true, .slice qp ps.length cp), (7, true, .slice qr es.length cr), (12, true, .slice g.2.q (all g.1).length g.2.c), (56, true, .slice q es.length cap), (57, true, .int .i64 (es.length : Int)), (58, true, .int .i64 (g.1 : Int))])
    (fun g => Cls [row w1.heap.size g.2.O g.2.q (all g.1).length g.2.c 3 1 (ints (all g.1))] [w1, w]) (0, ⟨O1, q1, c1⟩) (by simp) (by rw [hall0]; (repeat (first | exact Sub.nil | apply Sub.cons rfl | (refine Sub.cons_eq rfl (congrArg (Value.int .i64) (by first | omega | (simp only; omega))) ?_)))) (fun w' hw' => by rw [hall0]; exact hw') ?_
  rintro ⟨i, ⟨O2, q2, c2⟩⟩ hi2
  simp only at hi2 ⊢
  apply W.seq
  apply W.reg
  apply obn; rfl; rfl; rfl; apply Bin.lss
  apply OL.nil
  with_reducible apply At.next
  apply W.seq
  (refine W.cond rfl (fun hlt2 => ?_) (fun hlt2 => ?_)) <;> (try (simp only [Bool.and_eq_true, Bool.or_eq_true, Bool.not_eq_true', Bool.and_eq_false_iff, Bool.or_eq_false_iff, Bool.not_eq_false', decide_eq_true_eq, decide_eq_false_iff_not, Int.not_lt, Int.not_le] at hlt2)) <;> (try (exfalso; first | omega | exact hlt2 trivial | contradiction))
  · have hil : i < es.length := by omega
    obtain ⟨a, p, hqa, hab, hpi, hcell, hok⟩ := he.get hil
    have hab : a.block < w.heap.size := hab
    have hcell : CellsAt w (a.add (i * 5)) [.int .i64 p.1.op, .int .i64 p.1.n, .slice p.2.b.1 p.1.binds.length p.2.b.2, .slice p.2.k.1 p.1.kids.length p.2.k.2, .slice p.2.a.1 p.1.alts.length p.2.a.2] := hcell
    have hx : e[i]? = some p.1 := by rw [← hee, List.getElem?_map, hpi]; rfl
    have hL := hlim p.1 (List.mem_of_getElem? hx)
    have hb1 := hbnd i
    have hb2 := hbnd (i + 1)
    rw [hsnoc hx, List.length_append] at hb2
    rw [hqa]
    apply W.skip
    with_reducible apply At.next
    apply W.seq
    apply W.block
    apply W.seq
    apply W.reg
    apply OL.op; exact Guard.none; rfl; rfl; apply Pev.idx; rfl; exact yes; rfl; exact yes; rfl; rfl; intro hcond; omega
    apply OL.op; exact Guard.none; rfl; rfl; apply Pev.load_keptA; rfl; exact yes; exact .tail _ (.head _); rfl; intro hcond; assumption; rfl; intro hcond; (rw [add_block]; assumption); intro hcond; simp only [add_block]; refine NotOwned.row (by omega) ?_; exact NotOwned.nil
    apply OL.alloc; rfl; rfl; exact CellsL.agg; (intro bk hbk; simp only [AllLe, and_true] at hbk)
    apply OL.storeB; rfl; rfl; exact CellsL.agg; rfl; rfl; rfl; apply Swap.z; apply Put.here; apply Over.cons; apply Over.cons; apply Over.cons; apply Over.cons; apply Over.cons; apply Over.nil
    apply OL.nil
    with_reducible apply At.next
    apply W.reg
    apply omv; rfl; rfl
    apply OL.op; exact Guard.none; rfl; rfl; apply Pev.load_blkA; rfl; exact yes; exact .head _; rfl; apply Take.succ; apply Take.succ; apply Take.succ; apply Take.succ; apply Take.succ; apply Take.zero
    refine OL.callE (α := World × Nat × Option Addr × Nat) (fun x => .slice x.2.2.1 (bindersX p.1).length x.2.2.2) (fun x => w1.heap.size ≤ x.1.heap.size ∧ (∀ k, w1.heap.size ≤ k → O2 k → k < x.2.1) ∧ bk < x.2.1 ∧ w1.heap.size ≤ x.2.1 ∧ IntsO x.1 (fun k => x.2.1 ≤ k ∧ k < x.1.heap.size) (bindersX p.1) x.2.2.1) (fun x => Cls [blk bk 28 [.int .i64 p.1.op, .int .i64 p.1.n, .slice p.2.b.1 p.1.binds.length p.2.b.2, .slice p.2.k.1 p.1.kids.length p.2.k.2, .slice p.2.a.1 p.1.alts.length p.2.a.2], row w1.heap.size O2 q2 (all i).length c2 3 1 (ints (all i))] [x.1, w1, w]) rfl rfl (by (repeat (first | exact Args.nil | (apply Args.cons rfl; ((first | exact fun _ => rfl | exact fun h => h | (intro h; simp_all; done))))))) (fun w2 hw2 => ?_) ?_
    · have hlt3 := hw2.lt _ (.head _) bk rfl
      have hrow : ∀ k, w1.heap.size ≤ k → O2 k → k < w2.heap.size := fun k h1 h2 => hw2.lt _ (.tail _ (.head _)) k ⟨h1, h2⟩
      have hkw := (hw2.kp w1 (by (repeat (first | exact List.Mem.head _ | apply List.Mem.tail)))).size
      refine (Binds_calls p.1 p.2 w2 (hok.at hw2 (by (repeat (first | exact List.Mem.head _ | apply List.Mem.tail))) (fun k hk => by (focus ((try simp only [add_block]); (repeat (first | exact NotOwned.nil | exact hno _ (by omega) | refine NotOwned.nothing ?_ | refine NotOwned.nds (hlow _ (by omega)) ?_ | refine NotOwned.mapS (by omega) ?_ | apply NotOwned.bif | refine NotOwned.blk (by omega) ?_ | refine NotOwned.row (by omega) ?_ | refine NotOwned.grid (by assumption) (by omega) ?_ | refine NotOwned.pile (by omega) ?_ | refine NotOwned.pool (by omega) ?_ | refine NotOwned.mapI (by omega) ?_ | refine NotOwned.mapX (by omega) ?_ | refine NotOwned.itI (by omega) ?_)); done)))) hL.b hL.a hL.ab).mono fun e1 w3 ⟨q3, c3, h1, h2, h3, h4⟩ => ?_
      exact ⟨(w3, w2.heap.size, q3, c3), h1, ⟨Nat.le_trans hkw h2.size, hrow, hlt3, hkw, h3⟩, (hw2.ext h2).note⟩
    rintro ⟨w3, lo, q3, c3⟩ ⟨hsz3, hrow, hblo, hwlo, hI3⟩
    simp only at hsz3 hrow hblo hwlo hI3 ⊢
    have hb3 := hsnoc hx
    generalize hbi : bindersX p.1 = bs at *
    (apply OL.appendK (news := ints bs)); rfl; rfl; rfl; rfl; ((repeat (first | apply Hole.z | apply Hole.s))); (exact fun w4 hw4 => (hI3.part hw4 (.head _) (fun k hk => NotOwned.blk (by omega) (NotOwned.any (fun hm => by have := hrow k hm.1 hm.2; omega) NotOwned.nil))).slAt); (rw [ints_length, Nat.mul_one]); (exact ints_oneL _); (exact ⟨w1, .tail _ (.head _), Nat.le_refl _⟩); (omega); (intro O4 q4 c4)
    rw [← ints_append, ← List.length_append, ← hb3]
    apply oas; rfl; rfl
    apply OL.nil
    with_reducible apply At.in_normal
    with_reducible apply At.next
    apply W.reg
    apply obn; rfl; rfl; rfl; apply Bin.add_in; omega
    apply omv; rfl; rfl
    apply OL.nil
    refine At.again (i + 1, ⟨O4, q4, c4⟩) (by simp only; omega) (by simp only; omega) (by (repeat (first | exact Sub.nil | apply Sub.cons rfl | (refine Sub.cons_eq rfl (congrArg (Value.int .i64) (by first | omega | (simp only; omega))) ?_)))) (fun w' hw' => (hw'.forget (by simp)).thin (by (repeat (first | exact Thin.nil | exact Thin.same | apply Thin.keep | (refine Thin.blk (by assumption) ?_) | (refine Thin.blk (by simp only [AllLe, and_true]; omega) ?_)))))
  obtain rfl : i = es.length := by omega
  have hb1 := hbnd es.length
  rw [hallE] at hb1 ⊢
  clear hbnd hsnoc hall0
  refine W.exx (X := { x : World // IntsO x (low x) (ps ++ e.flatMap bindersX) q2 ∧ w1.heap.size ≤ x.heap.size ∧ (ps ++ e.flatMap bindersX).length ≤ c2 }) (C' := fun x => Cls [] [x.1, w1, w]) (fun w2 hw2 => ⟨⟨w2, IntsO.mono (fun k hk => hk.2) (rowInts hw2 (.head _) (Nat.le_refl _)), (hw2.kp w1 (by (repeat (first | exact List.Mem.head _ | apply List.Mem.tail)))).size, row_cap (hw2.item (.head _))⟩, (hw2.thin (Thin.any (fun k hk => ⟨hk.1, Nat.le_trans hsz1 hk.1, trivial⟩) Thin.nil)).note⟩) ?_
  rintro ⟨w5, hI5, hsz5, hcap5⟩
  simp only
  have hbt2 := bodyE_twice (ps := ps) hte hall
  have hbf2 := fun n => bodyE_free (ps := ps) (n := n) hte hall
  have hbo2 := bodyE_ok (ps := ps) hte hall
  generalize ps ++ e.flatMap bindersX = L at *
  apply W.exit
  with_reducible apply At.then_exit
  with_reducible apply At.then_exit
  with_reducible apply At.in_exit
  with_reducible apply At.next
  apply W.seq
  apply W.seq
  apply W.reg
  apply omv; rfl; rfl
  apply OL.op; exact Guard.none; rfl; rfl; apply Pev.len_slice; rfl; exact yes; rfl
  apply omv; rfl; rfl
  apply OL.nil
  with_reducible apply At.next
  apply W.block
  refine W.loop (G := Nat) (fun i => i ≤ L.length ∧ (L.take i).Nodup) (fun i => L.length - i)
    (fun i => [(0, true, .slice q es.length cap), (1, true, .slice qp ps.length cp), (7, true, .slice qr es.length cr), (12, true, .slice q2 L.length c2), (67, true, .slice q2 L.length c2), (68, true, .int .i64 (L.length : Int)), (69, true, .int .i64 (i : Int))])
    (fun _ => Cls [] [w5, w1, w]) 0 ⟨by omega, by simp⟩ (by (repeat (first | exact Sub.nil | apply Sub.cons rfl | (refine Sub.cons_eq rfl (congrArg (Value.int .i64) (by first | omega | (simp only; omega))) ?_)))) (fun w' hw' => hw') ?_
  rintro i ⟨hi, hnd⟩
  apply W.seq
  apply W.reg
  apply obn; rfl; rfl; rfl; apply Bin.lss
  apply OL.nil
  with_reducible apply At.next
  apply W.seq
  (refine W.cond rfl (fun hlt3 => ?_) (fun hlt3 => ?_)) <;> (try (simp only [Bool.and_eq_true, Bool.or_eq_true, Bool.not_eq_true', Bool.and_eq_false_iff, Bool.or_eq_false_iff, Bool.not_eq_false', decide_eq_true_eq, decide_eq_false_iff_not, Int.not_lt, Int.not_le] at hlt3)) <;> (try (exfalso; first | omega | exact hlt3 trivial | contradiction))
  · have hil : i < L.length := by omega
    obtain ⟨a, v, rfl, hab, hv, hcell⟩ := hI5.get hil
    have hab : a.block < w5.heap.size := hab
    have hlT : (L.take i).length = i := by rw [List.length_take]; omega
    have hsplit : L = L.take i ++ v :: L.drop (i + 1) := by
      obtain ⟨h1, rfl⟩ := List.getElem?_eq_some_iff.1 hv
      rw [← List.drop_eq_getElem_cons h1, List.take_append_drop]
    have htake : L.take (i + 1) = L.take i ++ [v] := by rw [List.take_add_one, hv]; rfl
    apply W.skip
    with_reducible apply At.next
    apply W.seq
    apply W.block
    apply W.seq
    apply W.reg
    apply omv; rfl; rfl
    apply OL.op; exact Guard.none; rfl; rfl; apply Pev.idx; rfl; exact yes; rfl; exact yes; rfl; rfl; intro hcond; omega
    apply OL.op; exact Guard.none; rfl; rfl; apply Pev.load_kept; rfl; exact yes; exact .head _; rfl; intro hcond; assumption; intro hcond; (rw [add_block]; assumption); intro hcond; exact NotOwned.nil
    apply oas; rfl; rfl
    apply oas; rfl; rfl
    apply OL.nil
    with_reducible apply At.next
    apply W.seq
    apply W.reg
    apply omv; rfl; rfl
    apply omv; rfl; rfl
    apply OL.op; exact Guard.none; rfl; rfl; apply Pev.slice_hi; rfl; exact yes; rfl; exact yes; rfl; rfl; intro hcond; omega
    apply omv; rfl; rfl
    (((first | (with_reducible apply OL.op) | (with_reducible apply QL.op)); ((first | exact Guard.none | exact Guard.yes rfl rfl | exact Guard.no rfl rfl | exact Guard.cyes rfl rfl | exact Guard.cno rfl rfl)); rfl; rfl); (refine Pev.call (v := .bool (decide (v ∈ L.take i))) rfl (by (repeat (first | exact Args.nil | (apply Args.cons rfl; ((first | exact fun _ => rfl | exact fun h => h | (intro h; simp_all; done))))))) (fun _ w2 hw2 => ?_)))
    · have h5 := In_calls (some a) c2 (L.take i) v w2 (by omega) ((hI5.take i).at hw2 (by (repeat (first | exact List.Mem.head _ | apply List.Mem.tail))) (fun k hk => by (focus ((try simp only [add_block]); (repeat (first | exact NotOwned.nil | exact hno _ (by omega) | refine NotOwned.nothing ?_ | refine NotOwned.nds (hlow _ (by omega)) ?_ | refine NotOwned.mapS (by omega) ?_ | apply NotOwned.bif | refine NotOwned.blk (by omega) ?_ | refine NotOwned.row (by omega) ?_ | refine NotOwned.grid (by assumption) (by omega) ?_ | refine NotOwned.pile (by omega) ?_ | refine NotOwned.pool (by omega) ?_ | refine NotOwned.mapI (by omega) ?_ | refine NotOwned.mapX (by omega) ?_ | refine NotOwned.itI (by omega) ?_)); done))))
      rw [hlT] at h5
      exact h5.mono (fun e w3 h => ⟨h.1, hw2.ext h.2⟩)
    apply OL.nil
    with_reducible apply At.next
    (refine W.cond rfl (fun hin => ?_) (fun hin => ?_)) <;> (try (simp only [Bool.and_eq_true, Bool.or_eq_true, Bool.not_eq_true', Bool.and_eq_false_iff, Bool.or_eq_false_iff, Bool.not_eq_false', decide_eq_true_eq, decide_eq_false_iff_not, Int.not_lt, Int.not_le] at hin)) <;> (try (exfalso; first | omega | exact hin trivial | contradiction))
    · apply W.seq
      apply W.reg
      apply oas; rfl; rfl
      apply OL.nil
      with_reducible apply At.next
      apply W.ret
      with_reducible apply At.in_ret
      with_reducible apply At.then_ret
      with_reducible apply At.then_ret
      with_reducible apply At.in_ret
      with_reducible apply At.then_ret
      ((with_reducible apply At.fin1); rfl; rfl; intro w' hw')
      have hnn : ¬ L.Nodup := by
        rw [hsplit]
        exact not_nodup hin
      exact ⟨by rw [hbt2 hnn], by (exact hw'.toExt (by (repeat (first | exact List.Mem.head _ | apply List.Mem.tail))) (fun k hk => by (focus ((try simp only [add_block]); (repeat (first | exact NotOwned.nil | exact hno _ (by omega) | refine NotOwned.nothing ?_ | refine NotOwned.nds (hlow _ (by omega)) ?_ | refine NotOwned.mapS (by omega) ?_ | apply NotOwned.bif | refine NotOwned.blk (by omega) ?_ | refine NotOwned.row (by omega) ?_ | refine NotOwned.grid (by assumption) (by omega) ?_ | refine NotOwned.pile (by omega) ?_ | refine NotOwned.pool (by omega) ?_ | refine NotOwned.mapI (by omega) ?_ | refine NotOwned.mapX (by omega) ?_ | refine NotOwned.itI (by omega) ?_)); done))))⟩
    apply W.skip
    with_reducible apply At.in_normal
    with_reducible apply At.next
    apply W.reg
    apply obn; rfl; rfl; rfl; apply Bin.add_in; omega
    apply omv; rfl; rfl
    apply OL.nil
    exact At.again (i + 1) ⟨by omega, by rw [htake]; exact nodup_snoc hnd hin⟩ (by omega) (by (repeat (first | exact Sub.nil | apply Sub.cons rfl | (refine Sub.cons_eq rfl (congrArg (Value.int .i64) (by first | omega | (simp only; omega))) ?_)))) (fun w' hw' => hw')
  obtain rfl : i = L.length := by omega
  rw [List.take_length] at hnd
  apply W.exit
  with_reducible apply At.then_exit
  with_reducible apply At.then_exit
  with_reducible apply At.in_exit
  with_reducible apply At.next
  apply W.seq
  apply W.seq
  apply W.reg
  apply omv; rfl; rfl
  apply OL.op; exact Guard.none; rfl; rfl; apply Pev.len_slice; rfl; exact yes; rfl
  apply omv; rfl; rfl
  apply OL.nil
  with_reducible apply At.next
  apply W.block
  refine W.loop (G := Nat) (fun i => i ≤ es.length ∧ ∀ (j : Nat) (x : Ex), j < i → e[j]? = some x → x.op = 0 → bnd e P x.n j < 0 → x.n ∈ ps) (fun i => es.length - i)
    (fun i => [(0, true, .slice q es.length cap), (1, true, .slice qp ps.length cp), (7, true, .slice qr es.length cr), (80, true, .slice q es.length cap), (81, true, .int .i64 (es.length : Int)), (82, true, .int .i64 (i : Int))])
    (fun _ => Cls [] [w1, w]) 0 ⟨by omega, fun j x hj => by omega⟩ (by (repeat (first | exact Sub.nil | apply Sub.cons rfl | (refine Sub.cons_eq rfl (congrArg (Value.int .i64) (by first | omega | (simp only; omega))) ?_)))) (fun w' hw' => hw'.forget (by simp)) ?_
  rintro i ⟨hi, hfr⟩
  apply W.seq
  apply W.reg
  apply obn; rfl; rfl; rfl; apply Bin.lss
  apply OL.nil
  with_reducible apply At.next
  apply W.seq
  (refine W.cond rfl (fun hlt4 => ?_) (fun hlt4 => ?_)) <;> (try (simp only [Bool.and_eq_true, Bool.or_eq_true, Bool.not_eq_true', Bool.and_eq_false_iff, Bool.or_eq_false_iff, Bool.not_eq_false', decide_eq_true_eq, decide_eq_false_iff_not, Int.not_lt, Int.not_le] at hlt4)) <;> (try (exfalso; first | omega | exact hlt4 trivial | contradiction))
  · have hil : i < es.length := by omega
    obtain ⟨a, p, hqa, hab, hpi, hcell, hok⟩ := he.get hil
    have hab : a.block < w.heap.size := hab
    have hcell : CellsAt w (a.add (i * 5)) [.int .i64 p.1.op, .int .i64 p.1.n, .slice p.2.b.1 p.1.binds.length p.2.b.2, .slice p.2.k.1 p.1.kids.length p.2.k.2, .slice p.2.a.1 p.1.alts.length p.2.a.2] := hcell
    have hx : e[i]? = some p.1 := by rw [← hee, List.getElem?_map, hpi]; rfl
    rw [hqa]
    apply W.skip
    with_reducible apply At.next
    apply W.seq
    apply W.block
    apply W.seq
    apply W.reg
    apply omv; rfl; rfl
    apply OL.op; exact Guard.none; rfl; rfl; apply Pev.idx; rfl; exact yes; rfl; exact yes; rfl; rfl; intro hcond; omega
    apply OL.op; exact Guard.none; rfl; rfl; apply Pev.load_keptA; rfl; exact yes; exact .tail _ (.head _); rfl; intro hcond; assumption; rfl; intro hcond; (rw [add_block]; assumption); intro hcond; exact NotOwned.nil
    apply OL.alloc; rfl; rfl; exact CellsL.agg; (intro bk hbk; simp only [AllLe, and_true] at hbk)
    apply oas; rfl; rfl
    apply OL.storeB; rfl; rfl; exact CellsL.agg; rfl; rfl; rfl; apply Swap.z; apply Put.here; apply Over.cons; apply Over.cons; apply Over.cons; apply Over.cons; apply Over.cons; apply Over.nil
    apply OL.nil
    with_reducible apply At.next
    apply W.seq
    apply W.reg
    apply ofa; rfl; rfl; rfl
    apply old; rfl; rfl; exact .head _; rfl; rfl
    apply obn; rfl; rfl; rfl; apply Bin.eql
    apply omv; rfl; rfl
    apply OL.op; exact Guard.yes rfl rfl; rfl; rfl; apply Pev.move; rfl; exact yes
    apply OL.op; exact Guard.yes rfl rfl; rfl; rfl; apply Pev.move; rfl; exact yes
    apply OL.op; exact Guard.yes rfl rfl; rfl; rfl; apply Pev.move; rfl; exact yes
    (((first | (with_reducible apply OL.op) | (with_reducible apply QL.op)); ((first | exact Guard.none | exact Guard.yes rfl rfl | exact Guard.no rfl rfl | exact Guard.cyes rfl rfl | exact Guard.cno rfl rfl)); rfl; rfl); (exact Pev.call (v := .int .i64 (bnd e P p.1.n i)) rfl (by (repeat (first | exact Args.nil | (apply Args.cons rfl; ((first | exact fun _ => rfl | exact fun h => h | (intro h; simp_all; done))))))) (fun _ w2 hw2 => by
      have h5 := binder_calls es (some a) qr cap cr P i p.1 w2 (hqa ▸ he.at hw2 (by (repeat (first | exact List.Mem.head _ | apply List.Mem.tail))) (fun k hk => by (focus ((try simp only [add_block]); (repeat (first | exact NotOwned.nil | exact hno _ (by omega) | refine NotOwned.nothing ?_ | refine NotOwned.nds (hlow _ (by omega)) ?_ | refine NotOwned.mapS (by omega) ?_ | apply NotOwned.bif | refine NotOwned.blk (by omega) ?_ | refine NotOwned.row (by omega) ?_ | refine NotOwned.grid (by assumption) (by omega) ?_ | refine NotOwned.pile (by omega) ?_ | refine NotOwned.pool (by omega) ?_ | refine NotOwned.mapI (by omega) ?_ | refine NotOwned.mapX (by omega) ?_ | refine NotOwned.itI (by omega) ?_)); done)))) hl4 (by rw [hee]; exact ht) (by rw [hee]; exact hP) (hPI.at hw2 (by (repeat (first | exact List.Mem.head _ | apply List.Mem.tail))) (fun k hk => by (focus ((try simp only [add_block]); (repeat (first | exact NotOwned.nil | exact hno _ (by omega) | refine NotOwned.nothing ?_ | refine NotOwned.nds (hlow _ (by omega)) ?_ | refine NotOwned.mapS (by omega) ?_ | apply NotOwned.bif | refine NotOwned.blk (by omega) ?_ | refine NotOwned.row (by omega) ?_ | refine NotOwned.grid (by assumption) (by omega) ?_ | refine NotOwned.pile (by omega) ?_ | refine NotOwned.pool (by omega) ?_ | refine NotOwned.mapI (by omega) ?_ | refine NotOwned.mapX (by omega) ?_ | refine NotOwned.itI (by omega) ?_)); done)))) (by rw [hee]; exact hx) (fun p hp => (shape_kids (hskk p hp)).1) (fun p hp => (shape_kids (hskk p hp)).2.1)
      rw [hee] at h5
      exact h5.mono (fun e w3 h => ⟨h.1, hw2.ext h.2⟩))))
    apply OL.op; exact Guard.yes rfl rfl; rfl; rfl; apply Pev.bin; rfl; exact fun h => h; rfl; exact yes; intro hcond; apply Bin.lss
    apply OL.op; exact Guard.none; rfl; rfl; apply Pev.pick_and; rfl; exact yes; rfl; exact fun h => h
    apply omv; rfl; rfl
    apply OL.op; exact Guard.yes rfl rfl; rfl; rfl; apply Pev.move; rfl; exact yes
    apply OL.op; exact Guard.yes rfl rfl; rfl; rfl; apply Pev.fld; rfl; exact yes; rfl
    apply OL.op; exact Guard.yes rfl rfl; rfl; rfl; apply Pev.load_blk; rfl; exact fun h => h; exact .head _; rfl; rfl
    (((first | (with_reducible apply OL.op) | (with_reducible apply QL.op)); ((first | exact Guard.none | exact Guard.yes rfl rfl | exact Guard.no rfl rfl | exact Guard.cyes rfl rfl | exact Guard.cno rfl rfl)); rfl; rfl); (exact Pev.call rfl (by (repeat (first | exact Args.nil | (apply Args.cons rfl; ((first | exact fun _ => rfl | exact fun h => h | (intro h; simp_all; done))))))) (fun _ w2 hw2 => (In_calls qp cp ps p.1.n w2 (by omega) (hp.at hw2 (by (repeat (first | exact List.Mem.head _ | apply List.Mem.tail))) (fun k hk => by (focus ((try simp only [add_block]); (repeat (first | exact NotOwned.nil | exact hno _ (by omega) | refine NotOwned.nothing ?_ | refine NotOwned.nds (hlow _ (by omega)) ?_ | refine NotOwned.mapS (by omega) ?_ | apply NotOwned.bif | refine NotOwned.blk (by omega) ?_ | refine NotOwned.row (by omega) ?_ | refine NotOwned.grid (by assumption) (by omega) ?_ | refine NotOwned.pile (by omega) ?_ | refine NotOwned.pool (by omega) ?_ | refine NotOwned.mapI (by omega) ?_ | refine NotOwned.mapX (by omega) ?_ | refine NotOwned.itI (by omega) ?_)); done))))).mono (fun e w3 h => ⟨h.1, hw2.ext h.2⟩))))
    apply OL.op; exact Guard.yes rfl rfl; rfl; rfl; apply Pev.not; rfl; exact fun h => h
    apply OL.op; exact Guard.none; rfl; rfl; apply Pev.pick_and; rfl; exact yes; rfl; exact fun h => h
    apply OL.nil
    with_reducible apply At.next
    refine W.cond rfl (fun hb => ?_) (fun hb => ?_)
    · simp only [Bool.and_eq_true, decide_eq_true_eq, Bool.not_eq_true', decide_eq_false_iff_not] at hb
      apply W.seq
      apply W.reg
      apply oas; rfl; rfl
      apply OL.nil
      with_reducible apply At.next
      apply W.ret
      with_reducible apply At.in_ret
      with_reducible apply At.then_ret
      with_reducible apply At.then_ret
      with_reducible apply At.in_ret
      with_reducible apply At.then_ret
      ((with_reducible apply At.fin1); rfl; rfl; intro w' hw')
      exact ⟨by rw [hbf2 p.1.n hnd (free_bad ht hP hpos hx hb.1.1 hb.1.2) hb.2], by (exact hw'.toExt (by (repeat (first | exact List.Mem.head _ | apply List.Mem.tail))) (fun k hk => by (focus ((try simp only [add_block]); (repeat (first | exact NotOwned.nil | exact hno _ (by omega) | refine NotOwned.nothing ?_ | refine NotOwned.nds (hlow _ (by omega)) ?_ | refine NotOwned.mapS (by omega) ?_ | apply NotOwned.bif | refine NotOwned.blk (by omega) ?_ | refine NotOwned.row (by omega) ?_ | refine NotOwned.grid (by assumption) (by omega) ?_ | refine NotOwned.pile (by omega) ?_ | refine NotOwned.pool (by omega) ?_ | refine NotOwned.mapI (by omega) ?_ | refine NotOwned.mapX (by omega) ?_ | refine NotOwned.itI (by omega) ?_)); done))))⟩
    · simp only [Bool.and_eq_false_iff, decide_eq_false_iff_not, Bool.not_eq_false', decide_eq_true_eq] at hb
      apply W.skip
      with_reducible apply At.in_normal
      with_reducible apply At.next
      apply W.reg
      apply obn; rfl; rfl; rfl; apply Bin.add_in; omega
      apply omv; rfl; rfl
      apply OL.nil
      refine At.again (i + 1) ⟨by omega, fun j x hj hxj hop hbn => ?_⟩ (by omega) (by (repeat (first | exact Sub.nil | apply Sub.cons rfl | (refine Sub.cons_eq rfl (congrArg (Value.int .i64) (by first | omega | (simp only; omega))) ?_)))) (fun w' hw' => hw'.thin (by (repeat (first | exact Thin.nil | exact Thin.same | apply Thin.keep | (refine Thin.blk (by assumption) ?_) | (refine Thin.blk (by simp only [AllLe, and_true]; omega) ?_)))))
      by_cases ej : j = i
      · subst ej
        rw [hx] at hxj
        obtain rfl := Option.some.inj hxj
        rcases hb with (hb | hb) | hb
        · exact absurd hop hb
        · omega
        · exact hb
      · exact hfr j x (by omega) hxj hop hbn
  · obtain rfl : i = es.length := by omega
    apply W.exit
    with_reducible apply At.then_exit
    with_reducible apply At.then_exit
    with_reducible apply At.in_exit
    with_reducible apply At.next
    apply W.seq
    apply W.reg
    apply oas; rfl; rfl
    apply OL.nil
    with_reducible apply At.next
    apply W.ret
    ((with_reducible apply At.fin1); rfl; rfl; intro w' hw')
    exact ⟨by rw [hbo2 hnd (free_ok ht hP hpos fun j x hx => hfr j x (by have := (List.getElem?_eq_some_iff.1 hx).1; omega) hx)], by (exact hw'.toExt (by (repeat (first | exact List.Mem.head _ | apply List.Mem.tail))) (fun k hk => by (focus ((try simp only [add_block]); (repeat (first | exact NotOwned.nil | exact hno _ (by omega) | refine NotOwned.nothing ?_ | refine NotOwned.nds (hlow _ (by omega)) ?_ | refine NotOwned.mapS (by omega) ?_ | apply NotOwned.bif | refine NotOwned.blk (by omega) ?_ | refine NotOwned.row (by omega) ?_ | refine NotOwned.grid (by assumption) (by omega) ?_ | refine NotOwned.pile (by omega) ?_ | refine NotOwned.pool (by omega) ?_ | refine NotOwned.mapI (by omega) ?_ | refine NotOwned.mapX (by omega) ?_ | refine NotOwned.itI (by omega) ?_)); done))))⟩
theorem Fault_calls (es : List (Ex × ExY)) (q : Option Addr) (cap : Nat) (w : World) (he : Arr exR w (low w) es q) (hlen : es.length ≤ 9223372036854775807) :
    Calls Tryd.prog 12 [.slice q es.length cap].toArray w fun e w' => e = .returned (.int .i64 (bodyE (es.map Prod.fst) [] false)) ∧ Ext w w' := by
  refine enter Tryd.func12 rfl Tryd.ntmps12 rfl (Cls.start w) ?_
  (simp only [argEnv, Nat.zero_add, Nat.reduceAdd])
  apply W.seq
  apply W.reg
  apply oas; rfl; rfl
  apply OL.nil
  with_reducible apply At.next
  apply W.seq
  apply W.reg
  apply omv; rfl; rfl
  (((first | (with_reducible apply OL.op) | (with_reducible apply QL.op)); ((first | exact Guard.none | exact Guard.yes rfl rfl | exact Guard.no rfl rfl | exact Guard.cyes rfl rfl | exact Guard.cno rfl rfl)); rfl; rfl); (exact Pev.call rfl (by (repeat (first | exact Args.nil | (apply Args.cons rfl; ((first | exact fun _ => rfl | exact fun h => h | (intro h; simp_all; done))))))) (fun _ w2 hw2 => (BodyFault_calls es q none cap 0 [] false w2 (he.at hw2 (by (repeat (first | exact List.Mem.head _ | apply List.Mem.tail))) (fun k hk => by (focus ((try simp only [add_block]); (repeat (first | exact NotOwned.nil | exact hno _ (by omega) | refine NotOwned.nothing ?_ | refine NotOwned.nds (hlow _ (by omega)) ?_ | refine NotOwned.mapS (by omega) ?_ | apply NotOwned.bif | refine NotOwned.blk (by omega) ?_ | refine NotOwned.row (by omega) ?_ | refine NotOwned.grid (by assumption) (by omega) ?_ | refine NotOwned.pile (by omega) ?_ | refine NotOwned.pool (by omega) ?_ | refine NotOwned.mapI (by omega) ?_ | refine NotOwned.mapX (by omega) ?_ | refine NotOwned.itI (by omega) ?_)); done)))) hlen IntsO.nil (by simp)).mono (fun e w3 h => ⟨h.1, hw2.ext h.2⟩))))
  apply oas; rfl; rfl
  apply OL.nil
  with_reducible apply At.next
  apply W.ret
  ((with_reducible apply At.fin1); rfl; rfl; intro w' hw')
  exact ⟨rfl, by (exact hw'.toExt (by (repeat (first | exact List.Mem.head _ | apply List.Mem.tail))) (fun k hk => by (focus ((try simp only [add_block]); (repeat (first | exact NotOwned.nil | exact hno _ (by omega) | refine NotOwned.nothing ?_ | refine NotOwned.nds (hlow _ (by omega)) ?_ | refine NotOwned.mapS (by omega) ?_ | apply NotOwned.bif | refine NotOwned.blk (by omega) ?_ | refine NotOwned.row (by omega) ?_ | refine NotOwned.grid (by assumption) (by omega) ?_ | refine NotOwned.pile (by omega) ?_ | refine NotOwned.pool (by omega) ?_ | refine NotOwned.mapI (by omega) ?_ | refine NotOwned.mapX (by omega) ?_ | refine NotOwned.itI (by omega) ?_)); done))))⟩
end Go.Proofs.YtlboppiogeaicaaDoor.co
