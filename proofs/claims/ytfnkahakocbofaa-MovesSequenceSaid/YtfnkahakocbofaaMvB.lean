/- The walks of Sequence's function literals. Conditions: none. -/
import Derived.Test.YtfnkahakocbofaaMvA
namespace Go.Proofs.Ytfnkahakocbofaa.mv
open Go.RowKit Go.Eng Go.Mv
set_option linter.unusedVariables false
set_option maxRecDepth 100000

theorem lit1_calls (bx : Nat) (x1 : Int) (y : Pr) (w : World) (hb : bx < w.heap.size) (hc : w.cell? ⟨bx, 0, none⟩ = some (.int .i64 x1)) :
    Calls Try.prog 8 #[pv y, .pointer (some ⟨bx, 0, none⟩)] w fun e w' => e = .returned (.bool (decide (y.1 = x1))) ∧ Ext w w' := by
  refine enter Try.func8 rfl Try.ntmps8 rfl (Cls.start w) ?_
  (simp only [argEnv, Nat.zero_add, Nat.reduceAdd])
  unfold pv
  apply W.seq
  apply W.reg
  apply OL.box; rfl; rfl; exact CellsL.agg; (intro bk hbk; simp only [AllLe, and_true] at hbk)
  apply oas; rfl; rfl
  apply OL.nil
  with_reducible apply At.next
  apply W.seq
  apply W.reg
  apply OL.op; exact Guard.none; rfl; rfl; apply Pev.idxArr; rfl; exact yes; rfl; exact yes; rfl; intro hcond; omega; rfl
  apply old; rfl; rfl; exact .head _; rfl; rfl
  apply OL.op; exact Guard.none; rfl; rfl; apply Pev.idxArr; rfl; exact yes; rfl; exact yes; rfl; intro hcond; omega; rfl
  apply OL.op; exact Guard.none; rfl; rfl; apply Pev.load_kept; rfl; exact yes; exact .head _; rfl; intro hcond; assumption; intro hcond; assumption; intro hcond; simp only [add_block]; refine NotOwned.blk (by omega) ?_; exact NotOwned.nil
  apply obn; rfl; rfl; rfl; apply Bin.eql
  apply oas; rfl; rfl
  apply OL.nil
  with_reducible apply At.next
  apply W.ret
  ((with_reducible apply At.fin1); rfl; rfl; intro w' hw')
  exact ⟨rfl, by (exact hw'.toExt (by (repeat (first | exact List.Mem.head _ | apply List.Mem.tail))) (fun k hk => by (focus ((try simp only [add_block]); (repeat (first | exact NotOwned.nil | refine NotOwned.blk (by omega) ?_ | refine NotOwned.row (by omega) ?_ | refine NotOwned.grid (by assumption) (by omega) ?_)); done))))⟩
theorem lit2_calls (y : Pr) (w : World) :
    Calls Try.prog 11 #[pv y] w fun e w' => e = .returned (.bool (decide (y.1 = y.2))) ∧ Ext w w' := by
  refine enter Try.func11 rfl Try.ntmps11 rfl (Cls.start w) ?_
  (simp only [argEnv, Nat.zero_add, Nat.reduceAdd])
  unfold pv
  apply W.seq
  apply W.reg
  apply OL.box; rfl; rfl; exact CellsL.agg; (intro bk hbk; simp only [AllLe, and_true] at hbk)
  apply oas; rfl; rfl
  apply OL.nil
  with_reducible apply At.next
  apply W.seq
  apply W.reg
  apply OL.op; exact Guard.none; rfl; rfl; apply Pev.idxArr; rfl; exact yes; rfl; exact yes; rfl; intro hcond; omega; rfl
  apply old; rfl; rfl; exact .head _; rfl; rfl
  apply OL.op; exact Guard.none; rfl; rfl; apply Pev.idxArr; rfl; exact yes; rfl; exact yes; rfl; intro hcond; omega; rfl
  apply old; rfl; rfl; exact .head _; rfl; rfl
  apply obn; rfl; rfl; rfl; apply Bin.eql
  apply oas; rfl; rfl
  apply OL.nil
  with_reducible apply At.next
  apply W.ret
  ((with_reducible apply At.fin1); rfl; rfl; intro w' hw')
  exact ⟨rfl, by (exact hw'.toExt (by (repeat (first | exact List.Mem.head _ | apply List.Mem.tail))) (fun k hk => by (focus ((try simp only [add_block]); (repeat (first | exact NotOwned.nil | refine NotOwned.blk (by omega) ?_ | refine NotOwned.row (by omega) ?_ | refine NotOwned.grid (by assumption) (by omega) ?_)); done))))⟩
theorem lit31_calls (bx : Nat) (x1 : Int) (y : Pr) (w : World) (hb : bx < w.heap.size) (hc : w.cell? ⟨bx, 0, none⟩ = some (.int .i64 x1)) :
    Calls Try.prog 14 #[pv y, .pointer (some ⟨bx, 0, none⟩)] w fun e w' => e = .returned (.bool (decide (y.2 = x1))) ∧ Ext w w' := by
  refine enter Try.func14 rfl Try.ntmps14 rfl (Cls.start w) ?_
  (simp only [argEnv, Nat.zero_add, Nat.reduceAdd])
  unfold pv
  apply W.seq
  apply W.reg
  apply OL.box; rfl; rfl; exact CellsL.agg; (intro bk hbk; simp only [AllLe, and_true] at hbk)
  apply oas; rfl; rfl
  apply OL.nil
  with_reducible apply At.next
  apply W.seq
  apply W.reg
  apply OL.op; exact Guard.none; rfl; rfl; apply Pev.idxArr; rfl; exact yes; rfl; exact yes; rfl; intro hcond; omega; rfl
  apply old; rfl; rfl; exact .head _; rfl; rfl
  apply OL.op; exact Guard.none; rfl; rfl; apply Pev.idxArr; rfl; exact yes; rfl; exact yes; rfl; intro hcond; omega; rfl
  apply OL.op; exact Guard.none; rfl; rfl; apply Pev.load_kept; rfl; exact yes; exact .head _; rfl; intro hcond; assumption; intro hcond; assumption; intro hcond; simp only [add_block]; refine NotOwned.blk (by omega) ?_; exact NotOwned.nil
  apply obn; rfl; rfl; rfl; apply Bin.eql
  apply oas; rfl; rfl
  apply OL.nil
  with_reducible apply At.next
  apply W.ret
  ((with_reducible apply At.fin1); rfl; rfl; intro w' hw')
  exact ⟨rfl, by (exact hw'.toExt (by (repeat (first | exact List.Mem.head _ | apply List.Mem.tail))) (fun k hk => by (focus ((try simp only [add_block]); (repeat (first | exact NotOwned.nil | refine NotOwned.blk (by omega) ?_ | refine NotOwned.row (by omega) ?_ | refine NotOwned.grid (by assumption) (by omega) ?_)); done))))⟩
theorem lit3_calls (bl : Nat) (q : Option Addr) (cap : Nat) (left : List Pr) (x : Pr) (w : World) (hb : bl < w.heap.size) (hc : w.cell? ⟨bl, 0, none⟩ = some (.slice q left.length cap)) (hlen : left.length ≤ 100000) (h : SlAt w w.heap.size q (cat pcell left)) :
    Calls Try.prog 13 #[pv x, .pointer (some ⟨bl, 0, none⟩)] w fun e w' => e = .returned (.bool (freeP left x)) ∧ Ext w w' := by
  refine enter Try.func13 rfl Try.ntmps13 rfl (Cls.start w) ?_
  (simp only [argEnv, Nat.zero_add, Nat.reduceAdd])
  unfold pv
  apply W.seq
  apply W.reg
  apply OL.box; rfl; rfl; exact CellsL.agg; (intro bk hbk; simp only [AllLe, and_true] at hbk)
  apply oas; rfl; rfl
  apply OL.nil
  with_reducible apply At.next
  apply W.seq
  apply W.reg
  apply OL.op; exact Guard.none; rfl; rfl; apply Pev.load_kept; rfl; exact yes; exact .head _; rfl; intro hcond; assumption; intro hcond; assumption; intro hcond; simp only [add_block]; refine NotOwned.blk (by omega) ?_; exact NotOwned.nil
  apply OL.op; exact Guard.none; rfl; rfl; apply Pev.makeFunc; exact Args.nil; apply Args.cons rfl; exact yes; exact Args.nil
  (((first | (with_reducible apply OL.op) | (with_reducible apply QL.op)); ((first | exact Guard.none | exact Guard.yes rfl rfl | exact Guard.no rfl rfl | exact Guard.cyes rfl rfl | exact Guard.cno rfl rfl)); rfl; rfl); (refine Pev.call rfl (by (repeat (first | exact Args.nil | (apply Args.cons rfl; ((first | exact fun _ => rfl | exact fun h => h | (intro h; simp_all; done))))))) (fun _ w2 hw2 => (ContainsFunc_calls q cap left 14 [] [.pointer (some ⟨bk, 0, none⟩)] (fun y => decide (y.2 = x.1)) w2 (by omega) (h.keep (hw2.below (s := w) (by (repeat (first | exact List.Mem.head _ | apply List.Mem.tail))) (Nat.le_refl _) (fun k hk => by (focus ((try simp only [add_block]); (repeat (first | exact NotOwned.nil | refine NotOwned.blk (by omega) ?_ | refine NotOwned.row (by omega) ?_ | refine NotOwned.grid (by assumption) (by omega) ?_)); done)))) (hw2.kp w (by (repeat (first | exact List.Mem.head _ | apply List.Mem.tail)))).size) rfl (fun s hs w3 hx => ?_)).mono (fun e w3 h => ⟨h.1, hw2.ext h.2⟩))))
  · have hi := hw2.item (i := blk bk 26 [.int .i64 x.1, .int .i64 x.2]) (by (repeat (first | exact List.Mem.head _ | apply List.Mem.tail)))
    exact lit31_calls bk x.1 s w3 (Nat.lt_of_lt_of_le (blk_lt hi) hx.size) ((World.cell?_of_block (hx.below.block bk (blk_lt hi))).trans (by rw [blk_cell hi]; rfl))
  apply OL.op; exact Guard.none; rfl; rfl; apply Pev.not; rfl; exact yes
  apply oas; rfl; rfl
  apply OL.nil
  with_reducible apply At.next
  apply W.ret
  ((with_reducible apply At.fin1); rfl; rfl; intro w' hw')
  exact ⟨rfl, by (exact hw'.toExt (by (repeat (first | exact List.Mem.head _ | apply List.Mem.tail))) (fun k hk => by (focus ((try simp only [add_block]); (repeat (first | exact NotOwned.nil | refine NotOwned.blk (by omega) ?_ | refine NotOwned.row (by omega) ?_ | refine NotOwned.grid (by assumption) (by omega) ?_)); done))))⟩
end Go.Proofs.Ytfnkahakocbofaa.mv
