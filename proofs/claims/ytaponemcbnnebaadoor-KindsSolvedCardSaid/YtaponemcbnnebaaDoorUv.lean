/- Check, CheckRow, TypeError, and the law UnifyValid over them. -/
import Derived.Test.YtaponemcbnnebaaDoorUc
namespace Go.Proofs.YtaponemcbnnebaaDoor.uv
open Go.Eng Go.RowKit Go.Proofs.YtaponemcbnnebaaDoor.te Go.Proofs.YtaponemcbnnebaaDoor.uc
set_option maxRecDepth 100000 in
theorem typeErr_calls (t : Ty) (row : Bool) (cs : List Value) (w : World) (ht : TyC w w.heap.size t cs) :
    Calls Tryd.prog 7 [.agg cs.toArray, .bool row].toArray w fun e w' => e = .returned (.int .i64 (tyErr t row 1 0).2) ∧ Ext w w' := by
  have hl := ht.len
  refine enter Tryd.func7 rfl Tryd.ntmps7 rfl (Cls.start w) ?_
  (simp only [argEnv, Nat.zero_add, Nat.reduceAdd])
  obtain ⟨kind, name, var, ts⟩ := t
  have ht' := ht
  simp only [TyC] at ht'
  obtain ⟨q, cap, rfl, hk, hv, hlen, hq⟩ := ht'
  apply W.seq
  apply W.reg
  apply OL.box; rfl; rfl; exact CellsL.agg; (intro bk hbk; simp only [AllLe, and_true] at hbk)
  apply oas; rfl; rfl
  apply OL.nil
  with_reducible apply At.next
  apply W.seq
  apply W.reg
  apply OL.op; exact Guard.none; rfl; rfl; apply Pev.load_blkA; rfl; exact yes; exact .head _; rfl; apply Take.succ; apply Take.succ; apply Take.succ; apply Take.succ; apply Take.zero
  apply omv; rfl; rfl
  (((first | (with_reducible apply OL.op) | (with_reducible apply QL.op)); ((first | exact Guard.none | exact Guard.yes rfl rfl | exact Guard.no rfl rfl | exact Guard.cyes rfl rfl | exact Guard.cno rfl rfl)); rfl; rfl); (exact Pev.call rfl (by (repeat (first | exact Args.nil | (apply Args.cons rfl; ((first | exact fun _ => rfl | exact fun h => h | (intro h; simp_all; done))))))) (fun _ w2 hw2 => (typeError_calls _ _ row 1 0 _ w2 (Nat.le_refl _) (TyC.keep (hw2.below (by (repeat (first | exact List.Mem.head _ | apply List.Mem.tail))) (Nat.le_refl _) (fun k hk => by (focus ((try simp only [add_block]); (repeat (first | exact NotOwned.nil | refine NotOwned.blk (by omega) ?_)); done)))) (hw2.kp w (by (repeat (first | exact List.Mem.head _ | apply List.Mem.tail)))).size ht) (by omega) (by omega) (by omega) (by omega)).mono (fun e w3 h => ⟨h.1, hw2.ext h.2⟩))))
  apply omv; rfl; rfl
  apply oex; rfl; rfl; rfl
  apply oex; rfl; rfl; rfl
  apply oas; rfl; rfl
  apply oas; rfl; rfl
  apply OL.nil
  with_reducible apply At.next
  apply W.seq
  apply W.reg
  apply omv; rfl; rfl
  apply oas; rfl; rfl
  apply OL.nil
  with_reducible apply At.next
  apply W.ret
  ((with_reducible apply At.fin1); rfl; rfl; intro w' hw')
  exact ⟨rfl, by (exact hw'.toExt (by (repeat (first | exact List.Mem.head _ | apply List.Mem.tail))) (fun k hk => by (focus ((try simp only [add_block]); (repeat (first | exact NotOwned.nil | refine NotOwned.blk (by omega) ?_)); done))))⟩
set_option maxRecDepth 100000 in
theorem Check_calls (t : Ty) (cs : List Value) (w : World) (ht : TyC w w.heap.size t cs) (hg : 0 < w.heap.size) (hs : sizesAt w) :
    Calls Tryd.prog 6 [.agg cs.toArray].toArray w fun e w' => e = .returned (.int .i64 (tyErr t false 1 0).2) ∧ Ext w w' := by
  refine enter Tryd.func6 rfl Tryd.ntmps6 rfl (Cls.start w) ?_
  (simp only [argEnv, Nat.zero_add, Nat.reduceAdd])
  obtain ⟨kind, name, var, ts⟩ := t
  have ht' := ht
  simp only [TyC] at ht'
  obtain ⟨q, cap, rfl, hk, hv, hlen, hq⟩ := ht'
  apply W.seq
  apply W.reg
  apply OL.box; rfl; rfl; exact CellsL.agg; (intro bk hbk; simp only [AllLe, and_true] at hbk)
  apply oas; rfl; rfl
  apply OL.nil
  with_reducible apply At.next
  apply W.seq
  apply W.reg
  apply OL.op; exact Guard.none; rfl; rfl; apply Pev.build; rfl; exact CellsL.agg; rfl; apply Fill.cons rfl; exact CellsL.one rfl; rfl; rfl; apply Put.here; apply Over.cons; apply Over.nil; apply Fill.nil; rfl
  apply OL.box; rfl; rfl; exact CellsL.agg; (intro bk hbk; simp only [AllLe, and_true] at hbk)
  apply OL.op; exact Guard.none; rfl; rfl; apply Pev.load_blkA; rfl; exact yes; exact .tail _ (.head _); rfl; apply Take.succ; apply Take.succ; apply Take.succ; apply Take.succ; apply Take.zero
  rename_i b0 hb0
  have key : ∀ w2, Cls [blk bk 54 [.int .i64 4096], blk b0 24 [.int .i64 kind, .string name, .int .i64 var, .slice q ts.length cap]] [w] w2 →
      Calls Tryd.prog 17 [.pointer (some ⟨bk, 0, none⟩), .agg #[.int .i64 kind, .string name, .int .i64 var, .slice q ts.length cap], .bool false, .int .i64 1].toArray w2 fun e w' =>
        e = .returned (.int .i64 (tyErr (.mk kind name var ts) false 1 0).2) ∧ Cls [blk bk 54 [.int .i64 (4096 - (tyErr (.mk kind name var ts) false 1 0).1)], blk b0 24 [.int .i64 kind, .string name, .int .i64 var, .slice q ts.length cap]] [w] w' := by
    intro w2 hw2
    have hbel := hw2.below (s := w) (by (repeat (first | exact List.Mem.head _ | apply List.Mem.tail))) (Nat.le_refl _) (fun k hk => by (focus ((try simp only [add_block]); (repeat (first | exact NotOwned.nil | refine NotOwned.blk (by omega) ?_)); done)))
    exact (check_calls _ (.mk kind name var ts) false 1 0 _ w2 w.heap.size bk (Nat.le_refl _) (TyC.keep hbel (Nat.le_refl _) ht) hg hbk (hs.keep hg hbel) (hw2.item (by (repeat (first | exact List.Mem.head _ | apply List.Mem.tail)))) (by omega) (by omega) (by omega) (by omega)).mono (fun e w3 h => ⟨h.1, hw2.turn_blk (p := 0) (by (repeat (first | apply Swap.z | apply Swap.s))) h.2.1 h.2.2⟩)
  ((with_reducible apply OL.callF); rfl; rfl; ((repeat (first | exact Args.nil | (apply Args.cons rfl; ((first | exact fun _ => rfl | exact fun h => h | (intro h; simp_all; done))))))); (exact key))
  apply oas; rfl; rfl
  apply OL.nil
  with_reducible apply At.next
  apply W.ret
  ((with_reducible apply At.fin1); rfl; rfl; intro w' hw')
  exact ⟨rfl, by (exact hw'.toExt (by (repeat (first | exact List.Mem.head _ | apply List.Mem.tail))) (fun k hk => by (focus ((try simp only [add_block]); (repeat (first | exact NotOwned.nil | refine NotOwned.blk (by omega) ?_)); done))))⟩
set_option maxRecDepth 100000 in
theorem CheckRow_calls (t : Ty) (cs : List Value) (w : World) (ht : TyC w w.heap.size t cs) (hg : 0 < w.heap.size) (hs : sizesAt w) :
    Calls Tryd.prog 8 [.agg cs.toArray].toArray w fun e w' => e = .returned (.int .i64 (tyErr t true 1 0).2) ∧ Ext w w' := by
  refine enter Tryd.func8 rfl Tryd.ntmps8 rfl (Cls.start w) ?_
  (simp only [argEnv, Nat.zero_add, Nat.reduceAdd])
  obtain ⟨kind, name, var, ts⟩ := t
  have ht' := ht
  simp only [TyC] at ht'
  obtain ⟨q, cap, rfl, hk, hv, hlen, hq⟩ := ht'
  apply W.seq
  apply W.reg
  apply OL.box; rfl; rfl; exact CellsL.agg; (intro bk hbk; simp only [AllLe, and_true] at hbk)
  apply oas; rfl; rfl
  apply OL.nil
  with_reducible apply At.next
  apply W.seq
  apply W.reg
  apply OL.op; exact Guard.none; rfl; rfl; apply Pev.build; rfl; exact CellsL.agg; rfl; apply Fill.cons rfl; exact CellsL.one rfl; rfl; rfl; apply Put.here; apply Over.cons; apply Over.nil; apply Fill.nil; rfl
  apply OL.box; rfl; rfl; exact CellsL.agg; (intro bk hbk; simp only [AllLe, and_true] at hbk)
  apply OL.op; exact Guard.none; rfl; rfl; apply Pev.load_blkA; rfl; exact yes; exact .tail _ (.head _); rfl; apply Take.succ; apply Take.succ; apply Take.succ; apply Take.succ; apply Take.zero
  rename_i b0 hb0
  have key : ∀ w2, Cls [blk bk 54 [.int .i64 4096], blk b0 24 [.int .i64 kind, .string name, .int .i64 var, .slice q ts.length cap]] [w] w2 →
      Calls Tryd.prog 17 [.pointer (some ⟨bk, 0, none⟩), .agg #[.int .i64 kind, .string name, .int .i64 var, .slice q ts.length cap], .bool true, .int .i64 1].toArray w2 fun e w' =>
        e = .returned (.int .i64 (tyErr (.mk kind name var ts) true 1 0).2) ∧ Cls [blk bk 54 [.int .i64 (4096 - (tyErr (.mk kind name var ts) true 1 0).1)], blk b0 24 [.int .i64 kind, .string name, .int .i64 var, .slice q ts.length cap]] [w] w' := by
    intro w2 hw2
    have hbel := hw2.below (s := w) (by (repeat (first | exact List.Mem.head _ | apply List.Mem.tail))) (Nat.le_refl _) (fun k hk => by (focus ((try simp only [add_block]); (repeat (first | exact NotOwned.nil | refine NotOwned.blk (by omega) ?_)); done)))
    exact (check_calls _ (.mk kind name var ts) true 1 0 _ w2 w.heap.size bk (Nat.le_refl _) (TyC.keep hbel (Nat.le_refl _) ht) hg hbk (hs.keep hg hbel) (hw2.item (by (repeat (first | exact List.Mem.head _ | apply List.Mem.tail)))) (by omega) (by omega) (by omega) (by omega)).mono (fun e w3 h => ⟨h.1, hw2.turn_blk (p := 0) (by (repeat (first | apply Swap.z | apply Swap.s))) h.2.1 h.2.2⟩)
  ((with_reducible apply OL.callF); rfl; rfl; ((repeat (first | exact Args.nil | (apply Args.cons rfl; ((first | exact fun _ => rfl | exact fun h => h | (intro h; simp_all; done))))))); (exact key))
  apply oas; rfl; rfl
  apply OL.nil
  with_reducible apply At.next
  apply W.ret
  ((with_reducible apply At.fin1); rfl; rfl; intro w' hw')
  exact ⟨rfl, by (exact hw'.toExt (by (repeat (first | exact List.Mem.head _ | apply List.Mem.tail))) (fun k hk => by (focus ((try simp only [add_block]); (repeat (first | exact NotOwned.nil | refine NotOwned.blk (by omega) ?_)); done))))⟩

/-- the small type of the law's first line -/
theorem small_err : (tyErr (.mk 3 ⟨#[]⟩ 0 []) false 1 0).2 = 3 := by decide +kernel
theorem small_TyC (w : World) (B : Nat) : TyC w B (.mk 3 ⟨#[]⟩ 0 []) [.int .i64 3, .string ⟨#[]⟩, .int .i64 0, .slice none 0 0] := by
  simp only [TyC]
  exact ⟨none, 0, rfl, by unfold I64; omega, by unfold I64; omega, by simp, fun h => by simp at h⟩
set_option maxRecDepth 100000 in
theorem law (t : Ty) (cs : List Value) (w : World) (ht : TyC w w.heap.size t cs) (hg : 0 < w.heap.size) (hs : sizesAt w) :
    Calls Tryd.prog 3 [.agg cs.toArray].toArray w fun e w' => e = .returned (.bool true) ∧ Ext w w' := by
  refine enter Tryd.func3 rfl Tryd.ntmps3 rfl (Cls.start w) ?_
  (simp only [argEnv, Nat.zero_add, Nat.reduceAdd])
  obtain ⟨kind, name, var, ts⟩ := t
  have ht' := ht
  simp only [TyC] at ht'
  obtain ⟨q, cap, rfl, hk, hv, hlen, hq⟩ := ht'
  apply W.seq
  apply W.reg
  apply OL.box; rfl; rfl; exact CellsL.agg; (intro bk hbk; simp only [AllLe, and_true] at hbk)
  apply oas; rfl; rfl
  apply OL.nil
  with_reducible apply At.next
  apply W.seq
  apply W.seq
  apply W.reg
  apply OL.op; exact Guard.none; rfl; rfl; apply Pev.build; rfl; exact CellsL.agg; rfl; apply Fill.cons rfl; exact CellsL.one rfl; rfl; rfl; apply Put.here; apply Over.cons; apply Over.nil; apply Fill.nil; rfl
  have hC : ∀ w2, Cls [blk bk 24 [.int .i64 kind, .string name, .int .i64 var, .slice q ts.length cap]] [w] w2 → TyC w2 w2.heap.size (.mk kind name var ts) [.int .i64 kind, .string name, .int .i64 var, .slice q ts.length cap] ∧ 0 < w2.heap.size ∧ sizesAt w2 := fun w2 hw2 =>
    have hbel := hw2.below (s := w) (by (repeat (first | exact List.Mem.head _ | apply List.Mem.tail))) (Nat.le_refl _) (fun k hk => by (focus ((try simp only [add_block]); (repeat (first | exact NotOwned.nil | refine NotOwned.blk (by omega) ?_)); done)))
    have hsz := (hw2.kp w (by (repeat (first | exact List.Mem.head _ | apply List.Mem.tail)))).size
    ⟨TyC.keep hbel hsz ht, by omega, hs.keep hg hbel⟩
  (((first | (with_reducible apply OL.op) | (with_reducible apply QL.op)); ((first | exact Guard.none | exact Guard.yes rfl rfl | exact Guard.no rfl rfl | exact Guard.cyes rfl rfl | exact Guard.cno rfl rfl)); rfl; rfl); (exact Pev.call rfl (by (repeat (first | exact Args.nil | (apply Args.cons rfl; ((first | exact fun _ => rfl | exact fun h => h | (intro h; simp_all; done))))))) (fun _ w2 hw2 => (Check_calls (.mk 3 ⟨#[]⟩ 0 []) _ w2 (small_TyC _ _) (hC w2 hw2).2.1 (hC w2 hw2).2.2).mono (fun e w3 h => ⟨by rw [small_err] at h; exact h.1, hw2.ext h.2⟩))))
  apply obn; rfl; rfl; rfl; apply Bin.neq
  apply OL.nil
  with_reducible apply At.next
  (refine W.cond rfl (fun h1 => ?_) (fun h1 => ?_)) <;> (try (simp only [Bool.and_eq_true, Bool.or_eq_true, Bool.not_eq_true', Bool.and_eq_false_iff, Bool.or_eq_false_iff, Bool.not_eq_false', decide_eq_true_eq, decide_eq_false_iff_not, Int.not_lt, Int.not_le] at h1)) <;> (try (exfalso; first | omega | exact h1 trivial | contradiction))
  apply W.skip
  with_reducible apply At.next
  apply W.seq
  apply W.regd; kernel_rfl; kernel_rfl; exact fun w hw => hw.drew
  apply QL.op; exact Guard.none; rfl; rfl; apply Pev.load_blkA; rfl; exact yes; exact .head _; rfl; apply Take.succ; apply Take.succ; apply Take.succ; apply Take.succ; apply Take.zero
  (((first | (with_reducible apply OL.op) | (with_reducible apply QL.op)); ((first | exact Guard.none | exact Guard.yes rfl rfl | exact Guard.no rfl rfl | exact Guard.cyes rfl rfl | exact Guard.cno rfl rfl)); rfl; rfl); (exact Pev.call rfl (by (repeat (first | exact Args.nil | (apply Args.cons rfl; ((first | exact fun _ => rfl | exact fun h => h | (intro h; simp_all; done))))))) (fun _ w2 hw2 => (Check_calls (.mk kind name var ts) _ w2 (hC w2 hw2).1 (hC w2 hw2).2.1 (hC w2 hw2).2.2).mono (fun e w3 h => ⟨h.1, hw2.ext h.2⟩))))
  apply QL.op; exact Guard.none; rfl; rfl; apply Pev.load_blkA; rfl; exact yes; exact .head _; rfl; apply Take.succ; apply Take.succ; apply Take.succ; apply Take.succ; apply Take.zero
  (((first | (with_reducible apply OL.op) | (with_reducible apply QL.op)); ((first | exact Guard.none | exact Guard.yes rfl rfl | exact Guard.no rfl rfl | exact Guard.cyes rfl rfl | exact Guard.cno rfl rfl)); rfl; rfl); (exact Pev.call rfl (by (repeat (first | exact Args.nil | (apply Args.cons rfl; ((first | exact fun _ => rfl | exact fun h => h | (intro h; simp_all; done))))))) (fun _ w2 hw2 => (typeErr_calls (.mk kind name var ts) _ _ w2 (hC w2 hw2).1).mono (fun e w3 h => ⟨h.1, hw2.ext h.2⟩))))
  apply qbn; rfl; rfl; rfl; apply Bin.eql
  apply qmv; rfl; rfl
  apply QL.op; exact Guard.yes rfl rfl; rfl; rfl; apply Pev.load_blkA; rfl; exact yes; exact .head _; rfl; apply Take.succ; apply Take.succ; apply Take.succ; apply Take.succ; apply Take.zero
  (((first | (with_reducible apply OL.op) | (with_reducible apply QL.op)); ((first | exact Guard.none | exact Guard.yes rfl rfl | exact Guard.no rfl rfl | exact Guard.cyes rfl rfl | exact Guard.cno rfl rfl)); rfl; rfl); (exact Pev.call rfl (by (repeat (first | exact Args.nil | (apply Args.cons rfl; ((first | exact fun _ => rfl | exact fun h => h | (intro h; simp_all; done))))))) (fun _ w2 hw2 => (CheckRow_calls (.mk kind name var ts) _ w2 (hC w2 hw2).1 (hC w2 hw2).2.1 (hC w2 hw2).2.2).mono (fun e w3 h => ⟨h.1, hw2.ext h.2⟩))))
  apply QL.op; exact Guard.yes rfl rfl; rfl; rfl; apply Pev.load_blkA; rfl; exact yes; exact .head _; rfl; apply Take.succ; apply Take.succ; apply Take.succ; apply Take.succ; apply Take.zero
  (((first | (with_reducible apply OL.op) | (with_reducible apply QL.op)); ((first | exact Guard.none | exact Guard.yes rfl rfl | exact Guard.no rfl rfl | exact Guard.cyes rfl rfl | exact Guard.cno rfl rfl)); rfl; rfl); (exact Pev.call rfl (by (repeat (first | exact Args.nil | (apply Args.cons rfl; ((first | exact fun _ => rfl | exact fun h => h | (intro h; simp_all; done))))))) (fun _ w2 hw2 => (typeErr_calls (.mk kind name var ts) _ _ w2 (hC w2 hw2).1).mono (fun e w3 h => ⟨h.1, hw2.ext h.2⟩))))
  apply QL.op; exact Guard.yes rfl rfl; rfl; rfl; apply Pev.bin; rfl; exact fun h => h; rfl; exact fun h => h; intro hcond; apply Bin.eql
  apply QL.op; exact Guard.none; rfl; rfl; apply Pev.pick_and; rfl; exact yes; rfl; exact fun h => h
  apply qas; rfl; rfl
  apply QL.nil
  with_reducible apply At.next
  apply W.ret
  ((with_reducible apply At.fin1); rfl; rfl; intro w' hw')
  exact ⟨by simp, by (exact hw'.toExt (by (repeat (first | exact List.Mem.head _ | apply List.Mem.tail))) (fun k hk => by (focus ((try simp only [add_block]); (repeat (first | exact NotOwned.nil | refine NotOwned.blk (by omega) ?_)); done))))⟩
end Go.Proofs.YtaponemcbnnebaaDoor.uv
