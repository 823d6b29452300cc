/- The walks of the printer's shapeOf and groups. Conditions: none. (Printed by pks.py.) -/
import Derived.Test.YtlcclcakdfmgkaaPkA
import Derived.Test.YtlcclcakdfmgkaaPkN
namespace Go.Proofs.Ytlcclcakdfmgkaa.pk
open Go.RowKit Go.Eng Go.Pk
set_option linter.unusedVariables false
set_option linter.unusedSimpArgs false
set_option maxRecDepth 100000

/-- function values, one for each class -/
def FnsL (w : World) : List Value → List (List Int) → Prop
  | [], [] => True
  | v :: vs, L :: Ls => Fn (fun _ => False) w v L ∧ FnsL w vs Ls
  | _, _ => False
def FnsAt (w : World) (q : Option Addr) (fs : List (List Int)) : Prop := ∃ vs, FnsL w vs fs ∧ SlAt w w.heap.size q vs
theorem FnsAt.nil (w : World) (q : Option Addr) : FnsAt w q [] := ⟨[], trivial, SlAt.nil⟩
theorem FnsL.len {w : World} : ∀ {vs : List Value} {fs : List (List Int)}, FnsL w vs fs → vs.length = fs.length
  | [], [], _ => rfl
  | v :: vs, L :: Ls, h => by simp only [List.length_cons, FnsL.len h.2]
theorem FnsL.get {w : World} : ∀ {vs : List Value} {fs : List (List Int)} {i : Nat} {L : List Int}, FnsL w vs fs → fs[i]? = some L → ∃ v, vs[i]? = some v ∧ Fn (fun _ => False) w v L
  | [], [], _, _, h, e => by simp at e
  | [], L :: Ls, _, _, h, e => h.elim
  | v :: vs, [], _, _, h, e => h.elim
  | v :: vs, L :: Ls, 0, _, h, e => by cases e; exact ⟨v, rfl, h.1⟩
  | v :: vs, L :: Ls, i + 1, _, h, e => by rw [List.getElem?_cons_succ] at e ⊢; exact FnsL.get h.2 e
/-- the cells of a shape -/
def ShAt (w : World) (vs : List Value) (s : Shp) : Prop := ∃ q1 c1 q2 c2 vb, vs = [.slice q1 s.first.length c1, .slice q2 s.last.length c2, vb, .int .i64 s.least] ∧ FnsAt w q1 s.first ∧ FnsAt w q2 s.last ∧ Fn (fun _ => False) w vb s.between

theorem shapeOf_calls (k : Int) (w : World) : Calls Try.prog 57 #[.int .i64 k] w fun e w' => ∃ vs, e = .returned (.agg vs.toArray) ∧ ShAt w' vs (shapeP k) ∧ Ext w w' := by
  refine enter Try.func57 rfl Try.ntmps57 rfl (Cls.start w) ?_
  (simp only [argEnv, Nat.zero_add, Nat.reduceAdd])
  apply W.seq
  apply W.reg
  apply OL.alloc; rfl; rfl; exact CellsL.agg; (intro bk hbk; simp only [AllLe, and_true] at hbk)
  apply OL.nil
  with_reducible apply At.next
  apply W.seq
  apply W.seq
  apply W.reg
  apply omv; rfl; rfl
  apply OL.nil
  with_reducible apply At.next
  apply W.block
  apply W.seq
  apply W.reg
  apply obn; rfl; rfl; rfl; apply Bin.eql
  apply oas; rfl; rfl
  apply OL.nil
  with_reducible apply At.next
  revert bk
  intro b0 hb0
  (refine W.cond rfl (fun h1 => ?_) (fun h1 => ?_)) <;> (try (simp only [Bool.and_eq_true, Bool.or_eq_true, Bool.not_eq_true', Bool.and_eq_false_iff, Bool.or_eq_false_iff, Bool.not_eq_false', decide_eq_true_eq, decide_eq_false_iff_not, Int.not_lt, Int.not_le] at h1)) <;> (try (exfalso; first | omega | exact h1 trivial | contradiction))
  · have e : shapeP k = mny declL 0 := by subst h1; rfl
    apply W.seq
    apply W.reg
    (((first | (with_reducible apply OL.op) | (with_reducible apply QL.op)); ((first | exact Guard.none | exact Guard.yes rfl rfl | exact Guard.no rfl rfl | exact Guard.cyes rfl rfl | exact Guard.cno rfl rfl)); rfl; rfl); (exact Pev.call rfl (by (repeat (first | exact Args.nil | (apply Args.cons rfl; ((first | exact fun _ => rfl | exact fun h => h | (intro h; simp_all; done))))))) (fun _ w2 hw2 => (many_calls _ [] 0 w2).mono (fun e w3 h => ⟨h.1, hw2.ext h.2⟩))))
    apply OL.storeB; rfl; rfl; exact CellsL.agg; rfl; rfl; rfl; apply Swap.z; apply Put.here; apply Over.cons; apply Over.cons; apply Over.cons; apply Over.cons; apply Over.nil
    apply OL.nil
    with_reducible apply At.next
    apply W.ret
    with_reducible apply At.in_ret
    with_reducible apply At.then_ret
    rw [e]
    refine At.finC (b := b0) rfl rfl (.head _) rfl rfl (fun w' hw' => ⟨_, rfl, ⟨_, _, _, _, _, rfl, FnsAt.nil _ _, FnsAt.nil _ _, Fn.decl _ _⟩, by (exact hw'.toExt (by (repeat (first | exact List.Mem.head _ | apply List.Mem.tail))) (fun k hk => by (focus ((try simp only [add_block]); (repeat (first | exact NotOwned.nil | exact hno _ (by omega) | refine NotOwned.nothing ?_ | refine NotOwned.nds (hlow _ (by omega)) ?_ | refine NotOwned.mapS (by omega) ?_ | apply NotOwned.bif | refine NotOwned.blk (by omega) ?_ | refine NotOwned.row (by omega) ?_ | refine NotOwned.grid (by assumption) (by omega) ?_)); done))))⟩)
  apply W.seq
  apply W.seq
  apply W.reg
  apply obn; rfl; rfl; rfl; apply Bin.eql
  apply oas; rfl; rfl
  apply OL.nil
  with_reducible apply At.next
  (refine W.cond rfl (fun h2a => ?_) (fun h2a => ?_)) <;> (try (simp only [Bool.and_eq_true, Bool.or_eq_true, Bool.not_eq_true', Bool.and_eq_false_iff, Bool.or_eq_false_iff, Bool.not_eq_false', decide_eq_true_eq, decide_eq_false_iff_not, Int.not_lt, Int.not_le] at h2a)) <;> (try (exfalso; first | omega | exact h2a trivial | contradiction))
  · have e : shapeP k = mny [3] 0 := by subst h2a; rfl
    apply W.skip
    with_reducible apply At.next
    (refine W.cond rfl (fun h2c => ?_) (fun h2c => ?_)) <;> (try (simp only [Bool.and_eq_true, Bool.or_eq_true, Bool.not_eq_true', Bool.and_eq_false_iff, Bool.or_eq_false_iff, Bool.not_eq_false', decide_eq_true_eq, decide_eq_false_iff_not, Int.not_lt, Int.not_le] at h2c)) <;> (try (exfalso; first | omega | exact h2c trivial | contradiction))
    apply W.seq
    apply W.reg
    refine OL.callFn [3] rfl rfl (by (repeat (first | exact Args.nil | (apply Args.cons rfl; ((first | exact fun _ => rfl | exact fun h => h | (intro h; simp_all; done))))))) (fun wx hwx => a_calls 3 _ wx (owned_lt hwx)) ?_
    intro f1 p1 w1 hv1 hs1
    have hz1 := hs1 w (by (repeat (first | exact List.Mem.head _ | apply List.Mem.tail)))
    skip
    (((first | (with_reducible apply OL.op) | (with_reducible apply QL.op)); ((first | exact Guard.none | exact Guard.yes rfl rfl | exact Guard.no rfl rfl | exact Guard.cyes rfl rfl | exact Guard.cno rfl rfl)); rfl; rfl); (exact Pev.call rfl (by (repeat (first | exact Args.nil | (apply Args.cons rfl; ((first | exact fun _ => rfl | exact fun h => h | (intro h; simp_all; done))))))) (fun _ w2 hw2 => (many_calls _ p1 0 w2).mono (fun e w3 h => ⟨h.1, hw2.ext h.2⟩))))
    apply OL.storeB; rfl; rfl; exact CellsL.agg; rfl; rfl; rfl; apply Swap.z; apply Put.here; apply Over.cons; apply Over.cons; apply Over.cons; apply Over.cons; apply Over.nil
    apply OL.nil
    with_reducible apply At.next
    apply W.ret
    with_reducible apply At.in_ret
    with_reducible apply At.then_ret
    rw [e]
    refine At.finC (b := b0) rfl rfl (.head _) rfl rfl (fun w' hw' => ⟨_, rfl, ⟨_, _, _, _, _, rfl, FnsAt.nil _ _, FnsAt.nil _ _, hv1.out (hw'.toKeep (by (repeat (first | exact List.Mem.head _ | apply List.Mem.tail))) (fun k hk hO => by have hO0 : ¬ k = b0 := fun e => hO (⟨_, .head _, e⟩); (focus ((try simp only [add_block]); (repeat (first | exact NotOwned.nil | exact hno _ (by omega) | refine NotOwned.nothing ?_ | refine NotOwned.nds (hlow _ (by omega)) ?_ | refine NotOwned.mapS (by omega) ?_ | apply NotOwned.bif | refine NotOwned.blk (by omega) ?_ | refine NotOwned.row (by omega) ?_ | refine NotOwned.grid (by assumption) (by omega) ?_)); done))))⟩, by (exact hw'.toExt (by (repeat (first | exact List.Mem.head _ | apply List.Mem.tail))) (fun k hk => by (focus ((try simp only [add_block]); (repeat (first | exact NotOwned.nil | exact hno _ (by omega) | refine NotOwned.nothing ?_ | refine NotOwned.nds (hlow _ (by omega)) ?_ | refine NotOwned.mapS (by omega) ?_ | apply NotOwned.bif | refine NotOwned.blk (by omega) ?_ | refine NotOwned.row (by omega) ?_ | refine NotOwned.grid (by assumption) (by omega) ?_)); done))))⟩)
  apply W.reg
  apply obn; rfl; rfl; rfl; apply Bin.eql
  apply oas; rfl; rfl
  apply OL.nil
  with_reducible apply At.next
  (refine W.cond rfl (fun h2b => ?_) (fun h2b => ?_)) <;> (try (simp only [Bool.and_eq_true, Bool.or_eq_true, Bool.not_eq_true', Bool.and_eq_false_iff, Bool.or_eq_false_iff, Bool.not_eq_false', decide_eq_true_eq, decide_eq_false_iff_not, Int.not_lt, Int.not_le] at h2b)) <;> (try (exfalso; first | omega | exact h2b trivial | contradiction))
  · have e : shapeP k = mny [3] 0 := by subst h2b; rfl
    apply W.seq
    apply W.reg
    refine OL.callFn [3] rfl rfl (by (repeat (first | exact Args.nil | (apply Args.cons rfl; ((first | exact fun _ => rfl | exact fun h => h | (intro h; simp_all; done))))))) (fun wx hwx => a_calls 3 _ wx (owned_lt hwx)) ?_
    intro f1 p1 w1 hv1 hs1
    have hz1 := hs1 w (by (repeat (first | exact List.Mem.head _ | apply List.Mem.tail)))
    skip
    (((first | (with_reducible apply OL.op) | (with_reducible apply QL.op)); ((first | exact Guard.none | exact Guard.yes rfl rfl | exact Guard.no rfl rfl | exact Guard.cyes rfl rfl | exact Guard.cno rfl rfl)); rfl; rfl); (exact Pev.call rfl (by (repeat (first | exact Args.nil | (apply Args.cons rfl; ((first | exact fun _ => rfl | exact fun h => h | (intro h; simp_all; done))))))) (fun _ w2 hw2 => (many_calls _ p1 0 w2).mono (fun e w3 h => ⟨h.1, hw2.ext h.2⟩))))
    apply OL.storeB; rfl; rfl; exact CellsL.agg; rfl; rfl; rfl; apply Swap.z; apply Put.here; apply Over.cons; apply Over.cons; apply Over.cons; apply Over.cons; apply Over.nil
    apply OL.nil
    with_reducible apply At.next
    apply W.ret
    with_reducible apply At.in_ret
    with_reducible apply At.then_ret
    rw [e]
    refine At.finC (b := b0) rfl rfl (.head _) rfl rfl (fun w' hw' => ⟨_, rfl, ⟨_, _, _, _, _, rfl, FnsAt.nil _ _, FnsAt.nil _ _, hv1.out (hw'.toKeep (by (repeat (first | exact List.Mem.head _ | apply List.Mem.tail))) (fun k hk hO => by have hO0 : ¬ k = b0 := fun e => hO (⟨_, .head _, e⟩); (focus ((try simp only [add_block]); (repeat (first | exact NotOwned.nil | exact hno _ (by omega) | refine NotOwned.nothing ?_ | refine NotOwned.nds (hlow _ (by omega)) ?_ | refine NotOwned.mapS (by omega) ?_ | apply NotOwned.bif | refine NotOwned.blk (by omega) ?_ | refine NotOwned.row (by omega) ?_ | refine NotOwned.grid (by assumption) (by omega) ?_)); done))))⟩, by (exact hw'.toExt (by (repeat (first | exact List.Mem.head _ | apply List.Mem.tail))) (fun k hk => by (focus ((try simp only [add_block]); (repeat (first | exact NotOwned.nil | exact hno _ (by omega) | refine NotOwned.nothing ?_ | refine NotOwned.nds (hlow _ (by omega)) ?_ | refine NotOwned.mapS (by omega) ?_ | apply NotOwned.bif | refine NotOwned.blk (by omega) ?_ | refine NotOwned.row (by omega) ?_ | refine NotOwned.grid (by assumption) (by omega) ?_)); done))))⟩)
  apply W.seq
  apply W.seq
  apply W.reg
  apply obn; rfl; rfl; rfl; apply Bin.eql
  apply oas; rfl; rfl
  apply OL.nil
  with_reducible apply At.next
  (refine W.cond rfl (fun h3a => ?_) (fun h3a => ?_)) <;> (try (simp only [Bool.and_eq_true, Bool.or_eq_true, Bool.not_eq_true', Bool.and_eq_false_iff, Bool.or_eq_false_iff, Bool.not_eq_false', decide_eq_true_eq, decide_eq_false_iff_not, Int.not_lt, Int.not_le] at h3a)) <;> (try (exfalso; first | omega | exact h3a trivial | contradiction))
  · have e : shapeP k = mny typeL 0 := by subst h3a; rfl
    apply W.skip
    with_reducible apply At.next
    (refine W.cond rfl (fun h3c => ?_) (fun h3c => ?_)) <;> (try (simp only [Bool.and_eq_true, Bool.or_eq_true, Bool.not_eq_true', Bool.and_eq_false_iff, Bool.or_eq_false_iff, Bool.not_eq_false', decide_eq_true_eq, decide_eq_false_iff_not, Int.not_lt, Int.not_le] at h3c)) <;> (try (exfalso; first | omega | exact h3c trivial | contradiction))
    apply W.seq
    apply W.reg
    (((first | (with_reducible apply OL.op) | (with_reducible apply QL.op)); ((first | exact Guard.none | exact Guard.yes rfl rfl | exact Guard.no rfl rfl | exact Guard.cyes rfl rfl | exact Guard.cno rfl rfl)); rfl; rfl); (exact Pev.call rfl (by (repeat (first | exact Args.nil | (apply Args.cons rfl; ((first | exact fun _ => rfl | exact fun h => h | (intro h; simp_all; done))))))) (fun _ w2 hw2 => (many_calls _ [] 0 w2).mono (fun e w3 h => ⟨h.1, hw2.ext h.2⟩))))
    apply OL.storeB; rfl; rfl; exact CellsL.agg; rfl; rfl; rfl; apply Swap.z; apply Put.here; apply Over.cons; apply Over.cons; apply Over.cons; apply Over.cons; apply Over.nil
    apply OL.nil
    with_reducible apply At.next
    apply W.ret
    with_reducible apply At.in_ret
    with_reducible apply At.then_ret
    rw [e]
    refine At.finC (b := b0) rfl rfl (.head _) rfl rfl (fun w' hw' => ⟨_, rfl, ⟨_, _, _, _, _, rfl, FnsAt.nil _ _, FnsAt.nil _ _, Fn.type _ _⟩, by (exact hw'.toExt (by (repeat (first | exact List.Mem.head _ | apply List.Mem.tail))) (fun k hk => by (focus ((try simp only [add_block]); (repeat (first | exact NotOwned.nil | exact hno _ (by omega) | refine NotOwned.nothing ?_ | refine NotOwned.nds (hlow _ (by omega)) ?_ | refine NotOwned.mapS (by omega) ?_ | apply NotOwned.bif | refine NotOwned.blk (by omega) ?_ | refine NotOwned.row (by omega) ?_ | refine NotOwned.grid (by assumption) (by omega) ?_)); done))))⟩)
  apply W.reg
  apply obn; rfl; rfl; rfl; apply Bin.eql
  apply oas; rfl; rfl
  apply OL.nil
  with_reducible apply At.next
  (refine W.cond rfl (fun h3b => ?_) (fun h3b => ?_)) <;> (try (simp only [Bool.and_eq_true, Bool.or_eq_true, Bool.not_eq_true', Bool.and_eq_false_iff, Bool.or_eq_false_iff, Bool.not_eq_false', decide_eq_true_eq, decide_eq_false_iff_not, Int.not_lt, Int.not_le] at h3b)) <;> (try (exfalso; first | omega | exact h3b trivial | contradiction))
  · have e : shapeP k = mny typeL 0 := by subst h3b; rfl
    apply W.seq
    apply W.reg
    (((first | (with_reducible apply OL.op) | (with_reducible apply QL.op)); ((first | exact Guard.none | exact Guard.yes rfl rfl | exact Guard.no rfl rfl | exact Guard.cyes rfl rfl | exact Guard.cno rfl rfl)); rfl; rfl); (exact Pev.call rfl (by (repeat (first | exact Args.nil | (apply Args.cons rfl; ((first | exact fun _ => rfl | exact fun h => h | (intro h; simp_all; done))))))) (fun _ w2 hw2 => (many_calls _ [] 0 w2).mono (fun e w3 h => ⟨h.1, hw2.ext h.2⟩))))
    apply OL.storeB; rfl; rfl; exact CellsL.agg; rfl; rfl; rfl; apply Swap.z; apply Put.here; apply Over.cons; apply Over.cons; apply Over.cons; apply Over.cons; apply Over.nil
    apply OL.nil
    with_reducible apply At.next
    apply W.ret
    with_reducible apply At.in_ret
    with_reducible apply At.then_ret
    rw [e]
    refine At.finC (b := b0) rfl rfl (.head _) rfl rfl (fun w' hw' => ⟨_, rfl, ⟨_, _, _, _, _, rfl, FnsAt.nil _ _, FnsAt.nil _ _, Fn.type _ _⟩, by (exact hw'.toExt (by (repeat (first | exact List.Mem.head _ | apply List.Mem.tail))) (fun k hk => by (focus ((try simp only [add_block]); (repeat (first | exact NotOwned.nil | exact hno _ (by omega) | refine NotOwned.nothing ?_ | refine NotOwned.nds (hlow _ (by omega)) ?_ | refine NotOwned.mapS (by omega) ?_ | apply NotOwned.bif | refine NotOwned.blk (by omega) ?_ | refine NotOwned.row (by omega) ?_ | refine NotOwned.grid (by assumption) (by omega) ?_)); done))))⟩)
  apply W.seq
  apply W.reg
  apply obn; rfl; rfl; rfl; apply Bin.eql
  apply oas; rfl; rfl
  apply OL.nil
  with_reducible apply At.next
  (refine W.cond rfl (fun h4 => ?_) (fun h4 => ?_)) <;> (try (simp only [Bool.and_eq_true, Bool.or_eq_true, Bool.not_eq_true', Bool.and_eq_false_iff, Bool.or_eq_false_iff, Bool.not_eq_false', decide_eq_true_eq, decide_eq_false_iff_not, Int.not_lt, Int.not_le] at h4)) <;> (try (exfalso; first | omega | exact h4 trivial | contradiction))
  · have e : shapeP k = mny [8] 0 := by subst h4; rfl
    apply W.seq
    apply W.reg
    refine OL.callFn [8] rfl rfl (by (repeat (first | exact Args.nil | (apply Args.cons rfl; ((first | exact fun _ => rfl | exact fun h => h | (intro h; simp_all; done))))))) (fun wx hwx => a_calls 8 _ wx (owned_lt hwx)) ?_
    intro f1 p1 w1 hv1 hs1
    have hz1 := hs1 w (by (repeat (first | exact List.Mem.head _ | apply List.Mem.tail)))
    skip
    (((first | (with_reducible apply OL.op) | (with_reducible apply QL.op)); ((first | exact Guard.none | exact Guard.yes rfl rfl | exact Guard.no rfl rfl | exact Guard.cyes rfl rfl | exact Guard.cno rfl rfl)); rfl; rfl); (exact Pev.call rfl (by (repeat (first | exact Args.nil | (apply Args.cons rfl; ((first | exact fun _ => rfl | exact fun h => h | (intro h; simp_all; done))))))) (fun _ w2 hw2 => (many_calls _ p1 0 w2).mono (fun e w3 h => ⟨h.1, hw2.ext h.2⟩))))
    apply OL.storeB; rfl; rfl; exact CellsL.agg; rfl; rfl; rfl; apply Swap.z; apply Put.here; apply Over.cons; apply Over.cons; apply Over.cons; apply Over.cons; apply Over.nil
    apply OL.nil
    with_reducible apply At.next
    apply W.ret
    with_reducible apply At.in_ret
    with_reducible apply At.then_ret
    rw [e]
    refine At.finC (b := b0) rfl rfl (.head _) rfl rfl (fun w' hw' => ⟨_, rfl, ⟨_, _, _, _, _, rfl, FnsAt.nil _ _, FnsAt.nil _ _, hv1.out (hw'.toKeep (by (repeat (first | exact List.Mem.head _ | apply List.Mem.tail))) (fun k hk hO => by have hO0 : ¬ k = b0 := fun e => hO (⟨_, .head _, e⟩); (focus ((try simp only [add_block]); (repeat (first | exact NotOwned.nil | exact hno _ (by omega) | refine NotOwned.nothing ?_ | refine NotOwned.nds (hlow _ (by omega)) ?_ | refine NotOwned.mapS (by omega) ?_ | apply NotOwned.bif | refine NotOwned.blk (by omega) ?_ | refine NotOwned.row (by omega) ?_ | refine NotOwned.grid (by assumption) (by omega) ?_)); done))))⟩, by (exact hw'.toExt (by (repeat (first | exact List.Mem.head _ | apply List.Mem.tail))) (fun k hk => by (focus ((try simp only [add_block]); (repeat (first | exact NotOwned.nil | exact hno _ (by omega) | refine NotOwned.nothing ?_ | refine NotOwned.nds (hlow _ (by omega)) ?_ | refine NotOwned.mapS (by omega) ?_ | apply NotOwned.bif | refine NotOwned.blk (by omega) ?_ | refine NotOwned.row (by omega) ?_ | refine NotOwned.grid (by assumption) (by omega) ?_)); done))))⟩)
  apply W.seq
  apply W.reg
  apply obn; rfl; rfl; rfl; apply Bin.eql
  apply oas; rfl; rfl
  apply OL.nil
  with_reducible apply At.next
  (refine W.cond rfl (fun h5 => ?_) (fun h5 => ?_)) <;> (try (simp only [Bool.and_eq_true, Bool.or_eq_true, Bool.not_eq_true', Bool.and_eq_false_iff, Bool.or_eq_false_iff, Bool.not_eq_false', decide_eq_true_eq, decide_eq_false_iff_not, Int.not_lt, Int.not_le] at h5)) <;> (try (exfalso; first | omega | exact h5 trivial | contradiction))
  · have e : shapeP k = lst [typeL, typeL] := by subst h5; rfl
    apply W.seq
    apply W.reg
    apply OL.buildSlice; rfl; rfl; rfl; apply Elems.cons rfl; exact CellsL.one rfl; rfl; apply Elems.cons rfl; exact CellsL.one rfl; rfl; apply Elems.nil; apply App.cons; apply App.nil; apply App.cons; apply App.nil; rfl; rfl; (intro bk hbk; simp only [AllLe, and_true] at hbk)
    (((first | (with_reducible apply OL.op) | (with_reducible apply QL.op)); ((first | exact Guard.none | exact Guard.yes rfl rfl | exact Guard.no rfl rfl | exact Guard.cyes rfl rfl | exact Guard.cno rfl rfl)); rfl; rfl); (exact Pev.call rfl (by (repeat (first | exact Args.nil | (apply Args.cons rfl; ((first | exact fun _ => rfl | exact fun h => h | (intro h; simp_all; done))))))) (fun _ w2 hw2 => (list_calls (some ⟨bk, 0, .none⟩) 2 2 w2).mono (fun e w3 h => ⟨h.1, hw2.ext h.2⟩))))
    apply OL.storeB; rfl; rfl; exact CellsL.agg; rfl; rfl; rfl; apply Swap.s; apply Swap.z; apply Put.here; apply Over.cons; apply Over.cons; apply Over.cons; apply Over.cons; apply Over.nil
    apply OL.nil
    with_reducible apply At.next
    apply W.ret
    with_reducible apply At.in_ret
    with_reducible apply At.then_ret
    rw [e]
    refine At.finC (b := b0) rfl rfl (.tail _ (.head _)) rfl rfl (fun w' hw' => ⟨_, rfl, ⟨_, _, _, _, _, rfl, ⟨[_, _], ⟨Fn.type _ _, Fn.type _ _, trivial⟩, SlAt.of_blk (o := 0) (hw'.item (.head _)) (fun j v hj => by rw [Nat.zero_add]; exact hj)⟩, FnsAt.nil _ _, Fn.none _ _⟩, by (exact hw'.toExt (by (repeat (first | exact List.Mem.head _ | apply List.Mem.tail))) (fun k hk => by (focus ((try simp only [add_block]); (repeat (first | exact NotOwned.nil | exact hno _ (by omega) | refine NotOwned.nothing ?_ | refine NotOwned.nds (hlow _ (by omega)) ?_ | refine NotOwned.mapS (by omega) ?_ | apply NotOwned.bif | refine NotOwned.blk (by omega) ?_ | refine NotOwned.row (by omega) ?_ | refine NotOwned.grid (by assumption) (by omega) ?_)); done))))⟩)
  apply W.seq
  apply W.reg
  apply obn; rfl; rfl; rfl; apply Bin.eql
  apply oas; rfl; rfl
  apply OL.nil
  with_reducible apply At.next
  (refine W.cond rfl (fun h6 => ?_) (fun h6 => ?_)) <;> (try (simp only [Bool.and_eq_true, Bool.or_eq_true, Bool.not_eq_true', Bool.and_eq_false_iff, Bool.or_eq_false_iff, Bool.not_eq_false', decide_eq_true_eq, decide_eq_false_iff_not, Int.not_lt, Int.not_le] at h6)) <;> (try (exfalso; first | omega | exact h6 trivial | contradiction))
  · have e : shapeP k = lst [[14]] := by subst h6; rfl
    apply W.seq
    apply W.reg
    refine OL.callFn [14] rfl rfl (by (repeat (first | exact Args.nil | (apply Args.cons rfl; ((first | exact fun _ => rfl | exact fun h => h | (intro h; simp_all; done))))))) (fun wx hwx => a_calls 14 _ wx (owned_lt hwx)) ?_
    intro f1 p1 w1 hv1 hs1
    have hz1 := hs1 w (by (repeat (first | exact List.Mem.head _ | apply List.Mem.tail)))
    apply OL.buildSlice; rfl; rfl; rfl; apply Elems.cons rfl; exact CellsL.one rfl; rfl; apply Elems.nil; apply App.cons; apply App.nil; rfl; rfl; (intro bk hbk; simp only [AllLe, and_true] at hbk)
    (((first | (with_reducible apply OL.op) | (with_reducible apply QL.op)); ((first | exact Guard.none | exact Guard.yes rfl rfl | exact Guard.no rfl rfl | exact Guard.cyes rfl rfl | exact Guard.cno rfl rfl)); rfl; rfl); (exact Pev.call rfl (by (repeat (first | exact Args.nil | (apply Args.cons rfl; ((first | exact fun _ => rfl | exact fun h => h | (intro h; simp_all; done))))))) (fun _ w2 hw2 => (list_calls (some ⟨bk, 0, .none⟩) 1 1 w2).mono (fun e w3 h => ⟨h.1, hw2.ext h.2⟩))))
    apply OL.storeB; rfl; rfl; exact CellsL.agg; rfl; rfl; rfl; apply Swap.s; apply Swap.z; apply Put.here; apply Over.cons; apply Over.cons; apply Over.cons; apply Over.cons; apply Over.nil
    apply OL.nil
    with_reducible apply At.next
    apply W.ret
    with_reducible apply At.in_ret
    with_reducible apply At.then_ret
    rw [e]
    refine At.finC (b := b0) rfl rfl (.tail _ (.head _)) rfl rfl (fun w' hw' => ⟨_, rfl, ⟨_, _, _, _, _, rfl, ⟨[_], ⟨hv1.out (hw'.toKeep (by (repeat (first | exact List.Mem.head _ | apply List.Mem.tail))) (fun k hk hO => by have hO0 : ¬ k = b0 := fun e => hO (⟨_, .head _, e⟩); (focus ((try simp only [add_block]); (repeat (first | exact NotOwned.nil | exact hno _ (by omega) | refine NotOwned.nothing ?_ | refine NotOwned.nds (hlow _ (by omega)) ?_ | refine NotOwned.mapS (by omega) ?_ | apply NotOwned.bif | refine NotOwned.blk (by omega) ?_ | refine NotOwned.row (by omega) ?_ | refine NotOwned.grid (by assumption) (by omega) ?_)); done)))), trivial⟩, SlAt.of_blk (o := 0) (hw'.item (.head _)) (fun j v hj => by rw [Nat.zero_add]; exact hj)⟩, FnsAt.nil _ _, Fn.none _ _⟩, by (exact hw'.toExt (by (repeat (first | exact List.Mem.head _ | apply List.Mem.tail))) (fun k hk => by (focus ((try simp only [add_block]); (repeat (first | exact NotOwned.nil | exact hno _ (by omega) | refine NotOwned.nothing ?_ | refine NotOwned.nds (hlow _ (by omega)) ?_ | refine NotOwned.mapS (by omega) ?_ | apply NotOwned.bif | refine NotOwned.blk (by omega) ?_ | refine NotOwned.row (by omega) ?_ | refine NotOwned.grid (by assumption) (by omega) ?_)); done))))⟩)
  apply W.seq
  apply W.reg
  apply obn; rfl; rfl; rfl; apply Bin.eql
  apply oas; rfl; rfl
  apply OL.nil
  with_reducible apply At.next
  (refine W.cond rfl (fun h7 => ?_) (fun h7 => ?_)) <;> (try (simp only [Bool.and_eq_true, Bool.or_eq_true, Bool.not_eq_true', Bool.and_eq_false_iff, Bool.or_eq_false_iff, Bool.not_eq_false', decide_eq_true_eq, decide_eq_false_iff_not, Int.not_lt, Int.not_le] at h7)) <;> (try (exfalso; first | omega | exact h7 trivial | contradiction))
  · have e : shapeP k = ⟨[], [typeL], [11], 0⟩ := by subst h7; rfl
    apply W.seq
    apply W.reg
    refine OL.callFn [11] rfl rfl (by (repeat (first | exact Args.nil | (apply Args.cons rfl; ((first | exact fun _ => rfl | exact fun h => h | (intro h; simp_all; done))))))) (fun wx hwx => a_calls 11 _ wx (owned_lt hwx)) ?_
    intro f1 p1 w1 hv1 hs1
    have hz1 := hs1 w (by (repeat (first | exact List.Mem.head _ | apply List.Mem.tail)))
    apply OL.buildSlice; rfl; rfl; rfl; apply Elems.cons rfl; exact CellsL.one rfl; rfl; apply Elems.nil; apply App.cons; apply App.nil; rfl; rfl; (intro bk hbk; simp only [AllLe, and_true] at hbk)
    apply OL.op; exact Guard.none; rfl; rfl; apply Pev.build; rfl; exact CellsL.agg; rfl; apply Fill.cons rfl; exact CellsL.one rfl; rfl; rfl; apply Put.skip; apply Put.skip; apply Put.here; apply Over.cons; apply Over.nil; apply Fill.cons rfl; exact CellsL.one rfl; rfl; rfl; apply Put.skip; apply Put.here; apply Over.cons; apply Over.nil; apply Fill.nil; rfl
    apply OL.storeB; rfl; rfl; exact CellsL.agg; rfl; rfl; rfl; apply Swap.s; apply Swap.z; apply Put.here; apply Over.cons; apply Over.cons; apply Over.cons; apply Over.cons; apply Over.nil
    apply OL.nil
    with_reducible apply At.next
    apply W.ret
    with_reducible apply At.in_ret
    with_reducible apply At.then_ret
    rw [e]
    refine At.finC (b := b0) rfl rfl (.tail _ (.head _)) rfl rfl (fun w' hw' => ⟨_, rfl, ⟨_, _, _, _, _, rfl, FnsAt.nil _ _, ⟨[_], ⟨Fn.type _ _, trivial⟩, SlAt.of_blk (o := 0) (hw'.item (.head _)) (fun j v hj => by rw [Nat.zero_add]; exact hj)⟩, hv1.out (hw'.toKeep (by (repeat (first | exact List.Mem.head _ | apply List.Mem.tail))) (fun k hk hO => by have hO0 : ¬ k = b0 := fun e => hO (⟨_, .head _, e⟩); (focus ((try simp only [add_block]); (repeat (first | exact NotOwned.nil | exact hno _ (by omega) | refine NotOwned.nothing ?_ | refine NotOwned.nds (hlow _ (by omega)) ?_ | refine NotOwned.mapS (by omega) ?_ | apply NotOwned.bif | refine NotOwned.blk (by omega) ?_ | refine NotOwned.row (by omega) ?_ | refine NotOwned.grid (by assumption) (by omega) ?_)); done))))⟩, by (exact hw'.toExt (by (repeat (first | exact List.Mem.head _ | apply List.Mem.tail))) (fun k hk => by (focus ((try simp only [add_block]); (repeat (first | exact NotOwned.nil | exact hno _ (by omega) | refine NotOwned.nothing ?_ | refine NotOwned.nds (hlow _ (by omega)) ?_ | refine NotOwned.mapS (by omega) ?_ | apply NotOwned.bif | refine NotOwned.blk (by omega) ?_ | refine NotOwned.row (by omega) ?_ | refine NotOwned.grid (by assumption) (by omega) ?_)); done))))⟩)
  apply W.seq
  apply W.seq
  apply W.reg
  apply obn; rfl; rfl; rfl; apply Bin.eql
  apply oas; rfl; rfl
  apply OL.nil
  with_reducible apply At.next
  (refine W.cond rfl (fun h8a => ?_) (fun h8a => ?_)) <;> (try (simp only [Bool.and_eq_true, Bool.or_eq_true, Bool.not_eq_true', Bool.and_eq_false_iff, Bool.or_eq_false_iff, Bool.not_eq_false', decide_eq_true_eq, decide_eq_false_iff_not, Int.not_lt, Int.not_le] at h8a)) <;> (try (exfalso; first | omega | exact h8a trivial | contradiction))
  · have e : shapeP k = lst [exprL] := by subst h8a; rfl
    apply W.skip
    with_reducible apply At.next
    (refine W.cond rfl (fun h8c => ?_) (fun h8c => ?_)) <;> (try (simp only [Bool.and_eq_true, Bool.or_eq_true, Bool.not_eq_true', Bool.and_eq_false_iff, Bool.or_eq_false_iff, Bool.not_eq_false', decide_eq_true_eq, decide_eq_false_iff_not, Int.not_lt, Int.not_le] at h8c)) <;> (try (exfalso; first | omega | exact h8c trivial | contradiction))
    apply W.seq
    apply W.reg
    apply OL.buildSlice; rfl; rfl; rfl; apply Elems.cons rfl; exact CellsL.one rfl; rfl; apply Elems.nil; apply App.cons; apply App.nil; rfl; rfl; (intro bk hbk; simp only [AllLe, and_true] at hbk)
    (((first | (with_reducible apply OL.op) | (with_reducible apply QL.op)); ((first | exact Guard.none | exact Guard.yes rfl rfl | exact Guard.no rfl rfl | exact Guard.cyes rfl rfl | exact Guard.cno rfl rfl)); rfl; rfl); (exact Pev.call rfl (by (repeat (first | exact Args.nil | (apply Args.cons rfl; ((first | exact fun _ => rfl | exact fun h => h | (intro h; simp_all; done))))))) (fun _ w2 hw2 => (list_calls (some ⟨bk, 0, .none⟩) 1 1 w2).mono (fun e w3 h => ⟨h.1, hw2.ext h.2⟩))))
    apply OL.storeB; rfl; rfl; exact CellsL.agg; rfl; rfl; rfl; apply Swap.s; apply Swap.z; apply Put.here; apply Over.cons; apply Over.cons; apply Over.cons; apply Over.cons; apply Over.nil
    apply OL.nil
    with_reducible apply At.next
    apply W.ret
    with_reducible apply At.in_ret
    with_reducible apply At.then_ret
    rw [e]
    refine At.finC (b := b0) rfl rfl (.tail _ (.head _)) rfl rfl (fun w' hw' => ⟨_, rfl, ⟨_, _, _, _, _, rfl, ⟨[_], ⟨Fn.expr _ _, trivial⟩, SlAt.of_blk (o := 0) (hw'.item (.head _)) (fun j v hj => by rw [Nat.zero_add]; exact hj)⟩, FnsAt.nil _ _, Fn.none _ _⟩, by (exact hw'.toExt (by (repeat (first | exact List.Mem.head _ | apply List.Mem.tail))) (fun k hk => by (focus ((try simp only [add_block]); (repeat (first | exact NotOwned.nil | exact hno _ (by omega) | refine NotOwned.nothing ?_ | refine NotOwned.nds (hlow _ (by omega)) ?_ | refine NotOwned.mapS (by omega) ?_ | apply NotOwned.bif | refine NotOwned.blk (by omega) ?_ | refine NotOwned.row (by omega) ?_ | refine NotOwned.grid (by assumption) (by omega) ?_)); done))))⟩)
  apply W.reg
  apply obn; rfl; rfl; rfl; apply Bin.eql
  apply oas; rfl; rfl
  apply OL.nil
  with_reducible apply At.next
  (refine W.cond rfl (fun h8b => ?_) (fun h8b => ?_)) <;> (try (simp only [Bool.and_eq_true, Bool.or_eq_true, Bool.not_eq_true', Bool.and_eq_false_iff, Bool.or_eq_false_iff, Bool.not_eq_false', decide_eq_true_eq, decide_eq_false_iff_not, Int.not_lt, Int.not_le] at h8b)) <;> (try (exfalso; first | omega | exact h8b trivial | contradiction))
  · have e : shapeP k = lst [exprL] := by subst h8b; rfl
    apply W.seq
    apply W.reg
    apply OL.buildSlice; rfl; rfl; rfl; apply Elems.cons rfl; exact CellsL.one rfl; rfl; apply Elems.nil; apply App.cons; apply App.nil; rfl; rfl; (intro bk hbk; simp only [AllLe, and_true] at hbk)
    (((first | (with_reducible apply OL.op) | (with_reducible apply QL.op)); ((first | exact Guard.none | exact Guard.yes rfl rfl | exact Guard.no rfl rfl | exact Guard.cyes rfl rfl | exact Guard.cno rfl rfl)); rfl; rfl); (exact Pev.call rfl (by (repeat (first | exact Args.nil | (apply Args.cons rfl; ((first | exact fun _ => rfl | exact fun h => h | (intro h; simp_all; done))))))) (fun _ w2 hw2 => (list_calls (some ⟨bk, 0, .none⟩) 1 1 w2).mono (fun e w3 h => ⟨h.1, hw2.ext h.2⟩))))
    apply OL.storeB; rfl; rfl; exact CellsL.agg; rfl; rfl; rfl; apply Swap.s; apply Swap.z; apply Put.here; apply Over.cons; apply Over.cons; apply Over.cons; apply Over.cons; apply Over.nil
    apply OL.nil
    with_reducible apply At.next
    apply W.ret
    with_reducible apply At.in_ret
    with_reducible apply At.then_ret
    rw [e]
    refine At.finC (b := b0) rfl rfl (.tail _ (.head _)) rfl rfl (fun w' hw' => ⟨_, rfl, ⟨_, _, _, _, _, rfl, ⟨[_], ⟨Fn.expr _ _, trivial⟩, SlAt.of_blk (o := 0) (hw'.item (.head _)) (fun j v hj => by rw [Nat.zero_add]; exact hj)⟩, FnsAt.nil _ _, Fn.none _ _⟩, by (exact hw'.toExt (by (repeat (first | exact List.Mem.head _ | apply List.Mem.tail))) (fun k hk => by (focus ((try simp only [add_block]); (repeat (first | exact NotOwned.nil | exact hno _ (by omega) | refine NotOwned.nothing ?_ | refine NotOwned.nds (hlow _ (by omega)) ?_ | refine NotOwned.mapS (by omega) ?_ | apply NotOwned.bif | refine NotOwned.blk (by omega) ?_ | refine NotOwned.row (by omega) ?_ | refine NotOwned.grid (by assumption) (by omega) ?_)); done))))⟩)
  apply W.seq
  apply W.reg
  apply obn; rfl; rfl; rfl; apply Bin.eql
  apply oas; rfl; rfl
  apply OL.nil
  with_reducible apply At.next
  (refine W.cond rfl (fun h9 => ?_) (fun h9 => ?_)) <;> (try (simp only [Bool.and_eq_true, Bool.or_eq_true, Bool.not_eq_true', Bool.and_eq_false_iff, Bool.or_eq_false_iff, Bool.not_eq_false', decide_eq_true_eq, decide_eq_false_iff_not, Int.not_lt, Int.not_le] at h9)) <;> (try (exfalso; first | omega | exact h9 trivial | contradiction))
  · have e : shapeP k = lst [typeL, [18], typeL] := by subst h9; rfl
    apply W.seq
    apply W.reg
    refine OL.callFn [18] rfl rfl (by (repeat (first | exact Args.nil | (apply Args.cons rfl; ((first | exact fun _ => rfl | exact fun h => h | (intro h; simp_all; done))))))) (fun wx hwx => a_calls 18 _ wx (owned_lt hwx)) ?_
    intro f1 p1 w1 hv1 hs1
    have hz1 := hs1 w (by (repeat (first | exact List.Mem.head _ | apply List.Mem.tail)))
    apply OL.buildSlice; rfl; rfl; rfl; apply Elems.cons rfl; exact CellsL.one rfl; rfl; apply Elems.cons rfl; exact CellsL.one rfl; rfl; apply Elems.cons rfl; exact CellsL.one rfl; rfl; apply Elems.nil; apply App.cons; apply App.nil; apply App.cons; apply App.nil; apply App.cons; apply App.nil; rfl; rfl; (intro bk hbk; simp only [AllLe, and_true] at hbk)
    (((first | (with_reducible apply OL.op) | (with_reducible apply QL.op)); ((first | exact Guard.none | exact Guard.yes rfl rfl | exact Guard.no rfl rfl | exact Guard.cyes rfl rfl | exact Guard.cno rfl rfl)); rfl; rfl); (exact Pev.call rfl (by (repeat (first | exact Args.nil | (apply Args.cons rfl; ((first | exact fun _ => rfl | exact fun h => h | (intro h; simp_all; done))))))) (fun _ w2 hw2 => (list_calls (some ⟨bk, 0, .none⟩) 3 3 w2).mono (fun e w3 h => ⟨h.1, hw2.ext h.2⟩))))
    apply OL.storeB; rfl; rfl; exact CellsL.agg; rfl; rfl; rfl; apply Swap.s; apply Swap.z; apply Put.here; apply Over.cons; apply Over.cons; apply Over.cons; apply Over.cons; apply Over.nil
    apply OL.nil
    with_reducible apply At.next
    apply W.ret
    with_reducible apply At.in_ret
    with_reducible apply At.then_ret
    rw [e]
    refine At.finC (b := b0) rfl rfl (.tail _ (.head _)) rfl rfl (fun w' hw' => ⟨_, rfl, ⟨_, _, _, _, _, rfl, ⟨[_, _, _], ⟨Fn.type _ _, hv1.out (hw'.toKeep (by (repeat (first | exact List.Mem.head _ | apply List.Mem.tail))) (fun k hk hO => by have hO0 : ¬ k = b0 := fun e => hO (⟨_, .head _, e⟩); (focus ((try simp only [add_block]); (repeat (first | exact NotOwned.nil | exact hno _ (by omega) | refine NotOwned.nothing ?_ | refine NotOwned.nds (hlow _ (by omega)) ?_ | refine NotOwned.mapS (by omega) ?_ | apply NotOwned.bif | refine NotOwned.blk (by omega) ?_ | refine NotOwned.row (by omega) ?_ | refine NotOwned.grid (by assumption) (by omega) ?_)); done)))), Fn.type _ _, trivial⟩, SlAt.of_blk (o := 0) (hw'.item (.head _)) (fun j v hj => by rw [Nat.zero_add]; exact hj)⟩, FnsAt.nil _ _, Fn.none _ _⟩, by (exact hw'.toExt (by (repeat (first | exact List.Mem.head _ | apply List.Mem.tail))) (fun k hk => by (focus ((try simp only [add_block]); (repeat (first | exact NotOwned.nil | exact hno _ (by omega) | refine NotOwned.nothing ?_ | refine NotOwned.nds (hlow _ (by omega)) ?_ | refine NotOwned.mapS (by omega) ?_ | apply NotOwned.bif | refine NotOwned.blk (by omega) ?_ | refine NotOwned.row (by omega) ?_ | refine NotOwned.grid (by assumption) (by omega) ?_)); done))))⟩)
  apply W.seq
  apply W.reg
  apply obn; rfl; rfl; rfl; apply Bin.eql
  apply oas; rfl; rfl
  apply OL.nil
  with_reducible apply At.next
  (refine W.cond rfl (fun h10 => ?_) (fun h10 => ?_)) <;> (try (simp only [Bool.and_eq_true, Bool.or_eq_true, Bool.not_eq_true', Bool.and_eq_false_iff, Bool.or_eq_false_iff, Bool.not_eq_false', decide_eq_true_eq, decide_eq_false_iff_not, Int.not_lt, Int.not_le] at h10)) <;> (try (exfalso; first | omega | exact h10 trivial | contradiction))
  · have e : shapeP k = lst [typeL ++ exprL] := by subst h10; rfl
    apply W.seq
    apply W.reg
    refine OL.callFn (typeL ++ exprL) rfl rfl (by (repeat (first | exact Args.nil | (apply Args.cons rfl; ((first | exact fun _ => rfl | exact fun h => h | (intro h; simp_all; done))))))) (fun wx hwx => either_calls (typeL) (exprL) _ _ _ wx (owned_lt hwx) (Fn.type _ _) (Fn.expr _ _)) ?_
    intro f1 p1 w1 hv1 hs1
    have hz1 := hs1 w (by (repeat (first | exact List.Mem.head _ | apply List.Mem.tail)))
    apply OL.buildSlice; rfl; rfl; rfl; apply Elems.cons rfl; exact CellsL.one rfl; rfl; apply Elems.nil; apply App.cons; apply App.nil; rfl; rfl; (intro bk hbk; simp only [AllLe, and_true] at hbk)
    (((first | (with_reducible apply OL.op) | (with_reducible apply QL.op)); ((first | exact Guard.none | exact Guard.yes rfl rfl | exact Guard.no rfl rfl | exact Guard.cyes rfl rfl | exact Guard.cno rfl rfl)); rfl; rfl); (exact Pev.call rfl (by (repeat (first | exact Args.nil | (apply Args.cons rfl; ((first | exact fun _ => rfl | exact fun h => h | (intro h; simp_all; done))))))) (fun _ w2 hw2 => (list_calls (some ⟨bk, 0, .none⟩) 1 1 w2).mono (fun e w3 h => ⟨h.1, hw2.ext h.2⟩))))
    apply OL.storeB; rfl; rfl; exact CellsL.agg; rfl; rfl; rfl; apply Swap.s; apply Swap.z; apply Put.here; apply Over.cons; apply Over.cons; apply Over.cons; apply Over.cons; apply Over.nil
    apply OL.nil
    with_reducible apply At.next
    apply W.ret
    with_reducible apply At.in_ret
    with_reducible apply At.then_ret
    rw [e]
    refine At.finC (b := b0) rfl rfl (.tail _ (.head _)) rfl rfl (fun w' hw' => ⟨_, rfl, ⟨_, _, _, _, _, rfl, ⟨[_], ⟨hv1.out (hw'.toKeep (by (repeat (first | exact List.Mem.head _ | apply List.Mem.tail))) (fun k hk hO => by have hO0 : ¬ k = b0 := fun e => hO (⟨_, .head _, e⟩); (focus ((try simp only [add_block]); (repeat (first | exact NotOwned.nil | exact hno _ (by omega) | refine NotOwned.nothing ?_ | refine NotOwned.nds (hlow _ (by omega)) ?_ | refine NotOwned.mapS (by omega) ?_ | apply NotOwned.bif | refine NotOwned.blk (by omega) ?_ | refine NotOwned.row (by omega) ?_ | refine NotOwned.grid (by assumption) (by omega) ?_)); done)))), trivial⟩, SlAt.of_blk (o := 0) (hw'.item (.head _)) (fun j v hj => by rw [Nat.zero_add]; exact hj)⟩, FnsAt.nil _ _, Fn.none _ _⟩, by (exact hw'.toExt (by (repeat (first | exact List.Mem.head _ | apply List.Mem.tail))) (fun k hk => by (focus ((try simp only [add_block]); (repeat (first | exact NotOwned.nil | exact hno _ (by omega) | refine NotOwned.nothing ?_ | refine NotOwned.nds (hlow _ (by omega)) ?_ | refine NotOwned.mapS (by omega) ?_ | apply NotOwned.bif | refine NotOwned.blk (by omega) ?_ | refine NotOwned.row (by omega) ?_ | refine NotOwned.grid (by assumption) (by omega) ?_)); done))))⟩)
  apply W.seq
  apply W.reg
  apply obn; rfl; rfl; rfl; apply Bin.eql
  apply oas; rfl; rfl
  apply OL.nil
  with_reducible apply At.next
  (refine W.cond rfl (fun h11 => ?_) (fun h11 => ?_)) <;> (try (simp only [Bool.and_eq_true, Bool.or_eq_true, Bool.not_eq_true', Bool.and_eq_false_iff, Bool.or_eq_false_iff, Bool.not_eq_false', decide_eq_true_eq, decide_eq_false_iff_not, Int.not_lt, Int.not_le] at h11)) <;> (try (exfalso; first | omega | exact h11 trivial | contradiction))
  · have e : shapeP k = ⟨[], [exprL], parL, 1⟩ := by subst h11; rfl
    apply W.seq
    apply W.reg
    apply OL.buildSlice; rfl; rfl; rfl; apply Elems.cons rfl; exact CellsL.one rfl; rfl; apply Elems.nil; apply App.cons; apply App.nil; rfl; rfl; (intro bk hbk; simp only [AllLe, and_true] at hbk)
    apply OL.op; exact Guard.none; rfl; rfl; apply Pev.build; rfl; exact CellsL.agg; rfl; apply Fill.cons rfl; exact CellsL.one rfl; rfl; rfl; apply Put.skip; apply Put.skip; apply Put.here; apply Over.cons; apply Over.nil; apply Fill.cons rfl; exact CellsL.one rfl; rfl; rfl; apply Put.skip; apply Put.skip; apply Put.skip; apply Put.here; apply Over.cons; apply Over.nil; apply Fill.cons rfl; exact CellsL.one rfl; rfl; rfl; apply Put.skip; apply Put.here; apply Over.cons; apply Over.nil; apply Fill.nil; rfl
    apply OL.storeB; rfl; rfl; exact CellsL.agg; rfl; rfl; rfl; apply Swap.s; apply Swap.z; apply Put.here; apply Over.cons; apply Over.cons; apply Over.cons; apply Over.cons; apply Over.nil
    apply OL.nil
    with_reducible apply At.next
    apply W.ret
    with_reducible apply At.in_ret
    with_reducible apply At.then_ret
    rw [e]
    refine At.finC (b := b0) rfl rfl (.tail _ (.head _)) rfl rfl (fun w' hw' => ⟨_, rfl, ⟨_, _, _, _, _, rfl, FnsAt.nil _ _, ⟨[_], ⟨Fn.expr _ _, trivial⟩, SlAt.of_blk (o := 0) (hw'.item (.head _)) (fun j v hj => by rw [Nat.zero_add]; exact hj)⟩, Fn.par _ _⟩, by (exact hw'.toExt (by (repeat (first | exact List.Mem.head _ | apply List.Mem.tail))) (fun k hk => by (focus ((try simp only [add_block]); (repeat (first | exact NotOwned.nil | exact hno _ (by omega) | refine NotOwned.nothing ?_ | refine NotOwned.nds (hlow _ (by omega)) ?_ | refine NotOwned.mapS (by omega) ?_ | apply NotOwned.bif | refine NotOwned.blk (by omega) ?_ | refine NotOwned.row (by omega) ?_ | refine NotOwned.grid (by assumption) (by omega) ?_)); done))))⟩)
  apply W.seq
  apply W.seq
  apply W.reg
  apply obn; rfl; rfl; rfl; apply Bin.eql
  apply oas; rfl; rfl
  apply OL.nil
  with_reducible apply At.next
  (refine W.cond rfl (fun h12a => ?_) (fun h12a => ?_)) <;> (try (simp only [Bool.and_eq_true, Bool.or_eq_true, Bool.not_eq_true', Bool.and_eq_false_iff, Bool.or_eq_false_iff, Bool.not_eq_false', decide_eq_true_eq, decide_eq_false_iff_not, Int.not_lt, Int.not_le] at h12a)) <;> (try (exfalso; first | omega | exact h12a trivial | contradiction))
  · have e : shapeP k = lst [exprL, exprL] := by subst h12a; rfl
    apply W.skip
    with_reducible apply At.next
    (refine W.cond rfl (fun h12c => ?_) (fun h12c => ?_)) <;> (try (simp only [Bool.and_eq_true, Bool.or_eq_true, Bool.not_eq_true', Bool.and_eq_false_iff, Bool.or_eq_false_iff, Bool.not_eq_false', decide_eq_true_eq, decide_eq_false_iff_not, Int.not_lt, Int.not_le] at h12c)) <;> (try (exfalso; first | omega | exact h12c trivial | contradiction))
    apply W.seq
    apply W.reg
    apply OL.buildSlice; rfl; rfl; rfl; apply Elems.cons rfl; exact CellsL.one rfl; rfl; apply Elems.cons rfl; exact CellsL.one rfl; rfl; apply Elems.nil; apply App.cons; apply App.nil; apply App.cons; apply App.nil; rfl; rfl; (intro bk hbk; simp only [AllLe, and_true] at hbk)
    (((first | (with_reducible apply OL.op) | (with_reducible apply QL.op)); ((first | exact Guard.none | exact Guard.yes rfl rfl | exact Guard.no rfl rfl | exact Guard.cyes rfl rfl | exact Guard.cno rfl rfl)); rfl; rfl); (exact Pev.call rfl (by (repeat (first | exact Args.nil | (apply Args.cons rfl; ((first | exact fun _ => rfl | exact fun h => h | (intro h; simp_all; done))))))) (fun _ w2 hw2 => (list_calls (some ⟨bk, 0, .none⟩) 2 2 w2).mono (fun e w3 h => ⟨h.1, hw2.ext h.2⟩))))
    apply OL.storeB; rfl; rfl; exact CellsL.agg; rfl; rfl; rfl; apply Swap.s; apply Swap.z; apply Put.here; apply Over.cons; apply Over.cons; apply Over.cons; apply Over.cons; apply Over.nil
    apply OL.nil
    with_reducible apply At.next
    apply W.ret
    with_reducible apply At.in_ret
    with_reducible apply At.then_ret
    rw [e]
    refine At.finC (b := b0) rfl rfl (.tail _ (.head _)) rfl rfl (fun w' hw' => ⟨_, rfl, ⟨_, _, _, _, _, rfl, ⟨[_, _], ⟨Fn.expr _ _, Fn.expr _ _, trivial⟩, SlAt.of_blk (o := 0) (hw'.item (.head _)) (fun j v hj => by rw [Nat.zero_add]; exact hj)⟩, FnsAt.nil _ _, Fn.none _ _⟩, by (exact hw'.toExt (by (repeat (first | exact List.Mem.head _ | apply List.Mem.tail))) (fun k hk => by (focus ((try simp only [add_block]); (repeat (first | exact NotOwned.nil | exact hno _ (by omega) | refine NotOwned.nothing ?_ | refine NotOwned.nds (hlow _ (by omega)) ?_ | refine NotOwned.mapS (by omega) ?_ | apply NotOwned.bif | refine NotOwned.blk (by omega) ?_ | refine NotOwned.row (by omega) ?_ | refine NotOwned.grid (by assumption) (by omega) ?_)); done))))⟩)
  apply W.reg
  apply obn; rfl; rfl; rfl; apply Bin.eql
  apply oas; rfl; rfl
  apply OL.nil
  with_reducible apply At.next
  (refine W.cond rfl (fun h12b => ?_) (fun h12b => ?_)) <;> (try (simp only [Bool.and_eq_true, Bool.or_eq_true, Bool.not_eq_true', Bool.and_eq_false_iff, Bool.or_eq_false_iff, Bool.not_eq_false', decide_eq_true_eq, decide_eq_false_iff_not, Int.not_lt, Int.not_le] at h12b)) <;> (try (exfalso; first | omega | exact h12b trivial | contradiction))
  · have e : shapeP k = lst [exprL, exprL] := by subst h12b; rfl
    apply W.seq
    apply W.reg
    apply OL.buildSlice; rfl; rfl; rfl; apply Elems.cons rfl; exact CellsL.one rfl; rfl; apply Elems.cons rfl; exact CellsL.one rfl; rfl; apply Elems.nil; apply App.cons; apply App.nil; apply App.cons; apply App.nil; rfl; rfl; (intro bk hbk; simp only [AllLe, and_true] at hbk)
    (((first | (with_reducible apply OL.op) | (with_reducible apply QL.op)); ((first | exact Guard.none | exact Guard.yes rfl rfl | exact Guard.no rfl rfl | exact Guard.cyes rfl rfl | exact Guard.cno rfl rfl)); rfl; rfl); (exact Pev.call rfl (by (repeat (first | exact Args.nil | (apply Args.cons rfl; ((first | exact fun _ => rfl | exact fun h => h | (intro h; simp_all; done))))))) (fun _ w2 hw2 => (list_calls (some ⟨bk, 0, .none⟩) 2 2 w2).mono (fun e w3 h => ⟨h.1, hw2.ext h.2⟩))))
    apply OL.storeB; rfl; rfl; exact CellsL.agg; rfl; rfl; rfl; apply Swap.s; apply Swap.z; apply Put.here; apply Over.cons; apply Over.cons; apply Over.cons; apply Over.cons; apply Over.nil
    apply OL.nil
    with_reducible apply At.next
    apply W.ret
    with_reducible apply At.in_ret
    with_reducible apply At.then_ret
    rw [e]
    refine At.finC (b := b0) rfl rfl (.tail _ (.head _)) rfl rfl (fun w' hw' => ⟨_, rfl, ⟨_, _, _, _, _, rfl, ⟨[_, _], ⟨Fn.expr _ _, Fn.expr _ _, trivial⟩, SlAt.of_blk (o := 0) (hw'.item (.head _)) (fun j v hj => by rw [Nat.zero_add]; exact hj)⟩, FnsAt.nil _ _, Fn.none _ _⟩, by (exact hw'.toExt (by (repeat (first | exact List.Mem.head _ | apply List.Mem.tail))) (fun k hk => by (focus ((try simp only [add_block]); (repeat (first | exact NotOwned.nil | exact hno _ (by omega) | refine NotOwned.nothing ?_ | refine NotOwned.nds (hlow _ (by omega)) ?_ | refine NotOwned.mapS (by omega) ?_ | apply NotOwned.bif | refine NotOwned.blk (by omega) ?_ | refine NotOwned.row (by omega) ?_ | refine NotOwned.grid (by assumption) (by omega) ?_)); done))))⟩)
  apply W.seq
  apply W.reg
  apply obn; rfl; rfl; rfl; apply Bin.eql
  apply oas; rfl; rfl
  apply OL.nil
  with_reducible apply At.next
  (refine W.cond rfl (fun h13 => ?_) (fun h13 => ?_)) <;> (try (simp only [Bool.and_eq_true, Bool.or_eq_true, Bool.not_eq_true', Bool.and_eq_false_iff, Bool.or_eq_false_iff, Bool.not_eq_false', decide_eq_true_eq, decide_eq_false_iff_not, Int.not_lt, Int.not_le] at h13)) <;> (try (exfalso; first | omega | exact h13 trivial | contradiction))
  · have e : shapeP k = ⟨[], [exprL], [13] ++ [12], 0⟩ := by subst h13; rfl
    apply W.seq
    apply W.reg
    refine OL.callFn [13] rfl rfl (by (repeat (first | exact Args.nil | (apply Args.cons rfl; ((first | exact fun _ => rfl | exact fun h => h | (intro h; simp_all; done))))))) (fun wx hwx => a_calls 13 _ wx (owned_lt hwx)) ?_
    intro f1 p1 w1 hv1 hs1
    have hz1 := hs1 w (by (repeat (first | exact List.Mem.head _ | apply List.Mem.tail)))
    skip
    refine OL.callFn [12] rfl rfl (by (repeat (first | exact Args.nil | (apply Args.cons rfl; ((first | exact fun _ => rfl | exact fun h => h | (intro h; simp_all; done))))))) (fun wx hwx => a_calls 12 _ wx (owned_lt hwx)) ?_
    intro f2 p2 w2 hv2 hs2
    have hz2 := hs2 w (by (repeat (first | exact List.Mem.head _ | apply List.Mem.tail)))
    skip
    refine OL.callFn ([13] ++ [12]) rfl rfl (by (repeat (first | exact Args.nil | (apply Args.cons rfl; ((first | exact fun _ => rfl | exact fun h => h | (intro h; simp_all; done))))))) (fun wx hwx => either_calls ([13]) ([12]) _ _ _ wx (owned_lt hwx) (hv1.keep (hwx.kp w1 (by (repeat (first | exact List.Mem.head _ | apply List.Mem.tail))))) (hv2.keep (hwx.kp w2 (by (repeat (first | exact List.Mem.head _ | apply List.Mem.tail)))))) ?_
    intro f3 p3 w3 hv3 hs3
    have hz3 := hs3 w (by (repeat (first | exact List.Mem.head _ | apply List.Mem.tail)))
    apply OL.buildSlice; rfl; rfl; rfl; apply Elems.cons rfl; exact CellsL.one rfl; rfl; apply Elems.nil; apply App.cons; apply App.nil; rfl; rfl; (intro bk hbk; simp only [AllLe, and_true] at hbk)
    apply OL.op; exact Guard.none; rfl; rfl; apply Pev.build; rfl; exact CellsL.agg; rfl; apply Fill.cons rfl; exact CellsL.one rfl; rfl; rfl; apply Put.skip; apply Put.skip; apply Put.here; apply Over.cons; apply Over.nil; apply Fill.cons rfl; exact CellsL.one rfl; rfl; rfl; apply Put.skip; apply Put.here; apply Over.cons; apply Over.nil; apply Fill.nil; rfl
    apply OL.storeB; rfl; rfl; exact CellsL.agg; rfl; rfl; rfl; apply Swap.s; apply Swap.z; apply Put.here; apply Over.cons; apply Over.cons; apply Over.cons; apply Over.cons; apply Over.nil
    apply OL.nil
    with_reducible apply At.next
    apply W.ret
    with_reducible apply At.in_ret
    with_reducible apply At.then_ret
    rw [e]
    refine At.finC (b := b0) rfl rfl (.tail _ (.head _)) rfl rfl (fun w' hw' => ⟨_, rfl, ⟨_, _, _, _, _, rfl, FnsAt.nil _ _, ⟨[_], ⟨Fn.expr _ _, trivial⟩, SlAt.of_blk (o := 0) (hw'.item (.head _)) (fun j v hj => by rw [Nat.zero_add]; exact hj)⟩, hv3.out (hw'.toKeep (by (repeat (first | exact List.Mem.head _ | apply List.Mem.tail))) (fun k hk hO => by have hO0 : ¬ k = b0 := fun e => hO (⟨_, .head _, e⟩); (focus ((try simp only [add_block]); (repeat (first | exact NotOwned.nil | exact hno _ (by omega) | refine NotOwned.nothing ?_ | refine NotOwned.nds (hlow _ (by omega)) ?_ | refine NotOwned.mapS (by omega) ?_ | apply NotOwned.bif | refine NotOwned.blk (by omega) ?_ | refine NotOwned.row (by omega) ?_ | refine NotOwned.grid (by assumption) (by omega) ?_)); done))))⟩, by (exact hw'.toExt (by (repeat (first | exact List.Mem.head _ | apply List.Mem.tail))) (fun k hk => by (focus ((try simp only [add_block]); (repeat (first | exact NotOwned.nil | exact hno _ (by omega) | refine NotOwned.nothing ?_ | refine NotOwned.nds (hlow _ (by omega)) ?_ | refine NotOwned.mapS (by omega) ?_ | apply NotOwned.bif | refine NotOwned.blk (by omega) ?_ | refine NotOwned.row (by omega) ?_ | refine NotOwned.grid (by assumption) (by omega) ?_)); done))))⟩)
  apply W.seq
  apply W.reg
  apply obn; rfl; rfl; rfl; apply Bin.eql
  apply oas; rfl; rfl
  apply OL.nil
  with_reducible apply At.next
  (refine W.cond rfl (fun h14 => ?_) (fun h14 => ?_)) <;> (try (simp only [Bool.and_eq_true, Bool.or_eq_true, Bool.not_eq_true', Bool.and_eq_false_iff, Bool.or_eq_false_iff, Bool.not_eq_false', decide_eq_true_eq, decide_eq_false_iff_not, Int.not_lt, Int.not_le] at h14)) <;> (try (exfalso; first | omega | exact h14 trivial | contradiction))
  · have e : shapeP k = lst [exprL, exprL, exprL] := by subst h14; rfl
    apply W.seq
    apply W.reg
    apply OL.buildSlice; rfl; rfl; rfl; apply Elems.cons rfl; exact CellsL.one rfl; rfl; apply Elems.cons rfl; exact CellsL.one rfl; rfl; apply Elems.cons rfl; exact CellsL.one rfl; rfl; apply Elems.nil; apply App.cons; apply App.nil; apply App.cons; apply App.nil; apply App.cons; apply App.nil; rfl; rfl; (intro bk hbk; simp only [AllLe, and_true] at hbk)
    (((first | (with_reducible apply OL.op) | (with_reducible apply QL.op)); ((first | exact Guard.none | exact Guard.yes rfl rfl | exact Guard.no rfl rfl | exact Guard.cyes rfl rfl | exact Guard.cno rfl rfl)); rfl; rfl); (exact Pev.call rfl (by (repeat (first | exact Args.nil | (apply Args.cons rfl; ((first | exact fun _ => rfl | exact fun h => h | (intro h; simp_all; done))))))) (fun _ w2 hw2 => (list_calls (some ⟨bk, 0, .none⟩) 3 3 w2).mono (fun e w3 h => ⟨h.1, hw2.ext h.2⟩))))
    apply OL.storeB; rfl; rfl; exact CellsL.agg; rfl; rfl; rfl; apply Swap.s; apply Swap.z; apply Put.here; apply Over.cons; apply Over.cons; apply Over.cons; apply Over.cons; apply Over.nil
    apply OL.nil
    with_reducible apply At.next
    apply W.ret
    with_reducible apply At.in_ret
    with_reducible apply At.then_ret
    rw [e]
    refine At.finC (b := b0) rfl rfl (.tail _ (.head _)) rfl rfl (fun w' hw' => ⟨_, rfl, ⟨_, _, _, _, _, rfl, ⟨[_, _, _], ⟨Fn.expr _ _, Fn.expr _ _, Fn.expr _ _, trivial⟩, SlAt.of_blk (o := 0) (hw'.item (.head _)) (fun j v hj => by rw [Nat.zero_add]; exact hj)⟩, FnsAt.nil _ _, Fn.none _ _⟩, by (exact hw'.toExt (by (repeat (first | exact List.Mem.head _ | apply List.Mem.tail))) (fun k hk => by (focus ((try simp only [add_block]); (repeat (first | exact NotOwned.nil | exact hno _ (by omega) | refine NotOwned.nothing ?_ | refine NotOwned.nds (hlow _ (by omega)) ?_ | refine NotOwned.mapS (by omega) ?_ | apply NotOwned.bif | refine NotOwned.blk (by omega) ?_ | refine NotOwned.row (by omega) ?_ | refine NotOwned.grid (by assumption) (by omega) ?_)); done))))⟩)
  apply W.seq
  apply W.reg
  apply obn; rfl; rfl; rfl; apply Bin.eql
  apply oas; rfl; rfl
  apply OL.nil
  with_reducible apply At.next
  (refine W.cond rfl (fun h15 => ?_) (fun h15 => ?_)) <;> (try (simp only [Bool.and_eq_true, Bool.or_eq_true, Bool.not_eq_true', Bool.and_eq_false_iff, Bool.or_eq_false_iff, Bool.not_eq_false', decide_eq_true_eq, decide_eq_false_iff_not, Int.not_lt, Int.not_le] at h15)) <;> (try (exfalso; first | omega | exact h15 trivial | contradiction))
  · have e : shapeP k = ⟨[exprL], [], [28], 0⟩ := by subst h15; rfl
    apply W.seq
    apply W.reg
    apply OL.buildSlice; rfl; rfl; rfl; apply Elems.cons rfl; exact CellsL.one rfl; rfl; apply Elems.nil; apply App.cons; apply App.nil; rfl; rfl; (intro bk hbk; simp only [AllLe, and_true] at hbk)
    refine OL.callFn [28] rfl rfl (by (repeat (first | exact Args.nil | (apply Args.cons rfl; ((first | exact fun _ => rfl | exact fun h => h | (intro h; simp_all; done))))))) (fun wx hwx => a_calls 28 _ wx (owned_lt hwx)) ?_
    intro f1 p1 w1 hv1 hs1
    have hz1 := hs1 w (by (repeat (first | exact List.Mem.head _ | apply List.Mem.tail)))
    apply OL.op; exact Guard.none; rfl; rfl; apply Pev.build; rfl; exact CellsL.agg; rfl; apply Fill.cons rfl; exact CellsL.one rfl; rfl; rfl; apply Put.here; apply Over.cons; apply Over.nil; apply Fill.cons rfl; exact CellsL.one rfl; rfl; rfl; apply Put.skip; apply Put.skip; apply Put.here; apply Over.cons; apply Over.nil; apply Fill.nil; rfl
    apply OL.storeB; rfl; rfl; exact CellsL.agg; rfl; rfl; rfl; apply Swap.s; apply Swap.z; apply Put.here; apply Over.cons; apply Over.cons; apply Over.cons; apply Over.cons; apply Over.nil
    apply OL.nil
    with_reducible apply At.next
    apply W.ret
    with_reducible apply At.in_ret
    with_reducible apply At.then_ret
    rw [e]
    refine At.finC (b := b0) rfl rfl (.tail _ (.head _)) rfl rfl (fun w' hw' => ⟨_, rfl, ⟨_, _, _, _, _, rfl, ⟨[_], ⟨Fn.expr _ _, trivial⟩, SlAt.of_blk (o := 0) (hw'.item (.head _)) (fun j v hj => by rw [Nat.zero_add]; exact hj)⟩, FnsAt.nil _ _, hv1.out (hw'.toKeep (by (repeat (first | exact List.Mem.head _ | apply List.Mem.tail))) (fun k hk hO => by have hO0 : ¬ k = bk := fun e => hO (⟨_, .head _, e⟩); have hO1 : ¬ k = b0 := fun e => hO (⟨_, .tail _ (.head _), e⟩); (focus ((try simp only [add_block]); (repeat (first | exact NotOwned.nil | exact hno _ (by omega) | refine NotOwned.nothing ?_ | refine NotOwned.nds (hlow _ (by omega)) ?_ | refine NotOwned.mapS (by omega) ?_ | apply NotOwned.bif | refine NotOwned.blk (by omega) ?_ | refine NotOwned.row (by omega) ?_ | refine NotOwned.grid (by assumption) (by omega) ?_)); done))))⟩, by (exact hw'.toExt (by (repeat (first | exact List.Mem.head _ | apply List.Mem.tail))) (fun k hk => by (focus ((try simp only [add_block]); (repeat (first | exact NotOwned.nil | exact hno _ (by omega) | refine NotOwned.nothing ?_ | refine NotOwned.nds (hlow _ (by omega)) ?_ | refine NotOwned.mapS (by omega) ?_ | apply NotOwned.bif | refine NotOwned.blk (by omega) ?_ | refine NotOwned.row (by omega) ?_ | refine NotOwned.grid (by assumption) (by omega) ?_)); done))))⟩)
  apply W.seq
  apply W.reg
  apply obn; rfl; rfl; rfl; apply Bin.eql
  apply oas; rfl; rfl
  apply OL.nil
  with_reducible apply At.next
  (refine W.cond rfl (fun h16 => ?_) (fun h16 => ?_)) <;> (try (simp only [Bool.and_eq_true, Bool.or_eq_true, Bool.not_eq_true', Bool.and_eq_false_iff, Bool.or_eq_false_iff, Bool.not_eq_false', decide_eq_true_eq, decide_eq_false_iff_not, Int.not_lt, Int.not_le] at h16)) <;> (try (exfalso; first | omega | exact h16 trivial | contradiction))
  · have e : shapeP k = lst [patL, exprL] := by subst h16; rfl
    apply W.seq
    apply W.reg
    apply OL.buildSlice; rfl; rfl; rfl; apply Elems.cons rfl; exact CellsL.one rfl; rfl; apply Elems.cons rfl; exact CellsL.one rfl; rfl; apply Elems.nil; apply App.cons; apply App.nil; apply App.cons; apply App.nil; rfl; rfl; (intro bk hbk; simp only [AllLe, and_true] at hbk)
    (((first | (with_reducible apply OL.op) | (with_reducible apply QL.op)); ((first | exact Guard.none | exact Guard.yes rfl rfl | exact Guard.no rfl rfl | exact Guard.cyes rfl rfl | exact Guard.cno rfl rfl)); rfl; rfl); (exact Pev.call rfl (by (repeat (first | exact Args.nil | (apply Args.cons rfl; ((first | exact fun _ => rfl | exact fun h => h | (intro h; simp_all; done))))))) (fun _ w2 hw2 => (list_calls (some ⟨bk, 0, .none⟩) 2 2 w2).mono (fun e w3 h => ⟨h.1, hw2.ext h.2⟩))))
    apply OL.storeB; rfl; rfl; exact CellsL.agg; rfl; rfl; rfl; apply Swap.s; apply Swap.z; apply Put.here; apply Over.cons; apply Over.cons; apply Over.cons; apply Over.cons; apply Over.nil
    apply OL.nil
    with_reducible apply At.next
    apply W.ret
    with_reducible apply At.in_ret
    with_reducible apply At.then_ret
    rw [e]
    refine At.finC (b := b0) rfl rfl (.tail _ (.head _)) rfl rfl (fun w' hw' => ⟨_, rfl, ⟨_, _, _, _, _, rfl, ⟨[_, _], ⟨Fn.pat _ _, Fn.expr _ _, trivial⟩, SlAt.of_blk (o := 0) (hw'.item (.head _)) (fun j v hj => by rw [Nat.zero_add]; exact hj)⟩, FnsAt.nil _ _, Fn.none _ _⟩, by (exact hw'.toExt (by (repeat (first | exact List.Mem.head _ | apply List.Mem.tail))) (fun k hk => by (focus ((try simp only [add_block]); (repeat (first | exact NotOwned.nil | exact hno _ (by omega) | refine NotOwned.nothing ?_ | refine NotOwned.nds (hlow _ (by omega)) ?_ | refine NotOwned.mapS (by omega) ?_ | apply NotOwned.bif | refine NotOwned.blk (by omega) ?_ | refine NotOwned.row (by omega) ?_ | refine NotOwned.grid (by assumption) (by omega) ?_)); done))))⟩)
  apply W.seq
  apply W.reg
  apply obn; rfl; rfl; rfl; apply Bin.eql
  apply oas; rfl; rfl
  apply OL.nil
  with_reducible apply At.next
  (refine W.cond rfl (fun h17 => ?_) (fun h17 => ?_)) <;> (try (simp only [Bool.and_eq_true, Bool.or_eq_true, Bool.not_eq_true', Bool.and_eq_false_iff, Bool.or_eq_false_iff, Bool.not_eq_false', decide_eq_true_eq, decide_eq_false_iff_not, Int.not_lt, Int.not_le] at h17)) <;> (try (exfalso; first | omega | exact h17 trivial | contradiction))
  · have e : shapeP k = mny [19] 0 := by subst h17; rfl
    apply W.seq
    apply W.reg
    refine OL.callFn [19] rfl rfl (by (repeat (first | exact Args.nil | (apply Args.cons rfl; ((first | exact fun _ => rfl | exact fun h => h | (intro h; simp_all; done))))))) (fun wx hwx => a_calls 19 _ wx (owned_lt hwx)) ?_
    intro f1 p1 w1 hv1 hs1
    have hz1 := hs1 w (by (repeat (first | exact List.Mem.head _ | apply List.Mem.tail)))
    skip
    (((first | (with_reducible apply OL.op) | (with_reducible apply QL.op)); ((first | exact Guard.none | exact Guard.yes rfl rfl | exact Guard.no rfl rfl | exact Guard.cyes rfl rfl | exact Guard.cno rfl rfl)); rfl; rfl); (exact Pev.call rfl (by (repeat (first | exact Args.nil | (apply Args.cons rfl; ((first | exact fun _ => rfl | exact fun h => h | (intro h; simp_all; done))))))) (fun _ w2 hw2 => (many_calls _ p1 0 w2).mono (fun e w3 h => ⟨h.1, hw2.ext h.2⟩))))
    apply OL.storeB; rfl; rfl; exact CellsL.agg; rfl; rfl; rfl; apply Swap.z; apply Put.here; apply Over.cons; apply Over.cons; apply Over.cons; apply Over.cons; apply Over.nil
    apply OL.nil
    with_reducible apply At.next
    apply W.ret
    with_reducible apply At.in_ret
    with_reducible apply At.then_ret
    rw [e]
    refine At.finC (b := b0) rfl rfl (.head _) rfl rfl (fun w' hw' => ⟨_, rfl, ⟨_, _, _, _, _, rfl, FnsAt.nil _ _, FnsAt.nil _ _, hv1.out (hw'.toKeep (by (repeat (first | exact List.Mem.head _ | apply List.Mem.tail))) (fun k hk hO => by have hO0 : ¬ k = b0 := fun e => hO (⟨_, .head _, e⟩); (focus ((try simp only [add_block]); (repeat (first | exact NotOwned.nil | exact hno _ (by omega) | refine NotOwned.nothing ?_ | refine NotOwned.nds (hlow _ (by omega)) ?_ | refine NotOwned.mapS (by omega) ?_ | apply NotOwned.bif | refine NotOwned.blk (by omega) ?_ | refine NotOwned.row (by omega) ?_ | refine NotOwned.grid (by assumption) (by omega) ?_)); done))))⟩, by (exact hw'.toExt (by (repeat (first | exact List.Mem.head _ | apply List.Mem.tail))) (fun k hk => by (focus ((try simp only [add_block]); (repeat (first | exact NotOwned.nil | exact hno _ (by omega) | refine NotOwned.nothing ?_ | refine NotOwned.nds (hlow _ (by omega)) ?_ | refine NotOwned.mapS (by omega) ?_ | apply NotOwned.bif | refine NotOwned.blk (by omega) ?_ | refine NotOwned.row (by omega) ?_ | refine NotOwned.grid (by assumption) (by omega) ?_)); done))))⟩)
  apply W.seq
  apply W.reg
  apply obn; rfl; rfl; rfl; apply Bin.eql
  apply oas; rfl; rfl
  apply OL.nil
  with_reducible apply At.next
  (refine W.cond rfl (fun h18 => ?_) (fun h18 => ?_)) <;> (try (simp only [Bool.and_eq_true, Bool.or_eq_true, Bool.not_eq_true', Bool.and_eq_false_iff, Bool.or_eq_false_iff, Bool.not_eq_false', decide_eq_true_eq, decide_eq_false_iff_not, Int.not_lt, Int.not_le] at h18)) <;> (try (exfalso; first | omega | exact h18 trivial | contradiction))
  · have e : shapeP k = ⟨[exprL], [], [33] ++ [34], 0⟩ := by subst h18; rfl
    apply W.seq
    apply W.reg
    apply OL.buildSlice; rfl; rfl; rfl; apply Elems.cons rfl; exact CellsL.one rfl; rfl; apply Elems.nil; apply App.cons; apply App.nil; rfl; rfl; (intro bk hbk; simp only [AllLe, and_true] at hbk)
    refine OL.callFn [33] rfl rfl (by (repeat (first | exact Args.nil | (apply Args.cons rfl; ((first | exact fun _ => rfl | exact fun h => h | (intro h; simp_all; done))))))) (fun wx hwx => a_calls 33 _ wx (owned_lt hwx)) ?_
    intro f1 p1 w1 hv1 hs1
    have hz1 := hs1 w (by (repeat (first | exact List.Mem.head _ | apply List.Mem.tail)))
    skip
    refine OL.callFn [34] rfl rfl (by (repeat (first | exact Args.nil | (apply Args.cons rfl; ((first | exact fun _ => rfl | exact fun h => h | (intro h; simp_all; done))))))) (fun wx hwx => a_calls 34 _ wx (owned_lt hwx)) ?_
    intro f2 p2 w2 hv2 hs2
    have hz2 := hs2 w (by (repeat (first | exact List.Mem.head _ | apply List.Mem.tail)))
    skip
    refine OL.callFn ([33] ++ [34]) rfl rfl (by (repeat (first | exact Args.nil | (apply Args.cons rfl; ((first | exact fun _ => rfl | exact fun h => h | (intro h; simp_all; done))))))) (fun wx hwx => either_calls ([33]) ([34]) _ _ _ wx (owned_lt hwx) (hv1.keep (hwx.kp w1 (by (repeat (first | exact List.Mem.head _ | apply List.Mem.tail))))) (hv2.keep (hwx.kp w2 (by (repeat (first | exact List.Mem.head _ | apply List.Mem.tail)))))) ?_
    intro f3 p3 w3 hv3 hs3
    have hz3 := hs3 w (by (repeat (first | exact List.Mem.head _ | apply List.Mem.tail)))
    apply OL.op; exact Guard.none; rfl; rfl; apply Pev.build; rfl; exact CellsL.agg; rfl; apply Fill.cons rfl; exact CellsL.one rfl; rfl; rfl; apply Put.here; apply Over.cons; apply Over.nil; apply Fill.cons rfl; exact CellsL.one rfl; rfl; rfl; apply Put.skip; apply Put.skip; apply Put.here; apply Over.cons; apply Over.nil; apply Fill.nil; rfl
    apply OL.storeB; rfl; rfl; exact CellsL.agg; rfl; rfl; rfl; apply Swap.s; apply Swap.z; apply Put.here; apply Over.cons; apply Over.cons; apply Over.cons; apply Over.cons; apply Over.nil
    apply OL.nil
    with_reducible apply At.next
    apply W.ret
    with_reducible apply At.in_ret
    with_reducible apply At.then_ret
    rw [e]
    refine At.finC (b := b0) rfl rfl (.tail _ (.head _)) rfl rfl (fun w' hw' => ⟨_, rfl, ⟨_, _, _, _, _, rfl, ⟨[_], ⟨Fn.expr _ _, trivial⟩, SlAt.of_blk (o := 0) (hw'.item (.head _)) (fun j v hj => by rw [Nat.zero_add]; exact hj)⟩, FnsAt.nil _ _, hv3.out (hw'.toKeep (by (repeat (first | exact List.Mem.head _ | apply List.Mem.tail))) (fun k hk hO => by have hO0 : ¬ k = bk := fun e => hO (⟨_, .head _, e⟩); have hO1 : ¬ k = b0 := fun e => hO (⟨_, .tail _ (.head _), e⟩); (focus ((try simp only [add_block]); (repeat (first | exact NotOwned.nil | exact hno _ (by omega) | refine NotOwned.nothing ?_ | refine NotOwned.nds (hlow _ (by omega)) ?_ | refine NotOwned.mapS (by omega) ?_ | apply NotOwned.bif | refine NotOwned.blk (by omega) ?_ | refine NotOwned.row (by omega) ?_ | refine NotOwned.grid (by assumption) (by omega) ?_)); done))))⟩, by (exact hw'.toExt (by (repeat (first | exact List.Mem.head _ | apply List.Mem.tail))) (fun k hk => by (focus ((try simp only [add_block]); (repeat (first | exact NotOwned.nil | exact hno _ (by omega) | refine NotOwned.nothing ?_ | refine NotOwned.nds (hlow _ (by omega)) ?_ | refine NotOwned.mapS (by omega) ?_ | apply NotOwned.bif | refine NotOwned.blk (by omega) ?_ | refine NotOwned.row (by omega) ?_ | refine NotOwned.grid (by assumption) (by omega) ?_)); done))))⟩)
  apply W.seq
  apply W.reg
  apply obn; rfl; rfl; rfl; apply Bin.eql
  apply oas; rfl; rfl
  apply OL.nil
  with_reducible apply At.next
  (refine W.cond rfl (fun h19 => ?_) (fun h19 => ?_)) <;> (try (simp only [Bool.and_eq_true, Bool.or_eq_true, Bool.not_eq_true', Bool.and_eq_false_iff, Bool.or_eq_false_iff, Bool.not_eq_false', decide_eq_true_eq, decide_eq_false_iff_not, Int.not_lt, Int.not_le] at h19)) <;> (try (exfalso; first | omega | exact h19 trivial | contradiction))
  · have e : shapeP k = lst [parL, exprL] := by subst h19; rfl
    apply W.seq
    apply W.reg
    apply OL.buildSlice; rfl; rfl; rfl; apply Elems.cons rfl; exact CellsL.one rfl; rfl; apply Elems.cons rfl; exact CellsL.one rfl; rfl; apply Elems.nil; apply App.cons; apply App.nil; apply App.cons; apply App.nil; rfl; rfl; (intro bk hbk; simp only [AllLe, and_true] at hbk)
    (((first | (with_reducible apply OL.op) | (with_reducible apply QL.op)); ((first | exact Guard.none | exact Guard.yes rfl rfl | exact Guard.no rfl rfl | exact Guard.cyes rfl rfl | exact Guard.cno rfl rfl)); rfl; rfl); (exact Pev.call rfl (by (repeat (first | exact Args.nil | (apply Args.cons rfl; ((first | exact fun _ => rfl | exact fun h => h | (intro h; simp_all; done))))))) (fun _ w2 hw2 => (list_calls (some ⟨bk, 0, .none⟩) 2 2 w2).mono (fun e w3 h => ⟨h.1, hw2.ext h.2⟩))))
    apply OL.storeB; rfl; rfl; exact CellsL.agg; rfl; rfl; rfl; apply Swap.s; apply Swap.z; apply Put.here; apply Over.cons; apply Over.cons; apply Over.cons; apply Over.cons; apply Over.nil
    apply OL.nil
    with_reducible apply At.next
    apply W.ret
    with_reducible apply At.in_ret
    with_reducible apply At.then_ret
    rw [e]
    refine At.finC (b := b0) rfl rfl (.tail _ (.head _)) rfl rfl (fun w' hw' => ⟨_, rfl, ⟨_, _, _, _, _, rfl, ⟨[_, _], ⟨Fn.par _ _, Fn.expr _ _, trivial⟩, SlAt.of_blk (o := 0) (hw'.item (.head _)) (fun j v hj => by rw [Nat.zero_add]; exact hj)⟩, FnsAt.nil _ _, Fn.none _ _⟩, by (exact hw'.toExt (by (repeat (first | exact List.Mem.head _ | apply List.Mem.tail))) (fun k hk => by (focus ((try simp only [add_block]); (repeat (first | exact NotOwned.nil | exact hno _ (by omega) | refine NotOwned.nothing ?_ | refine NotOwned.nds (hlow _ (by omega)) ?_ | refine NotOwned.mapS (by omega) ?_ | apply NotOwned.bif | refine NotOwned.blk (by omega) ?_ | refine NotOwned.row (by omega) ?_ | refine NotOwned.grid (by assumption) (by omega) ?_)); done))))⟩)
  apply W.seq
  apply W.reg
  apply obn; rfl; rfl; rfl; apply Bin.eql
  apply oas; rfl; rfl
  apply OL.nil
  with_reducible apply At.next
  (refine W.cond rfl (fun h20 => ?_) (fun h20 => ?_)) <;> (try (simp only [Bool.and_eq_true, Bool.or_eq_true, Bool.not_eq_true', Bool.and_eq_false_iff, Bool.or_eq_false_iff, Bool.not_eq_false', decide_eq_true_eq, decide_eq_false_iff_not, Int.not_lt, Int.not_le] at h20)) <;> (try (exfalso; first | omega | exact h20 trivial | contradiction))
  · have e : shapeP k = lst [parL, parL, exprL] := by subst h20; rfl
    apply W.seq
    apply W.reg
    apply OL.buildSlice; rfl; rfl; rfl; apply Elems.cons rfl; exact CellsL.one rfl; rfl; apply Elems.cons rfl; exact CellsL.one rfl; rfl; apply Elems.cons rfl; exact CellsL.one rfl; rfl; apply Elems.nil; apply App.cons; apply App.nil; apply App.cons; apply App.nil; apply App.cons; apply App.nil; rfl; rfl; (intro bk hbk; simp only [AllLe, and_true] at hbk)
    (((first | (with_reducible apply OL.op) | (with_reducible apply QL.op)); ((first | exact Guard.none | exact Guard.yes rfl rfl | exact Guard.no rfl rfl | exact Guard.cyes rfl rfl | exact Guard.cno rfl rfl)); rfl; rfl); (exact Pev.call rfl (by (repeat (first | exact Args.nil | (apply Args.cons rfl; ((first | exact fun _ => rfl | exact fun h => h | (intro h; simp_all; done))))))) (fun _ w2 hw2 => (list_calls (some ⟨bk, 0, .none⟩) 3 3 w2).mono (fun e w3 h => ⟨h.1, hw2.ext h.2⟩))))
    apply OL.storeB; rfl; rfl; exact CellsL.agg; rfl; rfl; rfl; apply Swap.s; apply Swap.z; apply Put.here; apply Over.cons; apply Over.cons; apply Over.cons; apply Over.cons; apply Over.nil
    apply OL.nil
    with_reducible apply At.next
    apply W.ret
    with_reducible apply At.in_ret
    with_reducible apply At.then_ret
    rw [e]
    refine At.finC (b := b0) rfl rfl (.tail _ (.head _)) rfl rfl (fun w' hw' => ⟨_, rfl, ⟨_, _, _, _, _, rfl, ⟨[_, _, _], ⟨Fn.par _ _, Fn.par _ _, Fn.expr _ _, trivial⟩, SlAt.of_blk (o := 0) (hw'.item (.head _)) (fun j v hj => by rw [Nat.zero_add]; exact hj)⟩, FnsAt.nil _ _, Fn.none _ _⟩, by (exact hw'.toExt (by (repeat (first | exact List.Mem.head _ | apply List.Mem.tail))) (fun k hk => by (focus ((try simp only [add_block]); (repeat (first | exact NotOwned.nil | exact hno _ (by omega) | refine NotOwned.nothing ?_ | refine NotOwned.nds (hlow _ (by omega)) ?_ | refine NotOwned.mapS (by omega) ?_ | apply NotOwned.bif | refine NotOwned.blk (by omega) ?_ | refine NotOwned.row (by omega) ?_ | refine NotOwned.grid (by assumption) (by omega) ?_)); done))))⟩)
  apply W.seq
  apply W.reg
  apply obn; rfl; rfl; rfl; apply Bin.eql
  apply oas; rfl; rfl
  apply OL.nil
  with_reducible apply At.next
  (refine W.cond rfl (fun h21 => ?_) (fun h21 => ?_)) <;> (try (simp only [Bool.and_eq_true, Bool.or_eq_true, Bool.not_eq_true', Bool.and_eq_false_iff, Bool.or_eq_false_iff, Bool.not_eq_false', decide_eq_true_eq, decide_eq_false_iff_not, Int.not_lt, Int.not_le] at h21)) <;> (try (exfalso; first | omega | exact h21 trivial | contradiction))
  · have e : shapeP k = mny patL 0 := by subst h21; rfl
    apply W.seq
    apply W.reg
    (((first | (with_reducible apply OL.op) | (with_reducible apply QL.op)); ((first | exact Guard.none | exact Guard.yes rfl rfl | exact Guard.no rfl rfl | exact Guard.cyes rfl rfl | exact Guard.cno rfl rfl)); rfl; rfl); (exact Pev.call rfl (by (repeat (first | exact Args.nil | (apply Args.cons rfl; ((first | exact fun _ => rfl | exact fun h => h | (intro h; simp_all; done))))))) (fun _ w2 hw2 => (many_calls _ [] 0 w2).mono (fun e w3 h => ⟨h.1, hw2.ext h.2⟩))))
    apply OL.storeB; rfl; rfl; exact CellsL.agg; rfl; rfl; rfl; apply Swap.z; apply Put.here; apply Over.cons; apply Over.cons; apply Over.cons; apply Over.cons; apply Over.nil
    apply OL.nil
    with_reducible apply At.next
    apply W.ret
    with_reducible apply At.in_ret
    with_reducible apply At.then_ret
    rw [e]
    refine At.finC (b := b0) rfl rfl (.head _) rfl rfl (fun w' hw' => ⟨_, rfl, ⟨_, _, _, _, _, rfl, FnsAt.nil _ _, FnsAt.nil _ _, Fn.pat _ _⟩, by (exact hw'.toExt (by (repeat (first | exact List.Mem.head _ | apply List.Mem.tail))) (fun k hk => by (focus ((try simp only [add_block]); (repeat (first | exact NotOwned.nil | exact hno _ (by omega) | refine NotOwned.nothing ?_ | refine NotOwned.nds (hlow _ (by omega)) ?_ | refine NotOwned.mapS (by omega) ?_ | apply NotOwned.bif | refine NotOwned.blk (by omega) ?_ | refine NotOwned.row (by omega) ?_ | refine NotOwned.grid (by assumption) (by omega) ?_)); done))))⟩)
  apply W.skip
  with_reducible apply At.in_normal
  with_reducible apply At.next
  apply W.seq
  apply W.reg
  have e : shapeP k = lst [] := by unfold shapeP; simp only [*, if_false, or_self]
  skip
  (((first | (with_reducible apply OL.op) | (with_reducible apply QL.op)); ((first | exact Guard.none | exact Guard.yes rfl rfl | exact Guard.no rfl rfl | exact Guard.cyes rfl rfl | exact Guard.cno rfl rfl)); rfl; rfl); (exact Pev.call rfl (by (repeat (first | exact Args.nil | (apply Args.cons rfl; ((first | exact fun _ => rfl | exact fun h => h | (intro h; simp_all; done))))))) (fun _ w2 hw2 => (list_calls .none 0 0 w2).mono (fun e w3 h => ⟨h.1, hw2.ext h.2⟩))))
  apply OL.storeB; rfl; rfl; exact CellsL.agg; rfl; rfl; rfl; apply Swap.z; apply Put.here; apply Over.cons; apply Over.cons; apply Over.cons; apply Over.cons; apply Over.nil
  apply OL.nil
  with_reducible apply At.next
  apply W.ret
  rw [e]
  refine At.finC (b := b0) rfl rfl (.head _) rfl rfl (fun w' hw' => ⟨_, rfl, ⟨_, _, _, _, _, rfl, FnsAt.nil _ _, FnsAt.nil _ _, Fn.none _ _⟩, by (exact hw'.toExt (by (repeat (first | exact List.Mem.head _ | apply List.Mem.tail))) (fun k hk => by (focus ((try simp only [add_block]); (repeat (first | exact NotOwned.nil | exact hno _ (by omega) | refine NotOwned.nothing ?_ | refine NotOwned.nds (hlow _ (by omega)) ?_ | refine NotOwned.mapS (by omega) ?_ | apply NotOwned.bif | refine NotOwned.blk (by omega) ?_ | refine NotOwned.row (by omega) ?_ | refine NotOwned.grid (by assumption) (by omega) ?_)); done))))⟩)

theorem groups_calls (k : Int) (w : World) : Calls Try.prog 55 #[.int .i64 k] w fun e w' => ∃ (q1 : Option Addr) (c1 : Nat) (q2 : Option Addr) (c2 : Nat),
    e = .returned (.tuple #[.slice q1 (groupsP k).1.length c1, .slice q2 (groupsP k).2.length c2]) ∧ FnsAt w' q1 (groupsP k).1 ∧ SlAt w' w'.heap.size q2 (ins (groupsP k).2) ∧ (q1 = .none ↔ (groupsP k).1 = []) ∧ Ext w w' := by
  refine enter Try.func55 rfl Try.ntmps55 rfl (Cls.start w) ?_
  (simp only [argEnv, Nat.zero_add, Nat.reduceAdd])
  apply W.seq
  apply W.reg
  apply oas; rfl; rfl
  apply oas; rfl; rfl
  apply OL.nil
  with_reducible apply At.next
  apply W.seq
  apply W.seq
  apply W.reg
  apply omv; rfl; rfl
  apply OL.nil
  with_reducible apply At.next
  apply W.block
  apply W.seq
  apply W.reg
  apply obn; rfl; rfl; rfl; apply Bin.eql
  apply oas; rfl; rfl
  apply OL.nil
  with_reducible apply At.next
  (refine W.cond rfl (fun h0 => ?_) (fun h0 => ?_)) <;> (try (simp only [Bool.and_eq_true, Bool.or_eq_true, Bool.not_eq_true', Bool.and_eq_false_iff, Bool.or_eq_false_iff, Bool.not_eq_false', decide_eq_true_eq, decide_eq_false_iff_not, Int.not_lt, Int.not_le] at h0)) <;> (try (exfalso; first | omega | exact h0 trivial | contradiction))
  · have e : groupsP k = ([[14], [6]], [0, 1]) := by subst h0; rfl
    apply W.seq
    apply W.reg
    refine OL.callFn [14] rfl rfl (by (repeat (first | exact Args.nil | (apply Args.cons rfl; ((first | exact fun _ => rfl | exact fun h => h | (intro h; simp_all; done))))))) (fun wx hwx => a_calls 14 _ wx (owned_lt hwx)) ?_
    intro f1 p1 w1 hv1 hs1
    have hz1 := hs1 w (by (repeat (first | exact List.Mem.head _ | apply List.Mem.tail)))
    skip
    refine OL.callFn [6] rfl rfl (by (repeat (first | exact Args.nil | (apply Args.cons rfl; ((first | exact fun _ => rfl | exact fun h => h | (intro h; simp_all; done))))))) (fun wx hwx => a_calls 6 _ wx (owned_lt hwx)) ?_
    intro f2 p2 w2 hv2 hs2
    have hz2 := hs2 w (by (repeat (first | exact List.Mem.head _ | apply List.Mem.tail)))
    apply OL.buildSlice; rfl; rfl; rfl; apply Elems.cons rfl; exact CellsL.one rfl; rfl; apply Elems.cons rfl; exact CellsL.one rfl; rfl; apply Elems.nil; apply App.cons; apply App.nil; apply App.cons; apply App.nil; rfl; rfl; (intro bk hbk; simp only [AllLe, and_true] at hbk)
    apply OL.buildSlice; rfl; rfl; rfl; apply Elems.cons rfl; exact CellsL.one rfl; rfl; apply Elems.cons rfl; exact CellsL.one rfl; rfl; apply Elems.nil; apply App.cons; apply App.nil; apply App.cons; apply App.nil; rfl; rfl; (intro bk hbk; simp only [AllLe, and_true] at hbk)
    apply oas; rfl; rfl
    apply oas; rfl; rfl
    apply OL.nil
    with_reducible apply At.next
    apply W.ret
    with_reducible apply At.in_ret
    with_reducible apply At.then_ret
    rename_i b1 hb1
    rw [e]
    ((with_reducible apply At.fin2); rfl; rfl; rfl; intro w' hw')
    have i1 := hw'.item (i := blk b1 100 _) (.tail _ (.head _))
    have i2 := hw'.item (.head _)
    exact ⟨_, _, _, _, rfl, ⟨[_, _], ⟨hv1.out (hw'.toKeep (by (repeat (first | exact List.Mem.head _ | apply List.Mem.tail))) (fun k hk hO => by (focus ((try simp only [add_block]); (repeat (first | exact NotOwned.nil | exact hno _ (by omega) | refine NotOwned.nothing ?_ | refine NotOwned.nds (hlow _ (by omega)) ?_ | refine NotOwned.mapS (by omega) ?_ | apply NotOwned.bif | refine NotOwned.blk (by omega) ?_ | refine NotOwned.row (by omega) ?_ | refine NotOwned.grid (by assumption) (by omega) ?_)); done)))), hv2.out (hw'.toKeep (by (repeat (first | exact List.Mem.head _ | apply List.Mem.tail))) (fun k hk hO => by (focus ((try simp only [add_block]); (repeat (first | exact NotOwned.nil | exact hno _ (by omega) | refine NotOwned.nothing ?_ | refine NotOwned.nds (hlow _ (by omega)) ?_ | refine NotOwned.mapS (by omega) ?_ | apply NotOwned.bif | refine NotOwned.blk (by omega) ?_ | refine NotOwned.row (by omega) ?_ | refine NotOwned.grid (by assumption) (by omega) ?_)); done)))), trivial⟩, SlAt.of_blk (o := 0) i1 (fun j v hj => by rw [Nat.zero_add]; exact hj)⟩, SlAt.of_blk (o := 0) i2 (fun j v hj => by rw [Nat.zero_add]; exact hj), by simp, by (exact hw'.toExt (by (repeat (first | exact List.Mem.head _ | apply List.Mem.tail))) (fun k hk => by (focus ((try simp only [add_block]); (repeat (first | exact NotOwned.nil | exact hno _ (by omega) | refine NotOwned.nothing ?_ | refine NotOwned.nds (hlow _ (by omega)) ?_ | refine NotOwned.mapS (by omega) ?_ | apply NotOwned.bif | refine NotOwned.blk (by omega) ?_ | refine NotOwned.row (by omega) ?_ | refine NotOwned.grid (by assumption) (by omega) ?_)); done))))⟩
  apply W.seq
  apply W.reg
  apply obn; rfl; rfl; rfl; apply Bin.eql
  apply oas; rfl; rfl
  apply OL.nil
  with_reducible apply At.next
  (refine W.cond rfl (fun h1 => ?_) (fun h1 => ?_)) <;> (try (simp only [Bool.and_eq_true, Bool.or_eq_true, Bool.not_eq_true', Bool.and_eq_false_iff, Bool.or_eq_false_iff, Bool.not_eq_false', decide_eq_true_eq, decide_eq_false_iff_not, Int.not_lt, Int.not_le] at h1)) <;> (try (exfalso; first | omega | exact h1 trivial | contradiction))
  · have e : groupsP k = ([[14], [3], [12]], [1, 0, 0]) := by subst h1; rfl
    apply W.seq
    apply W.reg
    refine OL.callFn [14] rfl rfl (by (repeat (first | exact Args.nil | (apply Args.cons rfl; ((first | exact fun _ => rfl | exact fun h => h | (intro h; simp_all; done))))))) (fun wx hwx => a_calls 14 _ wx (owned_lt hwx)) ?_
    intro f1 p1 w1 hv1 hs1
    have hz1 := hs1 w (by (repeat (first | exact List.Mem.head _ | apply List.Mem.tail)))
    skip
    refine OL.callFn [3] rfl rfl (by (repeat (first | exact Args.nil | (apply Args.cons rfl; ((first | exact fun _ => rfl | exact fun h => h | (intro h; simp_all; done))))))) (fun wx hwx => a_calls 3 _ wx (owned_lt hwx)) ?_
    intro f2 p2 w2 hv2 hs2
    have hz2 := hs2 w (by (repeat (first | exact List.Mem.head _ | apply List.Mem.tail)))
    skip
    refine OL.callFn [12] rfl rfl (by (repeat (first | exact Args.nil | (apply Args.cons rfl; ((first | exact fun _ => rfl | exact fun h => h | (intro h; simp_all; done))))))) (fun wx hwx => a_calls 12 _ wx (owned_lt hwx)) ?_
    intro f3 p3 w3 hv3 hs3
    have hz3 := hs3 w (by (repeat (first | exact List.Mem.head _ | apply List.Mem.tail)))
    apply OL.buildSlice; rfl; rfl; rfl; apply Elems.cons rfl; exact CellsL.one rfl; rfl; apply Elems.cons rfl; exact CellsL.one rfl; rfl; apply Elems.cons rfl; exact CellsL.one rfl; rfl; apply Elems.nil; apply App.cons; apply App.nil; apply App.cons; apply App.nil; apply App.cons; apply App.nil; rfl; rfl; (intro bk hbk; simp only [AllLe, and_true] at hbk)
    apply OL.buildSlice; rfl; rfl; rfl; apply Elems.cons rfl; exact CellsL.one rfl; rfl; apply Elems.cons rfl; exact CellsL.one rfl; rfl; apply Elems.cons rfl; exact CellsL.one rfl; rfl; apply Elems.nil; apply App.cons; apply App.nil; apply App.cons; apply App.nil; apply App.cons; apply App.nil; rfl; rfl; (intro bk hbk; simp only [AllLe, and_true] at hbk)
    apply oas; rfl; rfl
    apply oas; rfl; rfl
    apply OL.nil
    with_reducible apply At.next
    apply W.ret
    with_reducible apply At.in_ret
    with_reducible apply At.then_ret
    rename_i b1 hb1
    rw [e]
    ((with_reducible apply At.fin2); rfl; rfl; rfl; intro w' hw')
    have i1 := hw'.item (i := blk b1 100 _) (.tail _ (.head _))
    have i2 := hw'.item (.head _)
    exact ⟨_, _, _, _, rfl, ⟨[_, _, _], ⟨hv1.out (hw'.toKeep (by (repeat (first | exact List.Mem.head _ | apply List.Mem.tail))) (fun k hk hO => by (focus ((try simp only [add_block]); (repeat (first | exact NotOwned.nil | exact hno _ (by omega) | refine NotOwned.nothing ?_ | refine NotOwned.nds (hlow _ (by omega)) ?_ | refine NotOwned.mapS (by omega) ?_ | apply NotOwned.bif | refine NotOwned.blk (by omega) ?_ | refine NotOwned.row (by omega) ?_ | refine NotOwned.grid (by assumption) (by omega) ?_)); done)))), hv2.out (hw'.toKeep (by (repeat (first | exact List.Mem.head _ | apply List.Mem.tail))) (fun k hk hO => by (focus ((try simp only [add_block]); (repeat (first | exact NotOwned.nil | exact hno _ (by omega) | refine NotOwned.nothing ?_ | refine NotOwned.nds (hlow _ (by omega)) ?_ | refine NotOwned.mapS (by omega) ?_ | apply NotOwned.bif | refine NotOwned.blk (by omega) ?_ | refine NotOwned.row (by omega) ?_ | refine NotOwned.grid (by assumption) (by omega) ?_)); done)))), hv3.out (hw'.toKeep (by (repeat (first | exact List.Mem.head _ | apply List.Mem.tail))) (fun k hk hO => by (focus ((try simp only [add_block]); (repeat (first | exact NotOwned.nil | exact hno _ (by omega) | refine NotOwned.nothing ?_ | refine NotOwned.nds (hlow _ (by omega)) ?_ | refine NotOwned.mapS (by omega) ?_ | apply NotOwned.bif | refine NotOwned.blk (by omega) ?_ | refine NotOwned.row (by omega) ?_ | refine NotOwned.grid (by assumption) (by omega) ?_)); done)))), trivial⟩, SlAt.of_blk (o := 0) i1 (fun j v hj => by rw [Nat.zero_add]; exact hj)⟩, SlAt.of_blk (o := 0) i2 (fun j v hj => by rw [Nat.zero_add]; exact hj), by simp, by (exact hw'.toExt (by (repeat (first | exact List.Mem.head _ | apply List.Mem.tail))) (fun k hk => by (focus ((try simp only [add_block]); (repeat (first | exact NotOwned.nil | exact hno _ (by omega) | refine NotOwned.nothing ?_ | refine NotOwned.nds (hlow _ (by omega)) ?_ | refine NotOwned.mapS (by omega) ?_ | apply NotOwned.bif | refine NotOwned.blk (by omega) ?_ | refine NotOwned.row (by omega) ?_ | refine NotOwned.grid (by assumption) (by omega) ?_)); done))))⟩
  apply W.seq
  apply W.reg
  apply obn; rfl; rfl; rfl; apply Bin.eql
  apply oas; rfl; rfl
  apply OL.nil
  with_reducible apply At.next
  (refine W.cond rfl (fun h2 => ?_) (fun h2 => ?_)) <;> (try (simp only [Bool.and_eq_true, Bool.or_eq_true, Bool.not_eq_true', Bool.and_eq_false_iff, Bool.or_eq_false_iff, Bool.not_eq_false', decide_eq_true_eq, decide_eq_false_iff_not, Int.not_lt, Int.not_le] at h2)) <;> (try (exfalso; first | omega | exact h2 trivial | contradiction))
  · have e : groupsP k = ([typeL, [11], [13]], [1, 0, 0]) := by subst h2; rfl
    apply W.seq
    apply W.reg
    refine OL.callFn [11] rfl rfl (by (repeat (first | exact Args.nil | (apply Args.cons rfl; ((first | exact fun _ => rfl | exact fun h => h | (intro h; simp_all; done))))))) (fun wx hwx => a_calls 11 _ wx (owned_lt hwx)) ?_
    intro f1 p1 w1 hv1 hs1
    have hz1 := hs1 w (by (repeat (first | exact List.Mem.head _ | apply List.Mem.tail)))
    skip
    refine OL.callFn [13] rfl rfl (by (repeat (first | exact Args.nil | (apply Args.cons rfl; ((first | exact fun _ => rfl | exact fun h => h | (intro h; simp_all; done))))))) (fun wx hwx => a_calls 13 _ wx (owned_lt hwx)) ?_
    intro f2 p2 w2 hv2 hs2
    have hz2 := hs2 w (by (repeat (first | exact List.Mem.head _ | apply List.Mem.tail)))
    apply OL.buildSlice; rfl; rfl; rfl; apply Elems.cons rfl; exact CellsL.one rfl; rfl; apply Elems.cons rfl; exact CellsL.one rfl; rfl; apply Elems.cons rfl; exact CellsL.one rfl; rfl; apply Elems.nil; apply App.cons; apply App.nil; apply App.cons; apply App.nil; apply App.cons; apply App.nil; rfl; rfl; (intro bk hbk; simp only [AllLe, and_true] at hbk)
    apply OL.buildSlice; rfl; rfl; rfl; apply Elems.cons rfl; exact CellsL.one rfl; rfl; apply Elems.cons rfl; exact CellsL.one rfl; rfl; apply Elems.cons rfl; exact CellsL.one rfl; rfl; apply Elems.nil; apply App.cons; apply App.nil; apply App.cons; apply App.nil; apply App.cons; apply App.nil; rfl; rfl; (intro bk hbk; simp only [AllLe, and_true] at hbk)
    apply oas; rfl; rfl
    apply oas; rfl; rfl
    apply OL.nil
    with_reducible apply At.next
    apply W.ret
    with_reducible apply At.in_ret
    with_reducible apply At.then_ret
    rename_i b1 hb1
    rw [e]
    ((with_reducible apply At.fin2); rfl; rfl; rfl; intro w' hw')
    have i1 := hw'.item (i := blk b1 100 _) (.tail _ (.head _))
    have i2 := hw'.item (.head _)
    exact ⟨_, _, _, _, rfl, ⟨[_, _, _], ⟨Fn.type _ _, hv1.out (hw'.toKeep (by (repeat (first | exact List.Mem.head _ | apply List.Mem.tail))) (fun k hk hO => by (focus ((try simp only [add_block]); (repeat (first | exact NotOwned.nil | exact hno _ (by omega) | refine NotOwned.nothing ?_ | refine NotOwned.nds (hlow _ (by omega)) ?_ | refine NotOwned.mapS (by omega) ?_ | apply NotOwned.bif | refine NotOwned.blk (by omega) ?_ | refine NotOwned.row (by omega) ?_ | refine NotOwned.grid (by assumption) (by omega) ?_)); done)))), hv2.out (hw'.toKeep (by (repeat (first | exact List.Mem.head _ | apply List.Mem.tail))) (fun k hk hO => by (focus ((try simp only [add_block]); (repeat (first | exact NotOwned.nil | exact hno _ (by omega) | refine NotOwned.nothing ?_ | refine NotOwned.nds (hlow _ (by omega)) ?_ | refine NotOwned.mapS (by omega) ?_ | apply NotOwned.bif | refine NotOwned.blk (by omega) ?_ | refine NotOwned.row (by omega) ?_ | refine NotOwned.grid (by assumption) (by omega) ?_)); done)))), trivial⟩, SlAt.of_blk (o := 0) i1 (fun j v hj => by rw [Nat.zero_add]; exact hj)⟩, SlAt.of_blk (o := 0) i2 (fun j v hj => by rw [Nat.zero_add]; exact hj), by simp, by (exact hw'.toExt (by (repeat (first | exact List.Mem.head _ | apply List.Mem.tail))) (fun k hk => by (focus ((try simp only [add_block]); (repeat (first | exact NotOwned.nil | exact hno _ (by omega) | refine NotOwned.nothing ?_ | refine NotOwned.nds (hlow _ (by omega)) ?_ | refine NotOwned.mapS (by omega) ?_ | apply NotOwned.bif | refine NotOwned.blk (by omega) ?_ | refine NotOwned.row (by omega) ?_ | refine NotOwned.grid (by assumption) (by omega) ?_)); done))))⟩
  apply W.seq
  apply W.reg
  apply obn; rfl; rfl; rfl; apply Bin.eql
  apply oas; rfl; rfl
  apply OL.nil
  with_reducible apply At.next
  (refine W.cond rfl (fun h3 => ?_) (fun h3 => ?_)) <;> (try (simp only [Bool.and_eq_true, Bool.or_eq_true, Bool.not_eq_true', Bool.and_eq_false_iff, Bool.or_eq_false_iff, Bool.not_eq_false', decide_eq_true_eq, decide_eq_false_iff_not, Int.not_lt, Int.not_le] at h3)) <;> (try (exfalso; first | omega | exact h3 trivial | contradiction))
  · have e : groupsP k = ([[19], [14]], [0, 0]) := by subst h3; rfl
    apply W.seq
    apply W.reg
    refine OL.callFn [19] rfl rfl (by (repeat (first | exact Args.nil | (apply Args.cons rfl; ((first | exact fun _ => rfl | exact fun h => h | (intro h; simp_all; done))))))) (fun wx hwx => a_calls 19 _ wx (owned_lt hwx)) ?_
    intro f1 p1 w1 hv1 hs1
    have hz1 := hs1 w (by (repeat (first | exact List.Mem.head _ | apply List.Mem.tail)))
    skip
    refine OL.callFn [14] rfl rfl (by (repeat (first | exact Args.nil | (apply Args.cons rfl; ((first | exact fun _ => rfl | exact fun h => h | (intro h; simp_all; done))))))) (fun wx hwx => a_calls 14 _ wx (owned_lt hwx)) ?_
    intro f2 p2 w2 hv2 hs2
    have hz2 := hs2 w (by (repeat (first | exact List.Mem.head _ | apply List.Mem.tail)))
    apply OL.buildSlice; rfl; rfl; rfl; apply Elems.cons rfl; exact CellsL.one rfl; rfl; apply Elems.cons rfl; exact CellsL.one rfl; rfl; apply Elems.nil; apply App.cons; apply App.nil; apply App.cons; apply App.nil; rfl; rfl; (intro bk hbk; simp only [AllLe, and_true] at hbk)
    apply OL.buildSlice; rfl; rfl; rfl; apply Elems.cons rfl; exact CellsL.one rfl; rfl; apply Elems.cons rfl; exact CellsL.one rfl; rfl; apply Elems.nil; apply App.cons; apply App.nil; apply App.cons; apply App.nil; rfl; rfl; (intro bk hbk; simp only [AllLe, and_true] at hbk)
    apply oas; rfl; rfl
    apply oas; rfl; rfl
    apply OL.nil
    with_reducible apply At.next
    apply W.ret
    with_reducible apply At.in_ret
    with_reducible apply At.then_ret
    rename_i b1 hb1
    rw [e]
    ((with_reducible apply At.fin2); rfl; rfl; rfl; intro w' hw')
    have i1 := hw'.item (i := blk b1 100 _) (.tail _ (.head _))
    have i2 := hw'.item (.head _)
    exact ⟨_, _, _, _, rfl, ⟨[_, _], ⟨hv1.out (hw'.toKeep (by (repeat (first | exact List.Mem.head _ | apply List.Mem.tail))) (fun k hk hO => by (focus ((try simp only [add_block]); (repeat (first | exact NotOwned.nil | exact hno _ (by omega) | refine NotOwned.nothing ?_ | refine NotOwned.nds (hlow _ (by omega)) ?_ | refine NotOwned.mapS (by omega) ?_ | apply NotOwned.bif | refine NotOwned.blk (by omega) ?_ | refine NotOwned.row (by omega) ?_ | refine NotOwned.grid (by assumption) (by omega) ?_)); done)))), hv2.out (hw'.toKeep (by (repeat (first | exact List.Mem.head _ | apply List.Mem.tail))) (fun k hk hO => by (focus ((try simp only [add_block]); (repeat (first | exact NotOwned.nil | exact hno _ (by omega) | refine NotOwned.nothing ?_ | refine NotOwned.nds (hlow _ (by omega)) ?_ | refine NotOwned.mapS (by omega) ?_ | apply NotOwned.bif | refine NotOwned.blk (by omega) ?_ | refine NotOwned.row (by omega) ?_ | refine NotOwned.grid (by assumption) (by omega) ?_)); done)))), trivial⟩, SlAt.of_blk (o := 0) i1 (fun j v hj => by rw [Nat.zero_add]; exact hj)⟩, SlAt.of_blk (o := 0) i2 (fun j v hj => by rw [Nat.zero_add]; exact hj), by simp, by (exact hw'.toExt (by (repeat (first | exact List.Mem.head _ | apply List.Mem.tail))) (fun k hk => by (focus ((try simp only [add_block]); (repeat (first | exact NotOwned.nil | exact hno _ (by omega) | refine NotOwned.nothing ?_ | refine NotOwned.nds (hlow _ (by omega)) ?_ | refine NotOwned.mapS (by omega) ?_ | apply NotOwned.bif | refine NotOwned.blk (by omega) ?_ | refine NotOwned.row (by omega) ?_ | refine NotOwned.grid (by assumption) (by omega) ?_)); done))))⟩
  apply W.seq
  apply W.reg
  apply obn; rfl; rfl; rfl; apply Bin.eql
  apply oas; rfl; rfl
  apply OL.nil
  with_reducible apply At.next
  (refine W.cond rfl (fun h4 => ?_) (fun h4 => ?_)) <;> (try (simp only [Bool.and_eq_true, Bool.or_eq_true, Bool.not_eq_true', Bool.and_eq_false_iff, Bool.or_eq_false_iff, Bool.not_eq_false', decide_eq_true_eq, decide_eq_false_iff_not, Int.not_lt, Int.not_le] at h4)) <;> (try (exfalso; first | omega | exact h4 trivial | contradiction))
  · have e : groupsP k = ([[3], [14]], [0, 0]) := by subst h4; rfl
    apply W.seq
    apply W.reg
    refine OL.callFn [3] rfl rfl (by (repeat (first | exact Args.nil | (apply Args.cons rfl; ((first | exact fun _ => rfl | exact fun h => h | (intro h; simp_all; done))))))) (fun wx hwx => a_calls 3 _ wx (owned_lt hwx)) ?_
    intro f1 p1 w1 hv1 hs1
    have hz1 := hs1 w (by (repeat (first | exact List.Mem.head _ | apply List.Mem.tail)))
    skip
    refine OL.callFn [14] rfl rfl (by (repeat (first | exact Args.nil | (apply Args.cons rfl; ((first | exact fun _ => rfl | exact fun h => h | (intro h; simp_all; done))))))) (fun wx hwx => a_calls 14 _ wx (owned_lt hwx)) ?_
    intro f2 p2 w2 hv2 hs2
    have hz2 := hs2 w (by (repeat (first | exact List.Mem.head _ | apply List.Mem.tail)))
    apply OL.buildSlice; rfl; rfl; rfl; apply Elems.cons rfl; exact CellsL.one rfl; rfl; apply Elems.cons rfl; exact CellsL.one rfl; rfl; apply Elems.nil; apply App.cons; apply App.nil; apply App.cons; apply App.nil; rfl; rfl; (intro bk hbk; simp only [AllLe, and_true] at hbk)
    apply OL.buildSlice; rfl; rfl; rfl; apply Elems.cons rfl; exact CellsL.one rfl; rfl; apply Elems.cons rfl; exact CellsL.one rfl; rfl; apply Elems.nil; apply App.cons; apply App.nil; apply App.cons; apply App.nil; rfl; rfl; (intro bk hbk; simp only [AllLe, and_true] at hbk)
    apply oas; rfl; rfl
    apply oas; rfl; rfl
    apply OL.nil
    with_reducible apply At.next
    apply W.ret
    with_reducible apply At.in_ret
    with_reducible apply At.then_ret
    rename_i b1 hb1
    rw [e]
    ((with_reducible apply At.fin2); rfl; rfl; rfl; intro w' hw')
    have i1 := hw'.item (i := blk b1 100 _) (.tail _ (.head _))
    have i2 := hw'.item (.head _)
    exact ⟨_, _, _, _, rfl, ⟨[_, _], ⟨hv1.out (hw'.toKeep (by (repeat (first | exact List.Mem.head _ | apply List.Mem.tail))) (fun k hk hO => by (focus ((try simp only [add_block]); (repeat (first | exact NotOwned.nil | exact hno _ (by omega) | refine NotOwned.nothing ?_ | refine NotOwned.nds (hlow _ (by omega)) ?_ | refine NotOwned.mapS (by omega) ?_ | apply NotOwned.bif | refine NotOwned.blk (by omega) ?_ | refine NotOwned.row (by omega) ?_ | refine NotOwned.grid (by assumption) (by omega) ?_)); done)))), hv2.out (hw'.toKeep (by (repeat (first | exact List.Mem.head _ | apply List.Mem.tail))) (fun k hk hO => by (focus ((try simp only [add_block]); (repeat (first | exact NotOwned.nil | exact hno _ (by omega) | refine NotOwned.nothing ?_ | refine NotOwned.nds (hlow _ (by omega)) ?_ | refine NotOwned.mapS (by omega) ?_ | apply NotOwned.bif | refine NotOwned.blk (by omega) ?_ | refine NotOwned.row (by omega) ?_ | refine NotOwned.grid (by assumption) (by omega) ?_)); done)))), trivial⟩, SlAt.of_blk (o := 0) i1 (fun j v hj => by rw [Nat.zero_add]; exact hj)⟩, SlAt.of_blk (o := 0) i2 (fun j v hj => by rw [Nat.zero_add]; exact hj), by simp, by (exact hw'.toExt (by (repeat (first | exact List.Mem.head _ | apply List.Mem.tail))) (fun k hk => by (focus ((try simp only [add_block]); (repeat (first | exact NotOwned.nil | exact hno _ (by omega) | refine NotOwned.nothing ?_ | refine NotOwned.nds (hlow _ (by omega)) ?_ | refine NotOwned.mapS (by omega) ?_ | apply NotOwned.bif | refine NotOwned.blk (by omega) ?_ | refine NotOwned.row (by omega) ?_ | refine NotOwned.grid (by assumption) (by omega) ?_)); done))))⟩
  apply W.skip
  with_reducible apply At.in_normal
  with_reducible apply At.next
  apply W.seq
  apply W.reg
  apply oas; rfl; rfl
  apply oas; rfl; rfl
  apply OL.nil
  with_reducible apply At.next
  apply W.ret
  have e : groupsP k = ([], []) := by unfold groupsP; simp only [*, if_false]
  rw [e]
  ((with_reducible apply At.fin2); rfl; rfl; rfl; intro w' hw')
  exact ⟨_, _, _, _, rfl, FnsAt.nil _ _, SlAt.nil, by simp, by (exact hw'.toExt (by (repeat (first | exact List.Mem.head _ | apply List.Mem.tail))) (fun k hk => by (focus ((try simp only [add_block]); (repeat (first | exact NotOwned.nil | exact hno _ (by omega) | refine NotOwned.nothing ?_ | refine NotOwned.nds (hlow _ (by omega)) ?_ | refine NotOwned.mapS (by omega) ?_ | apply NotOwned.bif | refine NotOwned.blk (by omega) ?_ | refine NotOwned.row (by omega) ?_ | refine NotOwned.grid (by assumption) (by omega) ?_)); done))))⟩
end Go.Proofs.Ytlcclcakdfmgkaa.pk
