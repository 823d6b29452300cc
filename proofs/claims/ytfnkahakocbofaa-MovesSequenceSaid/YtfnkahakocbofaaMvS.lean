/- The walk of Sequence. Conditions: at most 100000 moves. -/
import Derived.Test.YtfnkahakocbofaaMvB
namespace Go.Proofs.Ytfnkahakocbofaa.mv
open Go.RowKit Go.Eng Go.Mv
set_option linter.unusedVariables false
set_option maxRecDepth 100000

structure GS where
  left : List Pr
  out : List Pr
  rest : List Value
  qo : Option Addr
  co : Nat
  O : Nat → Prop
/-- while the first k are redirected -/
def half (spare v : Int) (left : List Pr) (k : Nat) : List Pr := (left.take k).map (redirP spare v) ++ left.drop k
theorem half_length (spare v : Int) (left : List Pr) (k : Nat) : (half spare v left k).length = left.length := by simp [half]; omega
theorem half_zero (spare v : Int) (left : List Pr) : half spare v left 0 = left := by simp [half]
theorem half_all (spare v : Int) (left : List Pr) : half spare v left left.length = left.map (redirP spare v) := by simp [half]
theorem half_get {spare v : Int} {left : List Pr} {k : Nat} {y : Pr} (h : left[k]? = some y) : (half spare v left k)[k]? = some y := by
  have hk := (List.getElem?_eq_some_iff.1 h).1
  unfold half
  rw [List.getElem?_append_right (by simp; omega)]
  simp only [List.length_map, List.length_take, Nat.min_eq_left (Nat.le_of_lt hk), Nat.sub_self, List.getElem?_drop, Nat.add_zero]
  exact h
theorem half_succ {spare v : Int} {left : List Pr} {k : Nat} {y : Pr} (h : left[k]? = some y) : half spare v left (k + 1) = (half spare v left k).set k (redirP spare v y) := by
  obtain ⟨hk, rfl⟩ := List.getElem?_eq_some_iff.1 h
  unfold half
  rw [List.set_append_right _ _ (by simp; omega)]
  simp only [List.length_map, List.length_take, Nat.min_eq_left (Nat.le_of_lt hk), Nat.sub_self]
  rw [List.drop_eq_getElem_cons hk, List.set_cons_zero, List.take_add_one, List.getElem?_eq_getElem hk, Option.toList_some, List.map_append, List.append_assoc]
  rfl
theorem cat_set {l : List Pr} {k : Nat} {y : Pr} (h : l[k]? = some y) (v : Int) : (cat pcell l).set (k * 2 + 1) (.int .i64 v) = cat pcell (l.set k (y.1, v)) := by
  obtain ⟨hk, rfl⟩ := List.getElem?_eq_some_iff.1 h
  have e : l = l.take k ++ l[k] :: l.drop (k + 1) := by
    rw [← List.drop_eq_getElem_cons hk, List.take_append_drop]
  have hl : (l.take k).length = k := by rw [List.length_take]; omega
  have hc : (cat pcell (l.take k)).length = k * 2 := by rw [cat_length plen, hl]
  generalize l[k] = y at e ⊢
  generalize l.take k = a at e hl hc ⊢
  generalize l.drop (k + 1) = b at e ⊢
  subst e
  rw [List.set_append_right _ _ (by omega), hl, Nat.sub_self, List.set_cons_zero, cat_append, cat_append, List.set_append_right _ _ (by omega), hc]
  rw [show k * 2 + 1 - k * 2 = 1 by omega]
  rfl
theorem set_same_ {l : List Pr} {k : Nat} {y : Pr} (h : l[k]? = some y) : l.set k y = l := set_same h
theorem getD_eq {l : List Pr} {i : Nat} {y : Pr} (h : l[i]? = some y) : l.getD i (0, 0) = y := by rw [List.getD_eq_getElem?_getD, h]; rfl

theorem DeleteFunc_nil (q : Option Addr) (cap : Nat) (f : FuncId) (first caps : List Value) (w : World) (hf : callable Try.prog f = true) :
    Calls Try.prog 9 #[.slice q 0 cap, .func (.func f) first.toArray caps.toArray] w fun e w' => e = .returned (.slice q 0 cap) ∧ Ext w w' := by
  refine enter Try.func9 rfl Try.ntmps9 rfl (Cls.start w) ?_
  (simp only [argEnv, Nat.zero_add, Nat.reduceAdd])
  apply W.seq
  apply W.reg
  apply oas; rfl; rfl
  apply OL.nil
  with_reducible apply At.next
  apply W.seq
  apply W.reg
  apply omv; rfl; rfl
  apply omv; rfl; rfl
  (((first | (with_reducible apply OL.op) | (with_reducible apply QL.op)); ((first | exact Guard.none | exact Guard.yes rfl rfl | exact Guard.no rfl rfl | exact Guard.cyes rfl rfl | exact Guard.cno rfl rfl)); rfl; rfl); (exact Pev.call rfl (by (repeat (first | exact Args.nil | (apply Args.cons rfl; ((first | exact fun _ => rfl | exact fun h => h | (intro h; simp_all; done))))))) (fun _ w2 hw2 => (IndexFunc_calls q cap [] f first caps (fun _ => false) w2 (by decide) SlAt.nil hf (fun s hs => by cases hs)).mono (fun e w3 h => ⟨h.1, hw2.ext h.2⟩))))
  apply oas; rfl; rfl
  apply OL.nil
  with_reducible apply At.next
  apply W.seq
  apply W.seq
  apply W.reg
  apply omv; rfl; rfl
  apply obn; rfl; rfl; rfl; apply Bin.eql
  apply OL.nil
  with_reducible apply At.next
  refine W.cond rfl (fun _ => ?_) (fun hc => by simp [idxP] at hc)
  apply W.seq
  apply W.reg
  apply omv; rfl; rfl
  apply oas; rfl; rfl
  apply OL.nil
  with_reducible apply At.next
  apply W.ret
  with_reducible apply At.then_ret
  ((with_reducible apply At.fin1); rfl; rfl; intro w' hw')
  exact ⟨rfl, by (exact hw'.toExt (by (repeat (first | exact List.Mem.head _ | apply List.Mem.tail))) (fun k hk => by (focus ((try simp only [add_block]); (repeat (first | exact NotOwned.nil | refine NotOwned.blk (by omega) ?_ | refine NotOwned.row (by omega) ?_ | refine NotOwned.grid (by assumption) (by omega) ?_)); done))))⟩

theorem Sequence_calls (q : Option Addr) (cap : Nat) (l : List Pr) (spare : Int) (w : World) (hlen : l.length ≤ 100000) (hcap : l.length ≤ cap) (h : SlAt w w.heap.size q (cat pcell l)) :
    Calls Try.prog 4 #[.slice q l.length cap, .int .i64 spare] w fun e w' => ∃ x : Option Addr × Nat, e = .returned (.tuple #[.slice x.1 (seqR l spare).1.length x.2, .int .i64 (seqR l spare).2]) ∧ SlAt w' w'.heap.size x.1 (cat pcell (seqR l spare).1) ∧ Ext w w' := by
  refine enter Try.func4 rfl Try.ntmps4 rfl (Cls.start w) ?_
  (simp only [argEnv, Nat.zero_add, Nat.reduceAdd])
  apply W.seq
  apply W.reg
  apply oas; rfl; rfl
  apply oas; rfl; rfl
  apply OL.nil
  with_reducible apply At.next
  apply W.seq
  apply W.seq
  apply W.reg
  apply omv; rfl; rfl
  apply OL.op; exact Guard.none; rfl; rfl; apply Pev.len_slice; rfl; exact yes; rfl
  apply omv; rfl; rfl
  apply OL.nil
  with_reducible apply At.next
  apply W.block
  refine W.loop (G := Nat) (fun i => i ≤ l.length ∧ errF spare (l.take i) (l.drop i) = errF spare [] l) (fun i => l.length - i)
    (fun i => [(15, true, .int .i64 (i : Int)), (14, true, .int .i64 (l.length : Int)), (13, true, .slice q l.length cap), (0, true, .slice q l.length cap), (1, true, .int .i64 spare)])
    (fun i => Cls [] [w]) 0 ⟨by omega, rfl⟩ (by (repeat (first | exact Sub.nil | apply Sub.cons rfl))) (fun w' hw' => hw') ?_
  rintro i ⟨hi, hrest⟩
  apply W.seq
  apply W.reg
  apply obn; rfl; rfl; rfl; apply Bin.lss
  apply OL.nil
  with_reducible apply At.next
  apply W.seq
  (refine W.cond rfl (fun hlt => ?_) (fun hlt => ?_)) <;> (try (simp only [Bool.and_eq_true, Bool.or_eq_true, Bool.not_eq_true', Bool.and_eq_false_iff, Bool.or_eq_false_iff, Bool.not_eq_false', decide_eq_true_eq, decide_eq_false_iff_not, Int.not_lt, Int.not_le] at hlt)) <;> (try (exfalso; first | omega | exact hlt trivial | contradiction))
  · have hil : i < l.length := by omega
    obtain ⟨a, x, rfl, hab, hx, hcell⟩ := h.elem plen (by decide) hil
    rw [errF_step hx] at hrest
    unfold pcell at hcell
    apply W.skip
    with_reducible apply At.next
    apply W.seq
    apply W.block
    apply W.seq
    apply W.reg
    apply omv; rfl; rfl
    apply OL.op; exact Guard.none; rfl; rfl; apply Pev.idx; rfl; exact yes; rfl; exact yes; rfl; rfl; intro hcond; omega
    apply OL.op; exact Guard.none; rfl; rfl; apply Pev.load_keptA; rfl; exact yes; exact .head _; rfl; intro hcond; assumption; rfl; intro hcond; (rw [add_block]; assumption); intro hcond; exact NotOwned.nil
    apply OL.alloc; rfl; rfl; exact CellsL.agg; (intro bk hbk; simp only [AllLe, and_true] at hbk)
    apply oas; rfl; rfl
    apply OL.storeB; rfl; rfl; exact CellsL.agg; rfl; rfl; rfl; apply Swap.z; apply Put.here; apply Over.cons; apply Over.cons; apply Over.nil
    apply OL.nil
    with_reducible apply At.next
    apply W.block
    apply W.seq
    apply W.reg
    apply OL.op; exact Guard.none; rfl; rfl; apply Pev.idxArr; rfl; exact yes; rfl; exact yes; rfl; intro hcond; omega; rfl
    apply old; rfl; rfl; exact .head _; rfl; rfl
    apply obn; rfl; rfl; rfl; apply Bin.lss
    apply omv; rfl; rfl
    apply OL.op; exact Guard.no rfl rfl; rfl; rfl; apply Pev.idxArr; rfl; exact yes; rfl; exact yes; rfl; intro hcond; omega; rfl
    apply OL.op; exact Guard.no rfl rfl; rfl; rfl; apply Pev.load_blk; rfl; exact fun h => h; exact .head _; rfl; rfl
    apply OL.op; exact Guard.no rfl rfl; rfl; rfl; apply Pev.bin; rfl; exact fun h => h; rfl; exact yes; intro hcond; apply Bin.lss
    apply OL.op; exact Guard.none; rfl; rfl; apply Pev.pick_or; rfl; exact yes; rfl; exact fun h => h
    apply oas; rfl; rfl
    apply OL.nil
    with_reducible apply At.next
    refine W.cond rfl (fun hc => ?_) (fun hc => ?_)
    · apply W.seq
      apply W.reg
      apply oas; rfl; rfl
      apply oas; rfl; rfl
      apply OL.nil
      with_reducible apply At.next
      apply W.ret
      with_reducible apply At.in_ret
      with_reducible apply At.in_ret
      with_reducible apply At.then_ret
      with_reducible apply At.then_ret
      with_reducible apply At.in_ret
      with_reducible apply At.then_ret
      ((with_reducible apply At.fin2); rfl; rfl; rfl; intro w' hw')
      rw [if_pos (by simpa using hc)] at hrest
      refine ⟨(none, 0), ?_, ?_, by (exact hw'.toExt (by (repeat (first | exact List.Mem.head _ | apply List.Mem.tail))) (fun k hk => by (focus ((try simp only [add_block]); (repeat (first | exact NotOwned.nil | refine NotOwned.blk (by omega) ?_ | refine NotOwned.row (by omega) ?_ | refine NotOwned.grid (by assumption) (by omega) ?_)); done))))⟩
      · simp [seqR, ← hrest]
      · simp [seqR, ← hrest, cat, SlAt]
    · rw [if_neg (by simpa using hc)] at hrest
      have hti : (l.take i).length = i := by rw [List.length_take]; omega
      apply W.seq
      apply W.reg
      apply omv; rfl; rfl
      apply omv; rfl; rfl
      apply OL.op; exact Guard.none; rfl; rfl; apply Pev.slice_hi; rfl; exact yes; rfl; exact yes; rfl; rfl; intro hcond; omega
      apply OL.op; exact Guard.none; rfl; rfl; apply Pev.makeFunc; exact Args.nil; apply Args.cons rfl; exact yes; exact Args.nil
      (((first | (with_reducible apply OL.op) | (with_reducible apply QL.op)); ((first | exact Guard.none | exact Guard.yes rfl rfl | exact Guard.no rfl rfl | exact Guard.cyes rfl rfl | exact Guard.cno rfl rfl)); rfl; rfl); (refine Pev.call (v := .bool ((l.take i).any fun y => decide (y.1 = x.1))) rfl (by (repeat (first | exact Args.nil | (apply Args.cons rfl; ((first | exact fun _ => rfl | exact fun h => h | (intro h; simp_all; done))))))) (fun _ w2 hw2 => ?_)))
      · have hcc := ContainsFunc_calls (some a) cap (l.take i) 8 [] [.pointer (some ⟨bk, 0, none⟩)] (fun y => decide (y.1 = x.1)) w2 (by omega) ((h.keep (hw2.below (s := w) (by (repeat (first | exact List.Mem.head _ | apply List.Mem.tail))) (Nat.le_refl _) (fun k hk => by (focus ((try simp only [add_block]); (repeat (first | exact NotOwned.nil | refine NotOwned.blk (by omega) ?_ | refine NotOwned.row (by omega) ?_ | refine NotOwned.grid (by assumption) (by omega) ?_)); done)))) (hw2.kp w (by (repeat (first | exact List.Mem.head _ | apply List.Mem.tail)))).size).takeC i) rfl (fun s hs w3 hx3 => by
          have hi := hw2.item (i := blk bk 26 [.int .i64 x.1, .int .i64 x.2]) (by (repeat (first | exact List.Mem.head _ | apply List.Mem.tail)))
          exact lit1_calls bk x.1 s w3 (Nat.lt_of_lt_of_le (blk_lt hi) hx3.size) ((World.cell?_of_block (hx3.below.block bk (blk_lt hi))).trans (by rw [blk_cell hi]; rfl)))
        rw [hti] at hcc
        exact hcc.mono (fun e w3 h => ⟨h.1, hw2.ext h.2⟩)
      apply oas; rfl; rfl
      apply OL.nil
      with_reducible apply At.next
      refine W.cond rfl (fun hc2 => ?_) (fun hc2 => ?_)
      · rw [if_pos hc2] at hrest
        apply W.seq
        apply W.reg
        apply oas; rfl; rfl
        apply oas; rfl; rfl
        apply OL.nil
        with_reducible apply At.next
        apply W.ret
        with_reducible apply At.in_ret
        with_reducible apply At.in_ret
        with_reducible apply At.then_ret
        with_reducible apply At.then_ret
        with_reducible apply At.in_ret
        with_reducible apply At.then_ret
        ((with_reducible apply At.fin2); rfl; rfl; rfl; intro w' hw')
        refine ⟨(none, 0), ?_, ?_, by (exact hw'.toExt (by (repeat (first | exact List.Mem.head _ | apply List.Mem.tail))) (fun k hk => by (focus ((try simp only [add_block]); (repeat (first | exact NotOwned.nil | refine NotOwned.blk (by omega) ?_ | refine NotOwned.row (by omega) ?_ | refine NotOwned.grid (by assumption) (by omega) ?_)); done))))⟩
        · simp [seqR, ← hrest]
        · simp [seqR, ← hrest, cat, SlAt]
      · rw [if_neg (by rw [hc2]; simp)] at hrest
        apply W.seq
        apply W.reg
        apply OL.op; exact Guard.none; rfl; rfl; apply Pev.idxArr; rfl; exact yes; rfl; exact yes; rfl; intro hcond; omega; rfl
        apply old; rfl; rfl; exact .head _; rfl; rfl
        apply omv; rfl; rfl
        apply obn; rfl; rfl; rfl; apply Bin.eql
        apply omv; rfl; rfl
        apply OL.op; exact Guard.no rfl rfl; rfl; rfl; apply Pev.idxArr; rfl; exact yes; rfl; exact yes; rfl; intro hcond; omega; rfl
        apply OL.op; exact Guard.no rfl rfl; rfl; rfl; apply Pev.load_blk; rfl; exact fun h => h; exact .head _; rfl; rfl
        apply OL.op; exact Guard.no rfl rfl; rfl; rfl; apply Pev.move; rfl; exact yes
        apply OL.op; exact Guard.no rfl rfl; rfl; rfl; apply Pev.bin; rfl; exact fun h => h; rfl; exact fun h => h; intro hcond; apply Bin.eql
        apply OL.op; exact Guard.none; rfl; rfl; apply Pev.pick_or; rfl; exact yes; rfl; exact fun h => h
        apply oas; rfl; rfl
        apply OL.nil
        with_reducible apply At.next
        refine W.cond rfl (fun hc3 => ?_) (fun hc3 => ?_)
        · apply W.seq
          apply W.reg
          apply oas; rfl; rfl
          apply oas; rfl; rfl
          apply OL.nil
          with_reducible apply At.next
          apply W.ret
          with_reducible apply At.in_ret
          with_reducible apply At.in_ret
          with_reducible apply At.then_ret
          with_reducible apply At.then_ret
          with_reducible apply At.in_ret
          with_reducible apply At.then_ret
          ((with_reducible apply At.fin2); rfl; rfl; rfl; intro w' hw')
          rw [if_pos (by simpa using hc3)] at hrest
          refine ⟨(none, 0), ?_, ?_, by (exact hw'.toExt (by (repeat (first | exact List.Mem.head _ | apply List.Mem.tail))) (fun k hk => by (focus ((try simp only [add_block]); (repeat (first | exact NotOwned.nil | refine NotOwned.blk (by omega) ?_ | refine NotOwned.row (by omega) ?_ | refine NotOwned.grid (by assumption) (by omega) ?_)); done))))⟩
          · simp [seqR, ← hrest]
          · simp [seqR, ← hrest, cat, SlAt]
        · rw [if_neg (by simpa using hc3)] at hrest
          apply W.skip
          with_reducible apply At.in_normal
          with_reducible apply At.in_normal
          with_reducible apply At.next
          apply W.reg
          apply obn; rfl; rfl; rfl; apply Bin.add_in; omega
          apply omv; rfl; rfl
          apply OL.nil
          exact At.again (i + 1) ⟨by omega, hrest⟩ (by omega) (by (repeat (first | exact Sub.nil | apply Sub.cons rfl))) (fun w' hw' => hw'.thin (by (repeat (first | exact Thin.nil | exact Thin.same | apply Thin.keep | (refine Thin.blk (by assumption) ?_) | (refine Thin.blk (by simp only [AllLe, and_true]; omega) ?_)))))
  · obtain rfl : i = l.length := by omega
    rw [List.take_length, List.drop_length, errF] at hrest
    have hR : seqR l spare = (seqF spare (leftF l).length (leftF l) [], 0) := by rw [seqR, if_pos hrest.symm]
    rcases Nat.eq_zero_or_pos l.length with hl0 | hl0
    · have hl : l = [] := List.eq_nil_of_length_eq_zero hl0
      subst hl
      have hR2 : seqR [] spare = ([], 0) := by rw [hR]; rfl
      apply W.exit
      with_reducible apply At.then_exit
      with_reducible apply At.then_exit
      with_reducible apply At.in_exit
      with_reducible apply At.next
      apply W.seq
      apply W.reg
      apply omv; rfl; rfl
      refine OL.callE (α := Option Addr × Nat) (fun x => .slice x.1 0 x.2) (fun _ => True) (fun _ => Cls [] [w]) rfl rfl (by (repeat (first | exact Args.nil | (apply Args.cons rfl; ((first | exact fun _ => rfl | exact fun h => h | (intro h; simp_all; done))))))) (fun w2 hw2 => (Clone_calls q cap [] w2 (by decide) SlAt.nil).mono (fun e w3 ⟨q', c', he, hx, _⟩ => ⟨(q', c'), he, trivial, hw2.ext hx⟩)) ?_
      rintro ⟨q1, c1⟩ _
      simp only
      skip
      (((first | (with_reducible apply OL.op) | (with_reducible apply QL.op)); ((first | exact Guard.none | exact Guard.yes rfl rfl | exact Guard.no rfl rfl | exact Guard.cyes rfl rfl | exact Guard.cno rfl rfl)); rfl; rfl); (exact Pev.call rfl (by (repeat (first | exact Args.nil | (apply Args.cons rfl; ((first | exact fun _ => rfl | exact fun h => h | (intro h; simp_all; done))))))) (fun _ w2 hw2 => (DeleteFunc_nil q1 c1 11 [] [] w2 rfl).mono (fun e w3 h => ⟨h.1, hw2.ext h.2⟩))))
      apply OL.alloc; rfl; rfl; exact CellsL.one rfl; (intro bk hbk; simp only [AllLe, and_true] at hbk)
      apply OL.storeB; rfl; rfl; exact CellsL.one rfl; rfl; rfl; rfl; apply Swap.z; apply Put.here; apply Over.cons; apply Over.nil
      apply OL.nil
      with_reducible apply At.next
      apply W.seq
      apply W.reg
      apply oas; rfl; rfl
      apply OL.nil
      with_reducible apply At.next
      apply W.seq
      apply W.block
      refine W.loop (G := Nat) (fun i => True) (fun i => i)
        (fun i => [(1, true, .int .i64 spare), (8, true, .pointer (some ⟨bk, 0, none⟩)), (9, true, .slice none 0 0)])
        (fun i => Cls [blk bk 22 [.slice q1 0 c1]] [w]) 0 trivial (by (repeat (first | exact Sub.nil | apply Sub.cons rfl))) (fun w' hw' => hw') ?_
      intro _ _
      apply W.seq
      apply W.seq
      apply W.reg
      apply old; rfl; rfl; exact .head _; rfl; rfl
      apply OL.op; exact Guard.none; rfl; rfl; apply Pev.len_slice; rfl; exact yes; rfl
      apply obn; rfl; rfl; rfl; apply Bin.gtr
      apply OL.nil
      with_reducible apply At.next
      refine W.cond rfl (fun hc => by simp at hc) (fun _ => ?_)
      apply W.exit
      with_reducible apply At.then_exit
      with_reducible apply At.then_exit
      with_reducible apply At.in_exit
      with_reducible apply At.next
      apply W.seq
      apply W.reg
      apply omv; rfl; rfl
      apply oas; rfl; rfl
      apply oas; rfl; rfl
      apply OL.nil
      with_reducible apply At.next
      apply W.ret
      ((with_reducible apply At.fin2); rfl; rfl; rfl; intro w' hw')
      exact ⟨(none, 0), by rw [hR2]; rfl, by rw [hR2]; exact SlAt.nil, by (exact hw'.toExt (by (repeat (first | exact List.Mem.head _ | apply List.Mem.tail))) (fun k hk => by (focus ((try simp only [add_block]); (repeat (first | exact NotOwned.nil | refine NotOwned.blk (by omega) ?_ | refine NotOwned.row (by omega) ?_ | refine NotOwned.grid (by assumption) (by omega) ?_)); done))))⟩
    · apply W.exit
      with_reducible apply At.then_exit
      with_reducible apply At.then_exit
      with_reducible apply At.in_exit
      with_reducible apply At.next
      apply W.seq
      apply W.reg
      apply omv; rfl; rfl
      refine OL.callE (α := Nat × Nat × List Value) (fun x => .slice (some ⟨x.1, 0, none⟩) l.length x.2.1) (fun x => w.heap.size ≤ x.1 ∧ (cat pcell l ++ x.2.2).length = x.2.1 * 2) (fun x => Cls [blk x.1 26 (cat pcell l ++ x.2.2)] [w]) rfl rfl (by (repeat (first | exact Args.nil | (apply Args.cons rfl; ((first | exact fun _ => rfl | exact fun h => h | (intro h; simp_all; done))))))) (fun w2 hw2 => ?_) ?_
      · refine (Clone_calls q cap l w2 hlen (h.keep (hw2.below (s := w) (by (repeat (first | exact List.Mem.head _ | apply List.Mem.tail))) (Nat.le_refl _) (fun k hk => by (focus ((try simp only [add_block]); (repeat (first | exact NotOwned.nil | refine NotOwned.blk (by omega) ?_ | refine NotOwned.row (by omega) ?_ | refine NotOwned.grid (by assumption) (by omega) ?_)); done)))) (hw2.kp w (by (repeat (first | exact List.Mem.head _ | apply List.Mem.tail)))).size)).mono (fun e w3 ⟨q', c', he, hx, hg⟩ => ?_)
        obtain ⟨g, rest, rfl, hgb, hh, hcl⟩ := hg hl0
        have hws := (hw2.kp w (by (repeat (first | exact List.Mem.head _ | apply List.Mem.tail)))).size
        refine ⟨(g, c', rest), he, ⟨by simp only; omega, hcl⟩, hw2.add hx _ hh (fun k hk => ?_)⟩
        have hk' : k = g := hk
        subst hk'
        exact ⟨hgb, blk_lt hh⟩
      rintro ⟨g, c1, r1⟩ ⟨hg, hr1⟩
      simp only at hg hr1 ⊢
      skip
      refine OL.callE (α := List Value) (fun _ => .slice (some ⟨g, 0, none⟩) (leftF l).length c1) (fun x => (cat pcell (leftF l) ++ x).length = c1 * 2) (fun x => Cls [blk g 26 (cat pcell (leftF l) ++ x)] [w]) rfl rfl (by (repeat (first | exact Args.nil | (apply Args.cons rfl; ((first | exact fun _ => rfl | exact fun h => h | (intro h; simp_all; done))))))) (fun w2 hw2 => ?_) ?_
      · refine (DeleteFunc_calls g c1 l r1 11 [] [] (fun x => decide (x.1 = x.2)) w2 hlen (hw2.item (i := blk g 26 (cat pcell l ++ r1)) (by (repeat (first | exact List.Mem.head _ | apply List.Mem.tail)))) hr1 rfl (fun s hs w3 => lit2_calls s w3)).mono (fun e w3 ⟨he, r2, hh, hl2, hk⟩ => ?_)
        exact ⟨r2, he, hl2, hw2.turn_blk .z hk hh⟩
      intro r2 hr2
      have hll : (leftF l).length ≤ l.length := List.length_filter_le _ _
      apply OL.alloc; rfl; rfl; exact CellsL.one rfl; (intro bk hbk; simp only [AllLe, and_true] at hbk)
      apply OL.storeB; rfl; rfl; exact CellsL.one rfl; rfl; rfl; rfl; apply Swap.z; apply Put.here; apply Over.cons; apply Over.nil
      apply OL.nil
      with_reducible apply At.next
      apply W.seq
      apply W.reg
      apply oas; rfl; rfl
      apply OL.nil
      with_reducible apply At.next
      apply W.seq
      apply W.block
      revert bk
      intro bl hbl
      refine W.loop (G := GS) (fun s => s.left.length ≤ 100000 ∧ s.out.length + 2 * s.left.length ≤ 200000 ∧ (cat pcell s.left ++ s.rest).length = c1 * 2 ∧ seqF spare s.left.length s.left s.out = seqF spare (leftF l).length (leftF l) []) (fun s => s.left.length)
        (fun s => [(1, true, .int .i64 spare), (8, true, .pointer (some ⟨bl, 0, none⟩)), (9, true, .slice s.qo s.out.length s.co)])
        (fun s => Cls [row w.heap.size s.O s.qo s.out.length s.co 26 2 (cat pcell s.out), blk bl 22 [.slice (some ⟨g, 0, none⟩) s.left.length c1], blk g 26 (cat pcell s.left ++ s.rest)] [w])
        ⟨leftF l, [], r2, none, 0, fun _ => False⟩ ⟨by simp only; omega, by simp only [List.length_nil]; omega, hr2, rfl⟩ (by (repeat (first | exact Sub.nil | apply Sub.cons rfl))) (fun w' hw' => hw'.row_nil _ _ _) ?_
      rintro ⟨left, out, rest, qo, co, O⟩ ⟨hll2, hol, hrl, hseq⟩
      simp only at hll2 hol hrl hseq ⊢
      apply W.seq
      apply W.seq
      apply W.reg
      apply old; rfl; rfl; exact .tail _ (.head _); rfl; rfl
      apply OL.op; exact Guard.none; rfl; rfl; apply Pev.len_slice; rfl; exact yes; rfl
      apply obn; rfl; rfl; rfl; apply Bin.gtr
      apply OL.nil
      with_reducible apply At.next
      (refine W.cond rfl (fun hpos => ?_) (fun hpos => ?_)) <;> (try (simp only [Bool.and_eq_true, Bool.or_eq_true, Bool.not_eq_true', Bool.and_eq_false_iff, Bool.or_eq_false_iff, Bool.not_eq_false', decide_eq_true_eq, decide_eq_false_iff_not, Int.not_lt, Int.not_le] at hpos)) <;> (try (exfalso; first | omega | exact hpos trivial | contradiction))
      · have hlp : 0 < left.length := by omega
        have hfu : left.length = (left.length - 1) + 1 := by omega
        rw [hfu, seqF, if_neg (by omega)] at hseq
        have hlc : left.length ≤ c1 := by rw [List.length_append, cat_length plen] at hrl; omega
        apply W.skip
        with_reducible apply At.next
        apply W.block
        apply W.seq
        apply W.reg
        apply old; rfl; rfl; exact .tail _ (.head _); rfl; rfl
        apply OL.op; exact Guard.none; rfl; rfl; apply Pev.makeFunc; exact Args.nil; apply Args.cons rfl; exact yes; exact Args.nil
        (((first | (with_reducible apply OL.op) | (with_reducible apply QL.op)); ((first | exact Guard.none | exact Guard.yes rfl rfl | exact Guard.no rfl rfl | exact Guard.cyes rfl rfl | exact Guard.cno rfl rfl)); rfl; rfl); (refine Pev.call (v := .int .i64 (atF left)) rfl (by (repeat (first | exact Args.nil | (apply Args.cons rfl; ((first | exact fun _ => rfl | exact fun h => h | (intro h; simp_all; done))))))) (fun _ w2 hw2 => ?_)))
        · have i1 := hw2.item (i := blk bl 22 [.slice (some ⟨g, 0, none⟩) left.length c1]) (by (repeat (first | exact List.Mem.head _ | apply List.Mem.tail)))
          have i2 := hw2.item (i := blk g 26 (cat pcell left ++ rest)) (by (repeat (first | exact List.Mem.head _ | apply List.Mem.tail)))
          have hs : SlAt w2 w2.heap.size (some ⟨g, 0, none⟩) (cat pcell left) := SlAt.of_blk (o := 0) i2 (fun j v hj => by rw [Nat.zero_add, List.getElem?_append_left (List.getElem?_eq_some_iff.1 hj).1]; exact hj)
          exact (IndexFunc_calls (some ⟨g, 0, none⟩) c1 left 13 [] [.pointer (some ⟨bl, 0, none⟩)] (freeP left) w2 (by omega) hs rfl (fun s _ w3 hx => lit3_calls bl (some ⟨g, 0, none⟩) c1 left s w3 (Nat.lt_of_lt_of_le (blk_lt i1) hx.size) ((World.cell?_of_block (hx.below.block bl (blk_lt i1))).trans (by rw [blk_cell i1]; rfl)) hll2 (hs.ext hx (Nat.le_refl _)))).mono (fun e w3 h => ⟨h.1, hw2.ext h.2⟩)
        apply oas; rfl; rfl
        apply OL.nil
        with_reducible apply At.next
        apply W.seq
        apply W.seq
        apply W.reg
        apply omv; rfl; rfl
        apply obn; rfl; rfl; rfl; apply Bin.lss
        apply OL.nil
        with_reducible apply At.next
        obtain ⟨y0, hy0⟩ : ∃ y, left[0]? = some y := ⟨_, List.getElem?_eq_getElem hlp⟩
        rw [getD_eq hy0] at hseq
        (refine W.cond rfl (fun hneg => ?_) (fun hneg => ?_)) <;> (try (simp only [Bool.and_eq_true, Bool.or_eq_true, Bool.not_eq_true', Bool.and_eq_false_iff, Bool.or_eq_false_iff, Bool.not_eq_false', decide_eq_true_eq, decide_eq_false_iff_not, Int.not_lt, Int.not_le] at hneg)) <;> (try (exfalso; first | omega | exact hneg trivial | contradiction))
        · rw [if_pos hneg] at hseq
          apply W.seq
          apply W.reg
          apply old; rfl; rfl; exact .tail _ (.head _); rfl; rfl
          apply OL.op; exact Guard.none; rfl; rfl; apply Pev.idxB; rfl; exact yes; rfl; exact yes; rfl; intro hcond; omega; rfl
          apply OL.op; exact Guard.none; rfl; rfl; apply Pev.idxArr; rfl; exact yes; rfl; exact yes; rfl; intro hcond; omega; rfl
          (((first | (with_reducible apply OL.op) | (with_reducible apply QL.op)); ((first | exact Guard.none | exact Guard.yes rfl rfl | exact Guard.no rfl rfl | exact Guard.cyes rfl rfl | exact Guard.cno rfl rfl)); rfl; rfl); (refine Pev.load_cls (v := .int .i64 y0.1) rfl (by (first | exact fun _ => rfl | exact fun h => h | (intro h; simp_all; done))) rfl (fun _ w2 hw2 => ?_)))
          · rw [blk_cell (hw2.item (i := blk g 26 (cat pcell left ++ rest)) (by (repeat (first | exact List.Mem.head _ | apply List.Mem.tail))))]
            have h1 := cat_get plen hy0 0 (.int .i64 y0.1) rfl
            show (cat pcell left ++ rest)[0]? = _
            rw [List.getElem?_append_left (List.getElem?_eq_some_iff.1 h1).1]
            exact h1
          apply oas; rfl; rfl
          apply OL.nil
          with_reducible apply At.next
          apply W.seq
          apply W.reg
          apply omv; rfl; rfl
          apply omv; rfl; rfl
          apply omv; rfl; rfl
          apply OL.op; exact Guard.none; rfl; rfl; apply Pev.buildArr; rfl; exact CellsL.agg; rfl; apply Fill.cons rfl; exact CellsL.one rfl; rfl; rfl; apply Put.here; apply Over.cons; apply Over.nil; apply Fill.cons rfl; exact CellsL.one rfl; rfl; rfl; apply Put.skip; apply Put.here; apply Over.cons; apply Over.nil; apply Fill.nil; rfl
          apply OL.buildSlice; rfl; rfl; rfl; apply Elems.cons rfl; exact CellsL.agg; rfl; apply Elems.nil; apply App.cons; apply App.cons; apply App.nil; rfl; rfl; (intro bk hbk; simp only [AllLe, and_true] at hbk)
          apply OL.append; rfl; rfl; rfl; rfl; apply Hole.s; apply Hole.z; exact .head _; apply Take.succ; apply Take.succ; apply Take.zero; rfl; rfl; exact ⟨_, .head _, Nat.le_refl _⟩; omega; intro O1 g1 cap1
          apply oas; rfl; rfl
          apply OL.nil
          with_reducible apply At.next
          apply W.seq
          apply W.seq
          apply W.reg
          apply old; rfl; rfl; exact .tail _ (.tail _ (.head _)); rfl; rfl
          apply OL.op; exact Guard.none; rfl; rfl; apply Pev.len_slice; rfl; exact yes; rfl
          apply omv; rfl; rfl
          apply OL.nil
          with_reducible apply At.next
          apply W.block
          have e1 : (out ++ [(spare, y0.1)]).length = out.length + 1 := by simp
          have e2 : cat pcell (out ++ [(spare, y0.1)]) = cat pcell out ++ [.int .i64 spare, .int .i64 y0.1] := by rw [cat_append, cat_one]; rfl
          rw [← e2, ← e1]
          generalize out ++ [(spare, y0.1)] = out1 at hseq e1 ⊢
          clear e2
          refine W.loop (G := Nat) (fun k => k ≤ left.length) (fun k => left.length - k)
            (fun k => [(70, true, .int .i64 (k : Int)), (69, true, .int .i64 (left.length : Int)), (1, true, .int .i64 spare), (8, true, .pointer (some ⟨bl, 0, none⟩)), (9, true, .slice (some ⟨g1, 0, none⟩) out1.length cap1), (11, true, .int .i64 y0.1)])
            (fun k => Cls [row w.heap.size O1 (some ⟨g1, 0, none⟩) out1.length cap1 26 2 (cat pcell out1), blk bl 22 [.slice (some ⟨g, 0, none⟩) left.length c1], blk g 26 (cat pcell (half spare y0.1 left k) ++ rest)] [w])
            0 (by omega) (by (repeat (first | exact Sub.nil | apply Sub.cons rfl))) (fun w' hw' => by rw [half_zero]; exact hw'.thin (by (repeat (first | exact Thin.nil | exact Thin.same | apply Thin.keep | (refine Thin.blk (by assumption) ?_) | (refine Thin.blk (by simp only [AllLe, and_true]; omega) ?_))))) ?_
          intro k hk
          have hhl := half_length spare y0.1 left k
          apply W.seq
          apply W.reg
          apply obn; rfl; rfl; rfl; apply Bin.lss
          apply OL.nil
          with_reducible apply At.next
          apply W.seq
          (refine W.cond rfl (fun hltk => ?_) (fun hltk => ?_)) <;> (try (simp only [Bool.and_eq_true, Bool.or_eq_true, Bool.not_eq_true', Bool.and_eq_false_iff, Bool.or_eq_false_iff, Bool.not_eq_false', decide_eq_true_eq, decide_eq_false_iff_not, Int.not_lt, Int.not_le] at hltk)) <;> (try (exfalso; first | omega | exact hltk trivial | contradiction))
          · have hkl : k < left.length := by omega
            obtain ⟨y, hy⟩ : ∃ y, left[k]? = some y := ⟨_, List.getElem?_eq_getElem hkl⟩
            have hhg := half_get (spare := spare) (v := y0.1) hy
            have hhs := half_succ (spare := spare) (v := y0.1) hy
            apply W.skip
            with_reducible apply At.next
            apply W.seq
            apply W.block
            apply W.seq
            apply W.reg
            apply omv; rfl; rfl
            apply oas; rfl; rfl
            apply OL.nil
            with_reducible apply At.next
            apply W.seq
            apply W.reg
            apply old; rfl; rfl; exact .tail _ (.head _); rfl; rfl
            apply omv; rfl; rfl
            apply OL.op; exact Guard.none; rfl; rfl; apply Pev.idxB; rfl; exact yes; rfl; exact yes; rfl; intro hcond; omega; rfl
            apply OL.op; exact Guard.none; rfl; rfl; apply Pev.idxArr; rfl; exact yes; rfl; exact yes; rfl; intro hcond; omega; rfl
            (((first | (with_reducible apply OL.op) | (with_reducible apply QL.op)); ((first | exact Guard.none | exact Guard.yes rfl rfl | exact Guard.no rfl rfl | exact Guard.cyes rfl rfl | exact Guard.cno rfl rfl)); rfl; rfl); (refine Pev.load_cls (v := .int .i64 y.2) rfl (by (first | exact fun _ => rfl | exact fun h => h | (intro h; simp_all; done))) rfl (fun _ w2 hw2 => ?_)))
            · rw [blk_cell (hw2.item (i := blk g 26 (cat pcell (half spare y0.1 left k) ++ rest)) (by (repeat (first | exact List.Mem.head _ | apply List.Mem.tail))))]
              have h1 := cat_get plen hhg 1 (.int .i64 y.2) rfl
              rw [show 0 + (k : Int).toNat * 2 + Int.toNat 1 * 1 = k * 2 + 1 by omega, List.getElem?_append_left (List.getElem?_eq_some_iff.1 h1).1]
              exact h1
            apply omv; rfl; rfl
            apply obn; rfl; rfl; rfl; apply Bin.eql
            apply OL.nil
            with_reducible apply At.next
            (refine W.cond rfl (fun heq => ?_) (fun heq => ?_)) <;> (try (simp only [Bool.and_eq_true, Bool.or_eq_true, Bool.not_eq_true', Bool.and_eq_false_iff, Bool.or_eq_false_iff, Bool.not_eq_false', decide_eq_true_eq, decide_eq_false_iff_not, Int.not_lt, Int.not_le] at heq)) <;> (try (exfalso; first | omega | exact heq trivial | contradiction))
            · have h1 : half spare y0.1 left (k + 1) = (half spare y0.1 left k).set k (y.1, spare) := by rw [hhs, redirP, if_pos heq]
              have h2 : (cat pcell (half spare y0.1 left k) ++ rest).set (k * 2 + 1) (.int .i64 spare) = cat pcell (half spare y0.1 left (k + 1)) ++ rest := by
                rw [List.set_append_left _ _ (by rw [cat_length plen, hhl]; omega), cat_set hhg, h1]
              apply W.reg
              apply old; rfl; rfl; exact .tail _ (.head _); rfl; rfl
              apply omv; rfl; rfl
              apply omv; rfl; rfl
              apply OL.op; exact Guard.none; rfl; rfl; apply Pev.idxB; rfl; exact yes; rfl; exact yes; rfl; intro hcond; omega; rfl
              apply OL.op; exact Guard.none; rfl; rfl; apply Pev.idxArr; rfl; exact yes; rfl; exact yes; rfl; intro hcond; omega; rfl
              rw [show 0 + (k : Int).toNat * 2 + Int.toNat 1 * 1 = k * 2 + 1 by omega]
              ((refine OL.storeI rfl rfl rfl rfl rfl (by (repeat (first | apply Swap.z | apply Swap.s))) (by rw [List.length_append, cat_length plen, hhl]; omega) ?_))
              rw [h2]
              apply OL.nil
              with_reducible apply At.in_normal
              with_reducible apply At.next
              apply W.reg
              apply obn; rfl; rfl; rfl; apply Bin.add_in; omega
              apply omv; rfl; rfl
              apply OL.nil
              exact At.again (k + 1) (by omega) (by omega) (by (repeat (first | exact Sub.nil | apply Sub.cons rfl))) (fun w' hw' => hw')
            · have h1 : half spare y0.1 left (k + 1) = half spare y0.1 left k := by rw [hhs, redirP, if_neg heq]; exact set_same hhg
              apply W.skip
              with_reducible apply At.in_normal
              with_reducible apply At.next
              apply W.reg
              apply obn; rfl; rfl; rfl; apply Bin.add_in; omega
              apply omv; rfl; rfl
              apply OL.nil
              exact At.again (k + 1) (by omega) (by omega) (by (repeat (first | exact Sub.nil | apply Sub.cons rfl))) (fun w' hw' => by rw [h1]; exact hw')
          · obtain rfl : k = left.length := by omega
            rw [half_all]
            have hLl : left.length = (left.map (redirP spare y0.1)).length := by simp
            have hrl2 : (cat pcell (left.map (redirP spare y0.1)) ++ rest).length = c1 * 2 := by
              rw [← hrl, List.length_append, List.length_append, cat_length plen, cat_length plen, ← hLl]
            generalize left.map (redirP spare y0.1) = L at hseq hLl hrl2 ⊢
            rw [hLl]
            rw [hLl] at hseq hll2 hol hlp hlc
            clear hrl
            have hrl := hrl2
            obtain ⟨y, hy⟩ : ∃ y, L[0]? = some y := ⟨_, List.getElem?_eq_getElem hlp⟩
            rw [getD_eq hy] at hseq
            apply W.exit
            with_reducible apply At.then_exit
            with_reducible apply At.then_exit
            with_reducible apply At.in_exit
            with_reducible apply At.next
            apply W.reg
            apply oas; rfl; rfl
            apply OL.nil
            with_reducible apply At.next
            apply W.seq
            apply W.reg
            apply omv; rfl; rfl
            apply old; rfl; rfl; exact .tail _ (.head _); rfl; rfl
            apply omv; rfl; rfl
            apply OL.op; exact Guard.none; rfl; rfl; apply Pev.idxB; rfl; exact yes; rfl; exact yes; rfl; intro hcond; omega; rfl
            (((first | (with_reducible apply OL.op) | (with_reducible apply QL.op)); ((first | exact Guard.none | exact Guard.yes rfl rfl | exact Guard.no rfl rfl | exact Guard.cyes rfl rfl | exact Guard.cno rfl rfl)); rfl; rfl); (refine Pev.load_clsA (vs := [.int .i64 y.1, .int .i64 y.2]) rfl (by (first | exact fun _ => rfl | exact fun h => h | (intro h; simp_all; done))) rfl rfl (fun _ w2 hw2 j v hj => ?_)))
            · rw [add_mid, blk_cell (hw2.item (i := blk g 26 (cat pcell L ++ rest)) (by (repeat (first | exact List.Mem.head _ | apply List.Mem.tail))))]
              have h1 := cat_get plen hy j v hj
              rw [show 0 + Int.toNat 0 * 2 + j = 0 * 2 + j by omega, List.getElem?_append_left (List.getElem?_eq_some_iff.1 h1).1]
              exact h1
            apply OL.buildSlice; rfl; rfl; rfl; apply Elems.cons rfl; exact CellsL.agg; rfl; apply Elems.nil; apply App.cons; apply App.cons; apply App.nil; rfl; rfl; (intro bk hbk; simp only [AllLe, and_true] at hbk)
            apply OL.append; rfl; rfl; rfl; rfl; apply Hole.s; apply Hole.z; exact .head _; apply Take.succ; apply Take.succ; apply Take.zero; rfl; rfl; exact ⟨_, .head _, Nat.le_refl _⟩; omega; intro O1 g1 cap1
            apply oas; rfl; rfl
            apply OL.nil
            with_reducible apply At.next
            apply W.reg
            apply old; rfl; rfl; exact .tail _ (.tail _ (.head _)); rfl; rfl
            apply omv; rfl; rfl
            apply omv; rfl; rfl
            apply obn; rfl; rfl; rfl; apply Bin.add_in; omega
            refine OL.callE (α := List Value) (fun _ => .slice (some ⟨g, 0, none⟩) (L.eraseIdx 0).length c1) (fun x => (cat pcell (L.eraseIdx 0) ++ x).length = c1 * 2) (fun x => Cls [blk bk 26 [.int .i64 y.1, .int .i64 y.2], row w.heap.size O1 (some ⟨g1, 0, none⟩) (out1.length + 1) cap1 26 2 (cat pcell out1 ++ [.int .i64 y.1, .int .i64 y.2]), blk bl 22 [.slice (some ⟨g, 0, none⟩) L.length c1], blk g 26 (cat pcell (L.eraseIdx 0) ++ x)] [w]) rfl rfl (by (repeat (first | exact Args.nil | (apply Args.cons rfl; ((first | exact fun _ => rfl | exact fun h => h | (intro h; simp_all; done))))))) (fun w2 hw2 => ?_) ?_
            · refine (Delete_calls g c1 0 L rest w2 (by omega) hlp (hw2.item (i := blk g 26 (cat pcell L ++ rest)) (by (repeat (first | exact List.Mem.head _ | apply List.Mem.tail)))) hrl).mono (fun e w3 ⟨he, r3, hh, hl3, hk⟩ => ?_)
              exact ⟨r3, he, hl3, hw2.turn_blk (by (repeat (first | apply Swap.z | apply Swap.s))) hk hh⟩
            intro r3 hr3
            apply OL.storeB; rfl; rfl; exact CellsL.one rfl; rfl; rfl; rfl; apply Swap.s; apply Swap.s; apply Swap.z; apply Put.here; apply Over.cons; apply Over.nil
            apply OL.nil
            with_reducible apply At.in_normal
            have e1 : (out1 ++ [y]).length = out1.length + 1 := by simp
            have e2 : cat pcell (out1 ++ [y]) = cat pcell out1 ++ [.int .i64 y.1, .int .i64 y.2] := by rw [cat_append, cat_one]; rfl
            have e3 : (L.eraseIdx 0).length = L.length - 1 := by rw [List.length_eraseIdx, if_pos hlp]
            exact At.again ⟨L.eraseIdx 0, out1 ++ [y], r3, some ⟨g1, 0, none⟩, cap1, O1⟩ ⟨by simp only [e3]; omega, by simp only [e1, e3]; omega, hr3, by simp only [e3]; exact hseq⟩ (by simp only [e3]; omega) (by simp only [e1]; (repeat (first | exact Sub.nil | apply Sub.cons rfl))) (fun w' hw' => by simp only [e1, e2]; exact hw'.thin (by (repeat (first | exact Thin.nil | exact Thin.same | apply Thin.keep | (refine Thin.blk (by assumption) ?_) | (refine Thin.blk (by simp only [AllLe, and_true]; omega) ?_)))))
        · rw [if_neg (by omega)] at hseq
          obtain ⟨at_, hat⟩ : ∃ m : Nat, atF left = (m : Int) := ⟨(atF left).toNat, by omega⟩
          rw [hat] at hseq ⊢
          rw [Int.toNat_natCast] at hseq
          have hatl : at_ < left.length := by
            rcases idxP_cases (freeP left) left 0 with ⟨h1, _⟩ | ⟨i, x, h1, _, h3, _⟩
            · rw [← atF, hat] at h1; omega
            · rw [← atF, hat] at h3
              have := (List.getElem?_eq_some_iff.1 h1).1
              omega
          obtain ⟨y, hy⟩ : ∃ y, left[at_]? = some y := ⟨_, List.getElem?_eq_getElem hatl⟩
          rw [getD_eq hy] at hseq
          apply W.skip
          with_reducible apply At.next
          apply W.seq
          apply W.reg
          apply omv; rfl; rfl
          apply old; rfl; rfl; exact .tail _ (.head _); rfl; rfl
          apply omv; rfl; rfl
          apply OL.op; exact Guard.none; rfl; rfl; apply Pev.idxB; rfl; exact yes; rfl; exact yes; rfl; intro hcond; omega; rfl
          (((first | (with_reducible apply OL.op) | (with_reducible apply QL.op)); ((first | exact Guard.none | exact Guard.yes rfl rfl | exact Guard.no rfl rfl | exact Guard.cyes rfl rfl | exact Guard.cno rfl rfl)); rfl; rfl); (refine Pev.load_clsA (vs := [.int .i64 y.1, .int .i64 y.2]) rfl (by (first | exact fun _ => rfl | exact fun h => h | (intro h; simp_all; done))) rfl rfl (fun _ w2 hw2 j v hj => ?_)))
          · rw [add_mid, blk_cell (hw2.item (i := blk g 26 (cat pcell left ++ rest)) (by (repeat (first | exact List.Mem.head _ | apply List.Mem.tail))))]
            have h1 := cat_get plen hy j v hj
            rw [show 0 + (at_ : Int).toNat * 2 + j = at_ * 2 + j by omega, List.getElem?_append_left (List.getElem?_eq_some_iff.1 h1).1]
            exact h1
          apply OL.buildSlice; rfl; rfl; rfl; apply Elems.cons rfl; exact CellsL.agg; rfl; apply Elems.nil; apply App.cons; apply App.cons; apply App.nil; rfl; rfl; (intro bk hbk; simp only [AllLe, and_true] at hbk)
          apply OL.append; rfl; rfl; rfl; rfl; apply Hole.s; apply Hole.z; exact .head _; apply Take.succ; apply Take.succ; apply Take.zero; rfl; rfl; exact ⟨_, .head _, Nat.le_refl _⟩; omega; intro O1 g1 cap1
          apply oas; rfl; rfl
          apply OL.nil
          with_reducible apply At.next
          apply W.reg
          apply old; rfl; rfl; exact .tail _ (.tail _ (.head _)); rfl; rfl
          apply omv; rfl; rfl
          apply omv; rfl; rfl
          apply obn; rfl; rfl; rfl; apply Bin.add_in; omega
          refine OL.callE (α := List Value) (fun _ => .slice (some ⟨g, 0, none⟩) (left.eraseIdx at_).length c1) (fun x => (cat pcell (left.eraseIdx at_) ++ x).length = c1 * 2) (fun x => Cls [blk bk 26 [.int .i64 y.1, .int .i64 y.2], row w.heap.size O1 (some ⟨g1, 0, none⟩) (out.length + 1) cap1 26 2 (cat pcell out ++ [.int .i64 y.1, .int .i64 y.2]), blk bl 22 [.slice (some ⟨g, 0, none⟩) left.length c1], blk g 26 (cat pcell (left.eraseIdx at_) ++ x)] [w]) rfl rfl (by (repeat (first | exact Args.nil | (apply Args.cons rfl; ((first | exact fun _ => rfl | exact fun h => h | (intro h; simp_all; done))))))) (fun w2 hw2 => ?_) ?_
          · refine (Delete_calls g c1 at_ left rest w2 (by omega) hatl (hw2.item (i := blk g 26 (cat pcell left ++ rest)) (by (repeat (first | exact List.Mem.head _ | apply List.Mem.tail)))) hrl).mono (fun e w3 ⟨he, r3, hh, hl3, hk⟩ => ?_)
            exact ⟨r3, he, hl3, hw2.turn_blk (by (repeat (first | apply Swap.z | apply Swap.s))) hk hh⟩
          intro r3 hr3
          apply OL.storeB; rfl; rfl; exact CellsL.one rfl; rfl; rfl; rfl; apply Swap.s; apply Swap.s; apply Swap.z; apply Put.here; apply Over.cons; apply Over.nil
          apply OL.nil
          with_reducible apply At.in_normal
          have e1 : (out ++ [y]).length = out.length + 1 := by simp
          have e2 : cat pcell (out ++ [y]) = cat pcell out ++ [.int .i64 y.1, .int .i64 y.2] := by rw [cat_append, cat_one]; rfl
          have e3 : (left.eraseIdx at_).length = left.length - 1 := by rw [List.length_eraseIdx, if_pos hatl]
          exact At.again ⟨left.eraseIdx at_, out ++ [y], r3, some ⟨g1, 0, none⟩, cap1, O1⟩ ⟨by simp only [e3]; omega, by simp only [e1, e3]; omega, hr3, by simp only [e3]; exact hseq⟩ (by simp only [e3]; omega) (by simp only [e1]; (repeat (first | exact Sub.nil | apply Sub.cons rfl))) (fun w' hw' => by simp only [e1, e2]; exact hw'.thin (by (repeat (first | exact Thin.nil | exact Thin.same | apply Thin.keep | (refine Thin.blk (by assumption) ?_) | (refine Thin.blk (by simp only [AllLe, and_true]; omega) ?_)))))
      · have hl0 : left.length = 0 := by omega
        rw [hl0] at hseq
        apply W.exit
        with_reducible apply At.then_exit
        with_reducible apply At.then_exit
        with_reducible apply At.in_exit
        with_reducible apply At.next
        apply W.seq
        apply W.reg
        apply omv; rfl; rfl
        apply oas; rfl; rfl
        apply oas; rfl; rfl
        apply OL.nil
        with_reducible apply At.next
        apply W.ret
        ((with_reducible apply At.fin2); rfl; rfl; rfl; intro w' hw')
        have ho := hw'.item (i := row w.heap.size O qo out.length co 26 2 (cat pcell out)) (by (repeat (first | exact List.Mem.head _ | apply List.Mem.tail)))
        have hseq2 : out = seqF spare (leftF l).length (leftF l) [] := hseq
        refine ⟨(qo, co), ?_, ?_, by (exact hw'.toExt (by (repeat (first | exact List.Mem.head _ | apply List.Mem.tail))) (fun k hk => by (focus ((try simp only [add_block]); (repeat (first | exact NotOwned.nil | refine NotOwned.blk (by omega) ?_ | refine NotOwned.row (by omega) ?_ | refine NotOwned.grid (by assumption) (by omega) ?_)); done))))⟩
        · rw [hR, ← hseq2]
        · rw [hR, ← hseq2]; exact SlAt.of_row ho
end Go.Proofs.Ytfnkahakocbofaa.mv
