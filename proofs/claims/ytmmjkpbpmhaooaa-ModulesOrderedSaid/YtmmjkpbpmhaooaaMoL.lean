/- The walk of the law ModulesOrdered: it returns true. Conditions: none. -/
import Derived.Test.YtmmjkpbpmhaooaaMoE
import Derived.Test.YtmmjkpbpmhaooaaMoF
import Derived.Test.YtmmjkpbpmhaooaaMoG
import Derived.Test.YtmmjkpbpmhaooaaGat
namespace Go.Proofs.Ytmmjkpbpmhaooaa.mo
open Go.RowKit Go.Eng Go.Mo
set_option linter.unusedVariables false
set_option maxRecDepth 100000

theorem ordR_ab : ordR [⟨#[65]⟩, ⟨#[66]⟩] [[⟨#[66]⟩], []] = ([1, 0], 0) := by kernel_rfl

theorem law_calls (q q' : Option Addr) (cap cap' : Nat) (l : List ByteArray) (ll : List (List ByteArray)) (w : World) (hlen : l.length ≤ 9223372036854775807) (hcap : l.length ≤ cap) (h : SlAt w w.heap.size q (strs l))
    (hlen' : ll.length ≤ 9223372036854775807) (h' : StrRows w w.heap.size q' ll) :
    Calls Try.prog 3 #[.slice q l.length cap, .slice q' ll.length cap'] w fun e w' => e = .returned (.bool true) ∧ Ext w w' := by
  refine enter Try.func3 rfl Try.ntmps3 rfl (Cls.start w) ?_
  (simp only [argEnv, Nat.zero_add, Nat.reduceAdd])
  apply W.seq
  apply W.reg
  apply oas; rfl; rfl
  apply OL.nil
  with_reducible apply At.next
  apply W.seq
  apply W.seq
  apply W.reg
  apply OL.buildSlice; rfl; rfl; rfl; apply Elems.cons rfl; exact CellsL.one rfl; rfl; apply Elems.cons rfl; exact CellsL.one rfl; rfl; apply Elems.nil; apply App.cons; apply App.nil; apply App.cons; apply App.nil; rfl; rfl; (intro bk hbk; simp only [AllLe, and_true] at hbk)
  apply OL.buildSlice; rfl; rfl; rfl; apply Elems.cons rfl; exact CellsL.one rfl; rfl; apply Elems.nil; apply App.cons; apply App.nil; rfl; rfl; (intro bk hbk; simp only [AllLe, and_true] at hbk)
  apply OL.buildSlice; rfl; rfl; rfl; apply Elems.cons rfl; exact CellsL.one rfl; rfl; apply Elems.cons rfl; exact CellsL.one rfl; rfl; apply Elems.nil; apply App.cons; apply App.nil; apply App.cons; apply App.nil; rfl; rfl; (intro bk hbk; simp only [AllLe, and_true] at hbk)
  rename_i b1 hb1 b2 hb2
  refine OL.callE (α := (Option Addr × Nat) × World) (fun x => .tuple #[.slice x.1.1 2 x.1.2, .int .i64 0]) (fun x => SlAt x.2 x.2.heap.size x.1.1 (ints [1, 0]) ∧ Ext w x.2) (fun x => Cls [] [x.2, w]) rfl rfl (by (repeat (first | exact Args.nil | (apply Args.cons rfl; ((first | exact fun _ => rfl | exact fun h => h | (intro h; simp_all; done))))))) (fun w2 hw2 => ?_) ?_
  · have i1 := hw2.item (i := blk b1 9 [.string ⟨#[65]⟩, .string ⟨#[66]⟩]) (by (repeat (first | exact List.Mem.head _ | apply List.Mem.tail)))
    have i2 := hw2.item (i := blk b2 9 [.string ⟨#[66]⟩]) (by (repeat (first | exact List.Mem.head _ | apply List.Mem.tail)))
    have i3 := hw2.item (i := blk bk 22 [.slice (some ⟨b2, 0, none⟩) 1 1, .slice none 0 0]) (by (repeat (first | exact List.Mem.head _ | apply List.Mem.tail)))
    have hrows : StrRows w2 w2.heap.size (some ⟨bk, 0, none⟩) [[⟨#[66]⟩], []] := ⟨fun i m hm => by
      match i, hm with
      | 0, hm =>
        cases hm
        exact ⟨_, some ⟨b2, 0, none⟩, 1, rfl, blk_lt i3, blk_cell i3, by decide, by decide, SlAt.of_blk (o := 0) i2 (fun j v hj => by rw [Nat.zero_add]; exact hj)⟩
      | 1, hm =>
        cases hm
        exact ⟨_, none, 0, rfl, blk_lt i3, blk_cell i3, by decide, by decide, SlAt.nil⟩⟩
    refine (Order_calls (some ⟨b1, 0, none⟩) (some ⟨bk, 0, none⟩) 2 2 [⟨#[65]⟩, ⟨#[66]⟩] [[⟨#[66]⟩], []] w2 (by decide) (by decide) (SlAt.of_blk (o := 0) i1 (fun j v hj => by rw [Nat.zero_add]; exact hj)) (by decide) hrows).mono (fun e w3 ⟨x, he, hs, hx⟩ => ?_)
    rw [ordR_ab] at he hs
    exact ⟨(x, w3), he, ⟨hs, (hw2.toExt (s := w) (by (repeat (first | exact List.Mem.head _ | apply List.Mem.tail))) (fun k hk => by (focus ((try simp only [add_block]); (repeat (first | exact NotOwned.nil | refine NotOwned.blk (by omega) ?_ | refine NotOwned.row (by omega) ?_ | refine NotOwned.grid (by assumption) (by omega) ?_)); done)))).trans hx⟩, ((hw2.ext hx).thin (by (repeat (first | exact Thin.nil | apply Thin.keep | (refine Thin.blk (by simp only [AllLe, and_true]; omega) ?_))))).note⟩
  rintro ⟨⟨qo, co⟩, w1⟩ ⟨hs1, hx1⟩
  simp only at hs1 hx1 ⊢
  have hws := hx1.size
  apply omv; rfl; rfl
  apply oex; rfl; rfl; rfl
  apply oex; rfl; rfl; rfl
  apply oas; rfl; rfl
  apply oas; rfl; rfl
  apply OL.nil
  with_reducible apply At.next
  apply W.seq
  apply W.reg
  apply omv; rfl; rfl
  apply obn; rfl; rfl; rfl; apply Bin.neq
  apply omv; rfl; rfl
  apply OL.op; exact Guard.no rfl rfl; rfl; rfl; apply Pev.move; rfl; exact yes
  ((apply OL.ungate); ((first | exact Guard.none | exact Guard.yes rfl rfl | exact Guard.no rfl rfl | exact Guard.cyes rfl rfl | exact Guard.cno rfl rfl)); (decide))
  apply OL.buildSlice; rfl; rfl; rfl; apply Elems.cons rfl; exact CellsL.one rfl; rfl; apply Elems.cons rfl; exact CellsL.one rfl; rfl; apply Elems.nil; apply App.cons; apply App.nil; apply App.cons; apply App.nil; rfl; rfl; (intro bk hbk; simp only [AllLe, and_true] at hbk)
  (((first | (with_reducible apply OL.op) | (with_reducible apply QL.op)); ((first | exact Guard.none | exact Guard.yes rfl rfl | exact Guard.no rfl rfl | exact Guard.cyes rfl rfl | exact Guard.cno rfl rfl)); rfl; rfl); (refine Pev.call (v := .bool (decide ([1, 0] = [1, 0]))) rfl (by (repeat (first | exact Args.nil | (apply Args.cons rfl; ((first | exact fun _ => rfl | exact fun h => h | (intro h; simp_all; done))))))) (fun _ w2 hw2 => ?_)))
  · have h1 := hw2.below (s := w1) (B := w1.heap.size) (by (repeat (first | exact List.Mem.head _ | apply List.Mem.tail))) (Nat.le_refl _) (fun k hk => by (focus ((try simp only [add_block]); (repeat (first | exact NotOwned.nil | refine NotOwned.blk (by omega) ?_ | refine NotOwned.row (by omega) ?_ | refine NotOwned.grid (by assumption) (by omega) ?_)); done)))
    have i1 := hw2.item (i := blk bk 3 [.int .i64 1, .int .i64 0]) (by (repeat (first | exact List.Mem.head _ | apply List.Mem.tail)))
    refine (Equal_calls qo (some ⟨bk, 0, none⟩) co 2 [1, 0] [1, 0] w2 (by decide) (by decide) (hs1.keep h1 (hw2.kp w1 (by (repeat (first | exact List.Mem.head _ | apply List.Mem.tail)))).size) (SlAt.of_blk (o := 0) i1 (fun j v hj => by rw [Nat.zero_add]; exact hj))).mono (fun e w3 h => ⟨h.1, hw2.ext h.2⟩)
  apply OL.op; exact Guard.no rfl rfl; rfl; rfl; apply Pev.not; rfl; exact yes
  apply OL.op; exact Guard.none; rfl; rfl; apply Pev.pick_or; rfl; exact yes; rfl; exact yes
  apply OL.nil
  with_reducible apply At.next
  refine W.cond rfl (fun hc => by simp at hc) (fun _ => ?_)
  apply W.skip
  with_reducible apply At.next
  apply W.seq
  apply W.reg
  apply omv; rfl; rfl
  apply omv; rfl; rfl
  refine OL.callE (α := (Option Addr × Nat) × World) (fun x => .tuple #[.slice x.1.1 (ordR l ll).1.length x.1.2, .int .i64 (ordR l ll).2]) (fun x => SlAt x.2 x.2.heap.size x.1.1 (ints (ordR l ll).1) ∧ Ext w x.2) (fun x => Cls [] [x.2, w]) rfl rfl (by (repeat (first | exact Args.nil | (apply Args.cons rfl; ((first | exact fun _ => rfl | exact fun h => h | (intro h; simp_all; done))))))) (fun w2 hw2 => ?_) ?_
  · have h1 := hw2.below (s := w) (by (repeat (first | exact List.Mem.head _ | apply List.Mem.tail))) (Nat.le_refl _) (fun k hk => by (focus ((try simp only [add_block]); (repeat (first | exact NotOwned.nil | refine NotOwned.blk (by omega) ?_ | refine NotOwned.row (by omega) ?_ | refine NotOwned.grid (by assumption) (by omega) ?_)); done)))
    have h2 := (hw2.kp w (by (repeat (first | exact List.Mem.head _ | apply List.Mem.tail)))).size
    refine (Order_calls q q' cap cap' l ll w2 hlen hcap (h.keep h1 h2) hlen' (h'.keep h1 h2)).mono (fun e w3 ⟨x, he, hs, hx⟩ => ?_)
    exact ⟨(x, w3), he, ⟨hs, (hw2.toExt (s := w) (by (repeat (first | exact List.Mem.head _ | apply List.Mem.tail))) (fun k hk => by (focus ((try simp only [add_block]); (repeat (first | exact NotOwned.nil | refine NotOwned.blk (by omega) ?_ | refine NotOwned.row (by omega) ?_ | refine NotOwned.grid (by assumption) (by omega) ?_)); done)))).trans hx⟩, (((hw2.ext hx).thin (by (repeat (first | exact Thin.nil | apply Thin.keep | (refine Thin.blk (by simp only [AllLe, and_true]; omega) ?_))))).forget (S' := [w]) (by simp)).note⟩
  clear hs1 hx1 hws
  rintro ⟨⟨q2, c2⟩, w2⟩ ⟨hs2, hx2⟩
  simp only at hs2 hx2 ⊢
  have hws := hx2.size
  have hsz : ∀ w3, Cls [] [w2, w] w3 → (∀ p : Addr, p.block < w.heap.size → w3.cell? p = w.cell? p) ∧ w.heap.size ≤ w3.heap.size := fun w3 hw3 =>
    ⟨hw3.below (s := w) (by (repeat (first | exact List.Mem.head _ | apply List.Mem.tail))) (Nat.le_refl _) (fun k hk => by (focus ((try simp only [add_block]); (repeat (first | exact NotOwned.nil | refine NotOwned.blk (by omega) ?_ | refine NotOwned.row (by omega) ?_ | refine NotOwned.grid (by assumption) (by omega) ?_)); done))), (hw3.kp w (by (repeat (first | exact List.Mem.head _ | apply List.Mem.tail)))).size⟩
  apply omv; rfl; rfl
  apply oex; rfl; rfl; rfl
  apply oex; rfl; rfl; rfl
  apply oas; rfl; rfl
  apply oas; rfl; rfl
  apply OL.nil
  with_reducible apply At.next
  apply W.seq
  apply W.reg
  apply omv; rfl; rfl
  apply omv; rfl; rfl
  (((first | (with_reducible apply OL.op) | (with_reducible apply QL.op)); ((first | exact Guard.none | exact Guard.yes rfl rfl | exact Guard.no rfl rfl | exact Guard.cyes rfl rfl | exact Guard.cno rfl rfl)); rfl; rfl); (refine Pev.call (v := .int .i64 (chk l ll)) rfl (by (repeat (first | exact Args.nil | (apply Args.cons rfl; ((first | exact fun _ => rfl | exact fun h => h | (intro h; simp_all; done))))))) (fun _ w3 hw3 => (Err_calls q q' cap cap' l ll w3 hlen hcap (h.keep (hsz w3 hw3).1 (hsz w3 hw3).2) hlen' (h'.keep (hsz w3 hw3).1 (hsz w3 hw3).2)).mono (fun e w4 h => ⟨by rw [chk_err]; exact h.1, hw3.ext h.2⟩))))
  apply oas; rfl; rfl
  apply OL.nil
  with_reducible apply At.next
  apply W.seq
  apply W.seq
  apply W.reg
  apply omv; rfl; rfl
  apply omv; rfl; rfl
  (((first | (with_reducible apply OL.op) | (with_reducible apply QL.op)); ((first | exact Guard.none | exact Guard.yes rfl rfl | exact Guard.no rfl rfl | exact Guard.cyes rfl rfl | exact Guard.cno rfl rfl)); rfl; rfl); (exact Pev.call rfl (by (repeat (first | exact Args.nil | (apply Args.cons rfl; ((first | exact fun _ => rfl | exact fun h => h | (intro h; simp_all; done))))))) (fun _ w3 hw3 => (Check_calls q q' cap cap' l ll w3 hlen hcap (h.keep (hsz w3 hw3).1 (hsz w3 hw3).2) hlen' (h'.keep (hsz w3 hw3).1 (hsz w3 hw3).2)).mono (fun e w4 h => ⟨h.1, hw3.ext h.2⟩))))
  apply omv; rfl; rfl
  apply obn; rfl; rfl; rfl; apply Bin.neq
  apply OL.nil
  with_reducible apply At.next
  refine W.cond rfl (fun hc => by simp at hc) (fun _ => ?_)
  apply W.skip
  with_reducible apply At.next
  apply W.seq
  apply W.reg
  apply oas; rfl; rfl
  apply OL.nil
  with_reducible apply At.next
  apply W.seq
  apply W.seq
  apply W.reg
  apply omv; rfl; rfl
  apply obn; rfl; rfl; rfl; apply Bin.eql
  apply OL.nil
  with_reducible apply At.next
  refine W.cond rfl (fun hok => ?_) (fun hok => ?_)
  · rw [decide_eq_true_eq] at hok
    obtain ⟨hl16, hll⟩ := chk_len hok
    apply W.seq
    apply W.reg
    apply omv; rfl; rfl
    apply omv; rfl; rfl
    refine OL.callE (α := (List (List Bool) × Option Addr × Nat) × World) (fun x => .slice x.1.2.1 ((mordFrom l x.1.1 l.length []).getD []).length x.1.2.2)
      (fun x => GoodM l ll x.1.1 ∧ SlAt x.2 x.2.heap.size x.1.2.1 (ints ((mordFrom l x.1.1 l.length []).getD [])) ∧ (x.1.2.1 = none ↔ (mordFrom l x.1.1 l.length []).getD [] = []) ∧ SlAt x.2 x.2.heap.size q2 (ints (ordR l ll).1) ∧ Ext w x.2) (fun x => Cls [] [x.2, w]) rfl rfl (by (repeat (first | exact Args.nil | (apply Args.cons rfl; ((first | exact fun _ => rfl | exact fun h => h | (intro h; simp_all; done))))))) (fun w3 hw3 => ?_) ?_
    · refine (ModuleOrder_calls q q' cap cap' l ll w3 hl16 hll hcap (h.keep (hsz w3 hw3).1 (hsz w3 hw3).2) (h'.keep (hsz w3 hw3).1 (hsz w3 hw3).2)).mono (fun e w4 ⟨M, x, he, hM, hs, hn, hx⟩ => ?_)
      exact ⟨((M, x.1, x.2), w4), he, ⟨hM, hs, hn, hs2.ext ((hw3.toExt (s := w2) (by (repeat (first | exact List.Mem.head _ | apply List.Mem.tail))) (fun k hk => by (focus ((try simp only [add_block]); (repeat (first | exact NotOwned.nil | refine NotOwned.blk (by omega) ?_ | refine NotOwned.row (by omega) ?_ | refine NotOwned.grid (by assumption) (by omega) ?_)); done)))).trans hx) (Nat.le_refl _), (hw3.toExt (s := w) (by (repeat (first | exact List.Mem.head _ | apply List.Mem.tail))) (fun k hk => by (focus ((try simp only [add_block]); (repeat (first | exact NotOwned.nil | refine NotOwned.blk (by omega) ?_ | refine NotOwned.row (by omega) ?_ | refine NotOwned.grid (by assumption) (by omega) ?_)); done)))).trans hx⟩, ((hw3.ext hx).forget (S' := [w]) (by simp)).note⟩
    clear hs2 hx2 hws hsz
    rintro ⟨⟨M, q3, c3⟩, w3⟩ ⟨hM, hs3, hn3, hs2, hx3⟩
    simp only at hM hs3 hn3 hs2 hx3 ⊢
    have hws := hx3.size
    have hoe := ord_eq hok hM
    cases hmo : mordFrom l M l.length [] with
    | none =>
      rw [hmo] at hs3 hn3
      simp only [hmo, Option.getD_none] at hs3 ⊢
      rw [Option.getD_none] at hn3
      obtain rfl : q3 = none := by simpa using hn3
      have hR : ordR l ll = ([], 8) := by simp [ordR, hok, hoe, hmo]
      have hpos : (0 : Int) < (l.length : Int) := by
        rcases Nat.eq_zero_or_pos l.length with h0 | h0
        · rw [h0] at hmo; cases hmo
        · omega
      rw [hR] at hs2
      simp only [hR]
      apply oas; rfl; rfl
      apply OL.nil
      with_reducible apply At.next
      apply W.seq
      apply W.reg
      apply omv; rfl; rfl
      apply obn; rfl; rfl; rfl; apply Bin.slice_nil; rfl
      apply omv; rfl; rfl
      apply OL.op; exact Guard.yes rfl rfl; rfl; rfl; apply Pev.move; rfl; exact yes
      apply OL.op; exact Guard.yes rfl rfl; rfl; rfl; apply Pev.len_slice; rfl; exact yes; rfl
      apply OL.op; exact Guard.yes rfl rfl; rfl; rfl; apply Pev.bin; rfl; exact yes; rfl; exact yes; intro hcond; apply Bin.gtr
      apply OL.op; exact Guard.none; rfl; rfl; apply Pev.pick_and; rfl; exact yes; rfl; exact yes
      apply OL.nil
      with_reducible apply At.next
      refine W.cond rfl (fun _ => ?_) (fun hc => by simp at hc; subst hc; simp at hpos)
      apply W.reg
      apply oas; rfl; rfl
      apply OL.nil
      with_reducible apply At.next
      apply W.seq
      apply W.reg
      apply omv; rfl; rfl
      apply omv; rfl; rfl
      apply obn; rfl; rfl; rfl; apply Bin.eql
      apply omv; rfl; rfl
      apply OL.op; exact Guard.yes rfl rfl; rfl; rfl; apply Pev.move; rfl; exact yes
      apply OL.op; exact Guard.yes rfl rfl; rfl; rfl; apply Pev.move; rfl; exact yes
      (((first | (with_reducible apply OL.op) | (with_reducible apply QL.op)); ((first | exact Guard.none | exact Guard.yes rfl rfl | exact Guard.no rfl rfl | exact Guard.cyes rfl rfl | exact Guard.cno rfl rfl)); rfl; rfl); (refine Pev.call (v := .bool (decide (([] : List Nat) = []))) rfl (by (repeat (first | exact Args.nil | (apply Args.cons rfl; ((first | exact fun _ => rfl | exact fun h => h | (intro h; simp_all; done))))))) (fun _ w4 hw4 => ?_)))
      · refine (Equal_calls q2 none c2 c3 [] [] w4 (by decide) (by decide) SlAt.nil SlAt.nil).mono (fun e w5 h => ⟨h.1, hw4.ext h.2⟩)
      apply OL.op; exact Guard.none; rfl; rfl; apply Pev.pick_and; rfl; exact yes; rfl; exact yes
      apply oas; rfl; rfl
      apply OL.nil
      with_reducible apply At.next
      apply W.ret
      ((with_reducible apply At.fin1); rfl; rfl; intro w' hw')
      exact ⟨rfl, by (exact hw'.toExt (by (repeat (first | exact List.Mem.head _ | apply List.Mem.tail))) (fun k hk => by (focus ((try simp only [add_block]); (repeat (first | exact NotOwned.nil | refine NotOwned.blk (by omega) ?_ | refine NotOwned.row (by omega) ?_ | refine NotOwned.grid (by assumption) (by omega) ?_)); done))))⟩
    | some out =>
      rw [hmo] at hs3 hn3
      simp only [hmo, Option.getD_some] at hs3 hn3 ⊢
      have hol := mord_len _ _ _ hmo
      simp only [List.length_nil, Nat.zero_add] at hol
      have hR : ordR l ll = (out, 0) := by simp [ordR, hok, hoe, hmo]
      rw [hR] at hs2
      simp only [hR, hok]
      apply oas; rfl; rfl
      apply OL.nil
      with_reducible apply At.next
      apply W.seq
      apply W.reg
      apply omv; rfl; rfl
      apply obn; rfl; rfl; rfl; apply Bin.slice_nil; rfl
      apply omv; rfl; rfl
      apply OL.op; exact Guard.yes rfl rfl; rfl; rfl; apply Pev.move; rfl; exact yes
      apply OL.op; exact Guard.yes rfl rfl; rfl; rfl; apply Pev.len_slice; rfl; exact fun h => h; rfl
      apply OL.op; exact Guard.yes rfl rfl; rfl; rfl; apply Pev.bin; rfl; exact fun h => h; rfl; exact yes; intro hcond; apply Bin.gtr
      apply OL.op; exact Guard.none; rfl; rfl; apply Pev.pick_and; rfl; exact yes; rfl; exact fun h => h
      apply OL.nil
      with_reducible apply At.next
      refine W.cond rfl (fun hc => ?_) (fun _ => ?_)
      · exfalso
        rw [Bool.and_eq_true, Option.isNone_iff_eq_none, decide_eq_true_eq] at hc
        have := hn3.1 hc.1
        subst this
        simp only [List.length_nil] at hol
        omega
      apply W.skip
      with_reducible apply At.next
      apply W.seq
      apply W.reg
      apply omv; rfl; rfl
      apply omv; rfl; rfl
      apply obn; rfl; rfl; rfl; apply Bin.eql
      apply omv; rfl; rfl
      apply OL.op; exact Guard.yes rfl rfl; rfl; rfl; apply Pev.move; rfl; exact yes
      apply OL.op; exact Guard.yes rfl rfl; rfl; rfl; apply Pev.move; rfl; exact yes
      (((first | (with_reducible apply OL.op) | (with_reducible apply QL.op)); ((first | exact Guard.none | exact Guard.yes rfl rfl | exact Guard.no rfl rfl | exact Guard.cyes rfl rfl | exact Guard.cno rfl rfl)); rfl; rfl); (refine Pev.call (v := .bool (decide (out = out))) rfl (by (repeat (first | exact Args.nil | (apply Args.cons rfl; ((first | exact fun _ => rfl | exact fun h => h | (intro h; simp_all; done))))))) (fun _ w4 hw4 => ?_)))
      · have h1 := hw4.below (s := w3) (B := w3.heap.size) (by (repeat (first | exact List.Mem.head _ | apply List.Mem.tail))) (Nat.le_refl _) (fun k hk => by (focus ((try simp only [add_block]); (repeat (first | exact NotOwned.nil | refine NotOwned.blk (by omega) ?_ | refine NotOwned.row (by omega) ?_ | refine NotOwned.grid (by assumption) (by omega) ?_)); done)))
        refine (Equal_calls q2 q3 c2 c3 out out w4 (by omega) (by omega) (hs2.keep h1 (hw4.kp w3 (by (repeat (first | exact List.Mem.head _ | apply List.Mem.tail)))).size) (hs3.keep h1 (hw4.kp w3 (by (repeat (first | exact List.Mem.head _ | apply List.Mem.tail)))).size)).mono (fun e w5 h => ⟨h.1, hw4.ext h.2⟩)
      apply OL.op; exact Guard.none; rfl; rfl; apply Pev.pick_and; rfl; exact yes; rfl; exact yes
      apply oas; rfl; rfl
      apply OL.nil
      with_reducible apply At.next
      apply W.ret
      ((with_reducible apply At.fin1); rfl; rfl; intro w' hw')
      exact ⟨by simp, by (exact hw'.toExt (by (repeat (first | exact List.Mem.head _ | apply List.Mem.tail))) (fun k hk => by (focus ((try simp only [add_block]); (repeat (first | exact NotOwned.nil | refine NotOwned.blk (by omega) ?_ | refine NotOwned.row (by omega) ?_ | refine NotOwned.grid (by assumption) (by omega) ?_)); done))))⟩
  · rw [decide_eq_false_iff_not] at hok
    have hR : ordR l ll = ([], chk l ll) := by simp [ordR, hok]
    rw [hR] at hs2
    simp only [hR]
    apply W.skip
    with_reducible apply At.next
    apply W.seq
    apply W.reg
    apply omv; rfl; rfl
    apply omv; rfl; rfl
    apply obn; rfl; rfl; rfl; apply Bin.eql
    apply omv; rfl; rfl
    apply OL.op; exact Guard.yes rfl rfl; rfl; rfl; apply Pev.move; rfl; exact yes
    apply OL.op; exact Guard.yes rfl rfl; rfl; rfl; apply Pev.move; rfl; exact yes
    (((first | (with_reducible apply OL.op) | (with_reducible apply QL.op)); ((first | exact Guard.none | exact Guard.yes rfl rfl | exact Guard.no rfl rfl | exact Guard.cyes rfl rfl | exact Guard.cno rfl rfl)); rfl; rfl); (refine Pev.call (v := .bool (decide (([] : List Nat) = []))) rfl (by (repeat (first | exact Args.nil | (apply Args.cons rfl; ((first | exact fun _ => rfl | exact fun h => h | (intro h; simp_all; done))))))) (fun _ w4 hw4 => ?_)))
    · refine (Equal_calls q2 none c2 0 [] [] w4 (by decide) (by decide) SlAt.nil SlAt.nil).mono (fun e w5 h => ⟨h.1, hw4.ext h.2⟩)
    apply OL.op; exact Guard.none; rfl; rfl; apply Pev.pick_and; rfl; exact yes; rfl; exact fun h => h
    apply oas; rfl; rfl
    apply OL.nil
    with_reducible apply At.next
    apply W.ret
    ((with_reducible apply At.fin1); rfl; rfl; intro w' hw')
    exact ⟨by simp, by (exact hw'.toExt (by (repeat (first | exact List.Mem.head _ | apply List.Mem.tail))) (fun k hk => by (focus ((try simp only [add_block]); (repeat (first | exact NotOwned.nil | refine NotOwned.blk (by omega) ?_ | refine NotOwned.row (by omega) ?_ | refine NotOwned.grid (by assumption) (by omega) ?_)); done))))⟩
end Go.Proofs.Ytmmjkpbpmhaooaa.mo
