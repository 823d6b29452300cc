/- The walks of Order's function literal and of Order. Conditions: none. -/
import Derived.Test.YtmmjkpbpmhaooaaMoB
import Derived.Test.YtmmjkpbpmhaooaaAny
namespace Go.Proofs.Ytmmjkpbpmhaooaa.mo
open Go.RowKit Go.Eng Go.Mo
set_option linter.unusedVariables false
set_option maxRecDepth 100000

theorem lit_calls (bk : Nat) (q : Option Addr) (cap : Nat) (done : List ByteArray) (s : ByteArray) (w : World) (hb : bk < w.heap.size) (hc : w.cell? ⟨bk, 0, none⟩ = some (.slice q done.length cap)) (hlen : done.length ≤ 9223372036854775807) (h : SlAt w w.heap.size q (strs done)) :
    Calls Try.prog 20 #[.string s, .pointer (some ⟨bk, 0, none⟩)] w fun e w' => e = .returned (.bool (!hasB done s)) ∧ Ext w w' := by
  refine enter Try.func20 rfl Try.ntmps20 rfl (Cls.start w) ?_
  (simp only [argEnv, Nat.zero_add, Nat.reduceAdd])
  apply W.seq
  apply W.reg
  apply oas; rfl; rfl
  apply OL.nil
  with_reducible apply At.next
  apply W.seq
  apply W.reg
  apply OL.op; exact Guard.none; rfl; rfl; apply Pev.load_kept; rfl; exact yes; exact .head _; rfl; intro hcond; assumption; intro hcond; assumption; intro hcond; exact NotOwned.nil
  apply omv; rfl; rfl
  (((first | (with_reducible apply OL.op) | (with_reducible apply QL.op)); ((first | exact Guard.none | exact Guard.yes rfl rfl | exact Guard.no rfl rfl | exact Guard.cyes rfl rfl | exact Guard.cno rfl rfl)); rfl; rfl); (exact Pev.call rfl (by (repeat (first | exact Args.nil | (apply Args.cons rfl; ((first | exact fun _ => rfl | exact fun h => h | (intro h; simp_all; done))))))) (fun _ w2 hw2 => (Contains_calls q cap done s w2 hlen (h.keep (hw2.below (s := w) (by (repeat (first | exact List.Mem.head _ | apply List.Mem.tail))) (Nat.le_refl _) (fun k hk => by (focus ((try simp only [add_block]); (repeat (first | exact NotOwned.nil | refine NotOwned.blk (by omega) ?_ | refine NotOwned.row (by omega) ?_ | refine NotOwned.grid (by assumption) (by omega) ?_)); done)))) (hw2.kp w (by (repeat (first | exact List.Mem.head _ | apply List.Mem.tail)))).size)).mono (fun e w3 h => ⟨h.1, hw2.ext h.2⟩))))
  apply OL.op; exact Guard.none; rfl; rfl; apply Pev.not; rfl; exact yes
  apply oas; rfl; rfl
  apply OL.nil
  with_reducible apply At.next
  apply W.ret
  ((with_reducible apply At.fin1); rfl; rfl; intro w' hw')
  exact ⟨rfl, by (exact hw'.toExt (by (repeat (first | exact List.Mem.head _ | apply List.Mem.tail))) (fun k hk => by (focus ((try simp only [add_block]); (repeat (first | exact NotOwned.nil | refine NotOwned.blk (by omega) ?_ | refine NotOwned.row (by omega) ?_ | refine NotOwned.grid (by assumption) (by omega) ?_)); done))))⟩

structure X17 (B : Nat) where
  b1 : Nat
  hb1 : B ≤ b1
  g1 : Nat
  c1 : Nat
  O1 : Nat → Prop
  b2 : Nat
  hb2 : B ≤ b2
  g2 : Nat
  c2 : Nat
  O2 : Nat → Prop
  old : Nat → Value
structure G1 where
  out : List Nat
  done : List ByteArray
  q1 : Option Addr
  cap1 : Nat
  O1 : Nat → Prop
  q2 : Option Addr
  cap2 : Nat
  O2 : Nat → Prop

theorem Order_calls (q q' : Option Addr) (cap cap' : Nat) (l : List ByteArray) (ll : List (List ByteArray)) (w : World) (hlen : l.length ≤ 9223372036854775807) (hcap : l.length ≤ cap) (h : SlAt w w.heap.size q (strs l))
    (hlen' : ll.length ≤ 9223372036854775807) (h' : StrRows w w.heap.size q' ll) :
    Calls Try.prog 6 #[.slice q l.length cap, .slice q' ll.length cap'] w fun e w' =>
      ∃ x : Option Addr × Nat, e = .returned (.tuple #[.slice x.1 (ordR l ll).1.length x.2, .int .i64 (ordR l ll).2]) ∧ SlAt w' w'.heap.size x.1 (ints (ordR l ll).1) ∧ Ext w w' := by
  refine enter Try.func6 rfl Try.ntmps6 rfl (Cls.start w) ?_
  (simp only [argEnv, Nat.zero_add, Nat.reduceAdd])
  have hsz : ∀ w2, Cls [] [w] w2 → (∀ p : Addr, p.block < w.heap.size → w2.cell? p = w.cell? p) ∧ w.heap.size ≤ w2.heap.size := fun w2 hw2 =>
    ⟨hw2.below (s := w) (by (repeat (first | exact List.Mem.head _ | apply List.Mem.tail))) (Nat.le_refl _) (fun k hk => by (focus ((try simp only [add_block]); (repeat (first | exact NotOwned.nil | refine NotOwned.blk (by omega) ?_ | refine NotOwned.row (by omega) ?_ | refine NotOwned.grid (by assumption) (by omega) ?_)); done))), (hw2.kp w (by (repeat (first | exact List.Mem.head _ | apply List.Mem.tail)))).size⟩
  apply W.seq
  apply W.reg
  apply oas; rfl; rfl
  apply oas; rfl; rfl
  apply OL.nil
  with_reducible apply At.next
  apply W.seq
  apply W.seq
  apply W.reg
  apply omv; rfl; rfl
  apply omv; rfl; rfl
  (((first | (with_reducible apply OL.op) | (with_reducible apply QL.op)); ((first | exact Guard.none | exact Guard.yes rfl rfl | exact Guard.no rfl rfl | exact Guard.cyes rfl rfl | exact Guard.cno rfl rfl)); rfl; rfl); (exact Pev.call rfl (by (repeat (first | exact Args.nil | (apply Args.cons rfl; ((first | exact fun _ => rfl | exact fun h => h | (intro h; simp_all; done))))))) (fun _ w2 hw2 => (Check_calls q q' cap cap' l ll w2 hlen hcap (h.keep (hsz w2 hw2).1 (hsz w2 hw2).2) hlen' (h'.keep (hsz w2 hw2).1 (hsz w2 hw2).2)).mono (fun e w3 h => ⟨h.1, hw2.ext h.2⟩))))
  apply oas; rfl; rfl
  apply OL.nil
  with_reducible apply At.next
  apply W.seq
  apply W.reg
  apply omv; rfl; rfl
  apply obn; rfl; rfl; rfl; apply Bin.neq
  apply OL.nil
  with_reducible apply At.next
  (refine W.cond rfl (fun hok => ?_) (fun hok => ?_)) <;> (try (simp only [Bool.and_eq_true, Bool.or_eq_true, Bool.not_eq_true', Bool.and_eq_false_iff, Bool.or_eq_false_iff, Bool.not_eq_false', decide_eq_true_eq, decide_eq_false_iff_not, Int.not_lt, Int.not_le] at hok)) <;> (try (exfalso; first | omega | exact hok trivial | contradiction))
  · apply W.seq
    apply W.reg
    apply omv; rfl; rfl
    apply oas; rfl; rfl
    apply oas; rfl; rfl
    apply OL.nil
    with_reducible apply At.next
    apply W.ret
    with_reducible apply At.then_ret
    ((with_reducible apply At.fin2); rfl; rfl; rfl; intro w' hw')
    refine ⟨(none, 0), ?_, ?_, by (exact hw'.toExt (by (repeat (first | exact List.Mem.head _ | apply List.Mem.tail))) (fun k hk => by (focus ((try simp only [add_block]); (repeat (first | exact NotOwned.nil | refine NotOwned.blk (by omega) ?_ | refine NotOwned.row (by omega) ?_ | refine NotOwned.grid (by assumption) (by omega) ?_)); done))))⟩
    · simp [ordR, hok]
    · simp [ordR, hok, ints, SlAt]
  · obtain ⟨hl16, hll⟩ := chk_len hok
    apply W.skip
    with_reducible apply At.next
    apply W.seq
    apply W.reg
    apply oas; rfl; rfl
    apply OL.nil
    with_reducible apply At.next
    apply W.seq
    apply W.reg
    apply OL.alloc; rfl; rfl; exact CellsL.one rfl; (intro bk hbk; simp only [AllLe, and_true] at hbk)
    apply OL.nil
    with_reducible apply At.next
    apply W.seq
    apply W.block
    refine W.loop (G := G1) (fun g => g.out.length ≤ l.length ∧ g.done.length = g.out.length ∧ ordFrom l ll (l.length - g.out.length) g.out g.done = ord l ll) (fun g => l.length - g.out.length)
      (fun g => [(7, true, .slice g.q1 g.out.length g.cap1), (8, true, .pointer (some ⟨bk, 0, none⟩)), (0, true, .slice q l.length cap), (1, true, .slice q' ll.length cap')])
      (fun g => Cls [row w.heap.size g.O1 g.q1 g.out.length g.cap1 3 1 (ints g.out), row w.heap.size g.O2 g.q2 g.done.length g.cap2 9 1 (strs g.done), blk bk 22 [.slice g.q2 g.done.length g.cap2]] [w])
      ⟨[], [], none, 0, fun _ => False, none, 0, fun _ => False⟩ ⟨by simp, rfl, rfl⟩ (by (repeat (first | exact Sub.nil | apply Sub.cons rfl))) (fun w' hw' => (hw'.row_nil _ _ _).row_nil _ _ _) ?_
    rintro ⟨out, done, q1, cap1, O1, q2, cap2, O2⟩ ⟨hol, hdl, hrest⟩
    simp only at hol hdl hrest
    simp only
    apply W.seq
    apply W.seq
    apply W.reg
    apply omv; rfl; rfl
    apply OL.op; exact Guard.none; rfl; rfl; apply Pev.len_slice; rfl; exact yes; rfl
    apply omv; rfl; rfl
    apply OL.op; exact Guard.none; rfl; rfl; apply Pev.len_slice; rfl; exact yes; rfl
    apply obn; rfl; rfl; rfl; apply Bin.lss
    apply OL.nil
    with_reducible apply At.next
    (refine W.cond rfl (fun hlt => ?_) (fun hlt => ?_)) <;> (try (simp only [Bool.and_eq_true, Bool.or_eq_true, Bool.not_eq_true', Bool.and_eq_false_iff, Bool.or_eq_false_iff, Bool.not_eq_false', decide_eq_true_eq, decide_eq_false_iff_not, Int.not_lt, Int.not_le] at hlt)) <;> (try (exfalso; first | omega | exact hlt trivial | contradiction))
    · have hfuel : l.length - out.length = (l.length - (out.length + 1)) + 1 := by omega
      rw [hfuel, ordFrom] at hrest
      apply W.skip
      with_reducible apply At.next
      apply W.block
      apply W.seq
      apply W.reg
      apply oas; rfl; rfl
      apply OL.nil
      with_reducible apply At.next
      apply W.seq
      apply W.seq
      apply W.reg
      apply omv; rfl; rfl
      apply OL.op; exact Guard.none; rfl; rfl; apply Pev.len_slice; rfl; exact yes; rfl
      apply omv; rfl; rfl
      apply OL.nil
      with_reducible apply At.next
      apply W.block
      refine W.loop (G := Nat) (fun k => k ≤ l.length) (fun k => l.length - k)
        (fun k => [(26, true, .int .i64 (k : Int)), (25, true, .int .i64 (l.length : Int)), (24, true, .slice q l.length cap), (9, true, .int .i64 (best l ll done k)), (7, true, .slice q1 out.length cap1), (8, true, .pointer (some ⟨bk, 0, none⟩)), (0, true, .slice q l.length cap), (1, true, .slice q' ll.length cap')])
        (fun k => Cls [row w.heap.size O1 q1 out.length cap1 3 1 (ints out), row w.heap.size O2 q2 done.length cap2 9 1 (strs done), blk bk 22 [.slice q2 done.length cap2]] [w])
        0 (by omega) (by (repeat (first | exact Sub.nil | apply Sub.cons rfl))) (fun w' hw' => hw') ?_
      intro k hk
      have hbi := best_in l ll done k
      apply W.seq
      apply W.reg
      apply obn; rfl; rfl; rfl; apply Bin.lss
      apply OL.nil
      with_reducible apply At.next
      apply W.seq
      (refine W.cond rfl (fun hlt2 => ?_) (fun hlt2 => ?_)) <;> (try (simp only [Bool.and_eq_true, Bool.or_eq_true, Bool.not_eq_true', Bool.and_eq_false_iff, Bool.or_eq_false_iff, Bool.not_eq_false', decide_eq_true_eq, decide_eq_false_iff_not, Int.not_lt, Int.not_le] at hlt2)) <;> (try (exfalso; first | omega | exact hlt2 trivial | contradiction))
      · have hkl : k < l.length := by omega
        obtain ⟨a, u, rfl, hab, hu, hcell⟩ := h.str hkl
        obtain ⟨m, hm⟩ : ∃ m, ll[k]? = some m := ⟨_, List.getElem?_eq_getElem (by omega)⟩
        obtain ⟨a2, qm, capm, rfl, hab2, hcell2, hmcap, hmlen, hms⟩ := h'.get k m hm
        have hnm : nm l k = u := getD_of hu
        have hgm : ll.getD k [] = m := by rw [List.getD_eq_getElem?_getD, hm]; rfl
        have hcellI : 0 ≤ best l ll done k → w.cell? (a.add ((best l ll done k).toNat * 1)) = some (.string (nm l (best l ll done k).toNat)) := fun h0 => by
          obtain ⟨a', s', he, _, hs', hc'⟩ := h.str (show (best l ll done k).toNat < l.length by omega)
          cases he
          rw [hc', show nm l (best l ll done k).toNat = s' from getD_of hs']
        have hb2 : ∀ w2, Cls [row w.heap.size O1 q1 out.length cap1 3 1 (ints out), row w.heap.size O2 q2 done.length cap2 9 1 (strs done), blk bk 22 [.slice q2 done.length cap2]] [w] w2 →
            (∀ p : Addr, p.block < w.heap.size → w2.cell? p = w.cell? p) ∧ w.heap.size ≤ w2.heap.size ∧ SlAt w2 w2.heap.size q2 (strs done) ∧ w2.cell? ⟨bk, 0, none⟩ = some (.slice q2 done.length cap2) ∧ bk < w2.heap.size := fun w2 hw2 => by
          have hi := hw2.item (i := blk bk 22 [.slice q2 done.length cap2]) (by (repeat (first | exact List.Mem.head _ | apply List.Mem.tail)))
          exact ⟨hw2.below (s := w) (by (repeat (first | exact List.Mem.head _ | apply List.Mem.tail))) (Nat.le_refl _) (fun k hk => by (focus ((try simp only [add_block]); (repeat (first | exact NotOwned.nil | refine NotOwned.blk (by omega) ?_ | refine NotOwned.row (by omega) ?_ | refine NotOwned.grid (by assumption) (by omega) ?_)); done))), (hw2.kp w (by (repeat (first | exact List.Mem.head _ | apply List.Mem.tail)))).size, SlAt.of_row (hw2.item (i := row w.heap.size O2 q2 done.length cap2 9 1 (strs done)) (by (repeat (first | exact List.Mem.head _ | apply List.Mem.tail)))), by rw [blk_cell hi]; rfl, blk_lt hi⟩
        apply W.skip
        with_reducible apply At.next
        apply W.seq
        apply W.block
        apply W.seq
        apply W.reg
        apply omv; rfl; rfl
        apply OL.op; exact Guard.none; rfl; rfl; apply Pev.idx; rfl; exact yes; rfl; exact yes; rfl; rfl; intro hcond; omega
        apply OL.op; exact Guard.none; rfl; rfl; apply Pev.load_kept; rfl; exact yes; exact .head _; rfl; intro hcond; assumption; intro hcond; (rw [add_block]; assumption); intro hcond; simp only [add_block]; refine NotOwned.row (by omega) ?_; refine NotOwned.row (by omega) ?_; refine NotOwned.blk (by omega) ?_; exact NotOwned.nil
        apply oas; rfl; rfl
        apply oas; rfl; rfl
        apply OL.nil
        with_reducible apply At.next
        apply W.seq
        apply W.reg
        apply old; rfl; rfl; exact .tail _ (.tail _ (.head _)); rfl; rfl
        apply omv; rfl; rfl
        (((first | (with_reducible apply OL.op) | (with_reducible apply QL.op)); ((first | exact Guard.none | exact Guard.yes rfl rfl | exact Guard.no rfl rfl | exact Guard.cyes rfl rfl | exact Guard.cno rfl rfl)); rfl; rfl); (exact Pev.call rfl (by (repeat (first | exact Args.nil | (apply Args.cons rfl; ((first | exact fun _ => rfl | exact fun h => h | (intro h; simp_all; done))))))) (fun _ w2 hw2 => (Contains_calls q2 cap2 done u w2 (by omega) (hb2 w2 hw2).2.2.1).mono (fun e w3 h => ⟨h.1, hw2.ext h.2⟩))))
        apply OL.op; exact Guard.none; rfl; rfl; apply Pev.not; rfl; exact yes
        apply omv; rfl; rfl
        apply OL.op; exact Guard.yes rfl rfl; rfl; rfl; apply Pev.move; rfl; exact yes
        apply OL.op; exact Guard.yes rfl rfl; rfl; rfl; apply Pev.move; rfl; exact yes
        apply OL.op; exact Guard.yes rfl rfl; rfl; rfl; apply Pev.idx; rfl; exact fun h => h; rfl; exact fun h => h; rfl; rfl; intro hcond; omega
        apply OL.op; exact Guard.yes rfl rfl; rfl; rfl; apply Pev.load_kept; rfl; exact fun h => h; exact .head _; rfl; intro hcond; assumption; intro hcond; (rw [add_block]; assumption); intro hcond; simp only [add_block]; refine NotOwned.row (by omega) ?_; refine NotOwned.row (by omega) ?_; refine NotOwned.blk (by omega) ?_; exact NotOwned.nil
        apply OL.op; exact Guard.yes rfl rfl; rfl; rfl; apply Pev.makeFunc; exact Args.nil; apply Args.cons rfl; exact yes; exact Args.nil
        (((first | (with_reducible apply OL.op) | (with_reducible apply QL.op)); ((first | exact Guard.none | exact Guard.yes rfl rfl | exact Guard.no rfl rfl | exact Guard.cyes rfl rfl | exact Guard.cno rfl rfl)); rfl; rfl); (exact Pev.call rfl (by (repeat (first | exact Args.nil | (apply Args.cons rfl; ((first | exact fun _ => rfl | exact fun h => h | (intro h; simp_all; done))))))) (fun _ w2 hw2 => (ContainsFunc_calls qm capm m 20 [] [.pointer (some ⟨bk, 0, none⟩)] (fun s => !hasB done s) w2 hmlen (hms.keep (hb2 w2 hw2).1 (hb2 w2 hw2).2.1) rfl
          (fun s hs w3 hx => lit_calls bk q2 cap2 done s w3 (Nat.lt_of_lt_of_le (hb2 w2 hw2).2.2.2.2 hx.size) ((World.cell?_of_block (hx.below.block bk (hb2 w2 hw2).2.2.2.2)).trans (hb2 w2 hw2).2.2.2.1) (by omega) ((hb2 w2 hw2).2.2.1.ext hx (Nat.le_refl _)))).mono (fun e w3 h => ⟨h.1, hw2.ext h.2⟩))))
        apply OL.op; exact Guard.yes rfl rfl; rfl; rfl; apply Pev.not; rfl; exact fun h => h
        apply OL.op; exact Guard.none; rfl; rfl; apply Pev.pick_and; rfl; exact yes; rfl; exact fun h => h
        apply oas; rfl; rfl
        apply OL.nil
        with_reducible apply At.next
        apply W.seq
        apply W.reg
        apply omv; rfl; rfl
        apply omv; rfl; rfl
        apply OL.op; exact Guard.yes rfl rfl; rfl; rfl; apply Pev.move; rfl; exact yes
        apply OL.op; exact Guard.yes rfl rfl; rfl; rfl; apply Pev.bin; rfl; exact fun h => h; rfl; exact yes; intro hcond; apply Bin.lss
        apply OL.op; exact Guard.yes rfl rfl; rfl; rfl; apply Pev.move; rfl; exact fun h => h
        apply OL.op; exact Guard.cno rfl rfl; rfl; rfl; apply Pev.move; rfl; exact yes
        apply OL.op; exact Guard.cno rfl rfl; rfl; rfl; apply Pev.move; rfl; exact yes
        apply OL.op; exact Guard.cno rfl rfl; rfl; rfl; apply Pev.move; rfl; exact yes
        apply OL.op; exact Guard.cno rfl rfl; rfl; rfl; apply Pev.idxI; rfl; exact fun h => h; rfl; exact fun h => h; rfl; intro hcond; (simp only [Bool.and_eq_true, Bool.or_eq_true, Bool.not_eq_true', decide_eq_true_eq, decide_eq_false_iff_not] at *; omega)
        apply OL.op; exact Guard.cno rfl rfl; rfl; rfl; apply Pev.load_kept; rfl; exact fun h => h; exact .head _; rfl; intro hcond; apply hcellI; (simp only [Bool.and_eq_true, Bool.or_eq_true, Bool.not_eq_true', decide_eq_true_eq, decide_eq_false_iff_not] at *; omega); intro hcond; (rw [add_block]; assumption); intro hcond; simp only [add_block]; refine NotOwned.row (by omega) ?_; refine NotOwned.row (by omega) ?_; refine NotOwned.blk (by omega) ?_; exact NotOwned.nil
        apply OL.op; exact Guard.cno rfl rfl; rfl; rfl; apply Pev.bin; rfl; exact fun h => h; rfl; exact fun h => h; intro hcond; apply Bin.str_lss
        apply OL.op; exact Guard.yes rfl rfl; rfl; rfl; apply Pev.pick_or; rfl; exact fun h => h; rfl; exact fun h => h
        apply OL.op; exact Guard.none; rfl; rfl; apply Pev.pick_and; rfl; exact yes; rfl; exact fun h => h
        apply OL.nil
        with_reducible apply At.next
        refine W.cond rfl (fun hc => ?_) (fun hc => ?_)
        · have hbk : best l ll done (k + 1) = k := by
            rw [best_succ]; unfold Mo.step ready; rw [hnm, hgm]; exact if_pos hc
          apply W.reg
          apply omv; rfl; rfl
          apply oas; rfl; rfl
          apply OL.nil
          with_reducible apply At.in_normal
          with_reducible apply At.next
          apply W.reg
          apply obn; rfl; rfl; rfl; apply Bin.add_in; omega
          apply omv; rfl; rfl
          apply OL.nil
          exact At.again (k + 1) (by omega) (by omega) (by simp only [hbk]; (repeat (first | exact Sub.nil | apply Sub.cons rfl))) (fun w' hw' => hw')
        · have hbk : best l ll done (k + 1) = best l ll done k := by
            rw [best_succ]; unfold Mo.step ready; rw [hnm, hgm]; exact if_neg (by rw [hc]; simp)
          apply W.skip
          with_reducible apply At.in_normal
          with_reducible apply At.next
          apply W.reg
          apply obn; rfl; rfl; rfl; apply Bin.add_in; omega
          apply omv; rfl; rfl
          apply OL.nil
          exact At.again (k + 1) (by omega) (by omega) (by simp only [hbk]; (repeat (first | exact Sub.nil | apply Sub.cons rfl))) (fun w' hw' => hw')
      · obtain rfl : k = l.length := by omega
        apply W.exit
        with_reducible apply At.then_exit
        with_reducible apply At.then_exit
        with_reducible apply At.in_exit
        with_reducible apply At.next
        apply W.seq
        apply W.seq
        apply W.reg
        apply omv; rfl; rfl
        apply obn; rfl; rfl; rfl; apply Bin.lss
        apply OL.nil
        with_reducible apply At.next
        (refine W.cond rfl (fun hneg => ?_) (fun hneg => ?_)) <;> (try (simp only [Bool.and_eq_true, Bool.or_eq_true, Bool.not_eq_true', Bool.and_eq_false_iff, Bool.or_eq_false_iff, Bool.not_eq_false', decide_eq_true_eq, decide_eq_false_iff_not, Int.not_lt, Int.not_le] at hneg)) <;> (try (exfalso; first | omega | exact hneg trivial | contradiction))
        · apply W.seq
          apply W.reg
          apply oas; rfl; rfl
          apply oas; rfl; rfl
          apply OL.nil
          with_reducible apply At.next
          apply W.ret
          with_reducible apply At.then_ret
          with_reducible apply At.in_ret
          with_reducible apply At.then_ret
          with_reducible apply At.in_ret
          with_reducible apply At.then_ret
          ((with_reducible apply At.fin2); rfl; rfl; rfl; intro w' hw')
          rw [if_pos hneg] at hrest
          refine ⟨(none, 0), ?_, ?_, by (exact hw'.toExt (by (repeat (first | exact List.Mem.head _ | apply List.Mem.tail))) (fun k hk => by (focus ((try simp only [add_block]); (repeat (first | exact NotOwned.nil | refine NotOwned.blk (by omega) ?_ | refine NotOwned.row (by omega) ?_ | refine NotOwned.grid (by assumption) (by omega) ?_)); done))))⟩
          · simp [ordR, hok, ← hrest]
          · simp [ordR, hok, ← hrest, ints, SlAt]
        · rw [if_neg (by omega)] at hrest
          obtain ⟨a, u, rfl, hab, hu, hcell⟩ := h.str (show (best l ll done l.length).toNat < l.length by omega)
          have hnm : nm l (best l ll done l.length).toNat = u := getD_of hu
          rw [hnm] at hrest
          have hcellI : 0 ≤ best l ll done l.length → w.cell? (a.add ((best l ll done l.length).toNat * 1)) = some (.string u) := fun _ => hcell
          (apply W.skip)
          (with_reducible apply At.next)
          refine W.regany (X := X17 w.heap.size) (fun x e => [(7, true, bif e 11 then .slice (some ⟨x.g1, 0, none⟩) (out.length + 1) x.c1 else .slice q1 out.length cap1),
              (71, true, bif e 10 then .slice (some ⟨x.g2, 0, none⟩) (done.length + 1) x.c2 else x.old 71), (70, true, bif e 9 then .slice (some ⟨x.b2, 0, none⟩) 1 1 else x.old 70), (69, true, bif e 8 then .string u else x.old 69),
              (68, true, bif e 7 then .pointer (some (a.add ((best l ll done l.length).toNat * 1))) else x.old 68), (67, true, bif e 6 then .int .i64 (best l ll done l.length) else x.old 67), (66, true, bif e 5 then .slice (some a) l.length cap else x.old 66), (65, true, bif e 4 then .slice q2 done.length cap2 else x.old 65),
              (64, true, bif e 3 then .slice (some ⟨x.g1, 0, none⟩) (out.length + 1) x.c1 else x.old 64), (63, true, bif e 2 then .slice (some ⟨x.b1, 0, none⟩) 1 1 else x.old 63), (62, true, bif e 1 then .int .i64 (best l ll done l.length) else x.old 62), (61, true, bif e 0 then .slice q1 out.length cap1 else x.old 61),
              (8, true, .pointer (some ⟨bk, 0, none⟩)), (9, true, .int .i64 (best l ll done l.length)), (0, true, .slice (some a) l.length cap), (1, true, .slice q' ll.length cap')])
            (fun x e => [bif e 3 then row w.heap.size x.O1 (some ⟨x.g1, 0, none⟩) (out.length + 1) x.c1 3 1 (ints out ++ [.int .i64 (best l ll done l.length)]) else row w.heap.size O1 q1 out.length cap1 3 1 (ints out),
              bif e 10 then row w.heap.size x.O2 (some ⟨x.g2, 0, none⟩) (done.length + 1) x.c2 9 1 (strs done ++ [.string u]) else row w.heap.size O2 q2 done.length cap2 9 1 (strs done),
              blk bk 22 [bif e 12 then .slice (some ⟨x.g2, 0, none⟩) (done.length + 1) x.c2 else .slice q2 done.length cap2],
              bif e 2 then blk x.b1 3 [.int .i64 (best l ll done l.length)] else nothing, bif e 9 then blk x.b2 9 [.string u] else nothing])
            (fun old => ⟨0 + w.heap.size, by omega, 0, 0, fun _ => False, 0 + w.heap.size, by omega, 0, 0, fun _ => False, old⟩) (by kernel_rfl) (by kernel_rfl) (fun w hw => hw.drew) (fun old => by repeat (first | exact SubO.nil | apply SubO.cons rfl | refine SubO.old rfl ?_)) (fun old w' hw' => hw'.add_nothing.add_nothing) ?_ ?_
          · intro x e i o ho hei hd hcl
            have hx1 := x.hb1
            have hx2 := x.hb2
            have hi : i < 13 := (List.getElem?_eq_some_iff.1 ho).1
            obtain rfl | rfl | rfl | rfl | rfl | rfl | rfl | rfl | rfl | rfl | rfl | rfl | rfl : i = 0 ∨ i = 1 ∨ i = 2 ∨ i = 3 ∨ i = 4 ∨ i = 5 ∨ i = 6 ∨ i = 7 ∨ i = 8 ∨ i = 9 ∨ i = 10 ∨ i = 11 ∨ i = 12 := by omega
            · cases ho
              have h11 : e 11 = false := hcl.not (i := 0) (j := 11) rfl hei (by kernel_rfl)
              have v0 : Eng.upd e 0 0 = true := upd_eq
              have v11 : Eng.upd e 0 11 = false := h11
              simp only [hei, h11, cond_true, cond_false]
              apply omv; rfl; rfl
              apply OL.nil
              exact At.beside x (by repeat (first | exact Sub.nil | apply Sub.cons rfl | refine Sub.cons_eq rfl (by simp only [v0, v11, cond_true, cond_false]) ?_)) (fun w' hw' => by first | exact hw' | (simp only [v0, v11, cond_true, cond_false]; exact hw'))
            · cases ho
              have v1 : Eng.upd e 1 1 = true := upd_eq
              simp only [hei, cond_true, cond_false]
              apply omv; rfl; rfl
              apply OL.nil
              exact At.beside x (by repeat (first | exact Sub.nil | apply Sub.cons rfl | refine Sub.cons_eq rfl (by simp only [v1, cond_true, cond_false]) ?_)) (fun w' hw' => by first | exact hw' | (simp only [v1, cond_true, cond_false]; exact hw'))
            · cases ho
              have h1 : e 1 = true := hd ⟨1, .data⟩ (by simp) rfl
              have v2 : Eng.upd e 2 2 = true := upd_eq
              have v1 : Eng.upd e 2 1 = true := upd_mono h1
              simp only [hei, h1, cond_true, cond_false]
              apply OL.buildSlice; rfl; rfl; rfl; apply Elems.cons rfl; exact CellsL.one rfl; rfl; apply Elems.nil; apply App.cons; apply App.nil; rfl; rfl; (intro bk hbk; simp only [AllLe, and_true] at hbk)
              apply OL.nil
              exact At.beside { x with b1 := bk, hb1 := hbk } (by repeat (first | exact Sub.nil | apply Sub.cons rfl | refine Sub.cons_eq rfl (by simp only [v2, v1, cond_true, cond_false]) ?_)) (fun w' hw' => by simp only [v2, v1, cond_true, cond_false]; exact Cls.fill (p := 3) (H := [_, _, _, _, _]) (.s (.s (.s .z))) hw')
            · cases ho
              have h0 : e 0 = true := hd ⟨0, .data⟩ (by simp) rfl
              have h2 : e 2 = true := hd ⟨2, .data⟩ (by simp) rfl
              have h11 : e 11 = false := hcl.not (i := 3) (j := 11) rfl hei (by kernel_rfl)
              have v3 : Eng.upd e 3 3 = true := upd_eq
              have v0 : Eng.upd e 3 0 = true := upd_mono h0
              have v2 : Eng.upd e 3 2 = true := upd_mono h2
              have v11 : Eng.upd e 3 11 = false := h11
              simp only [hei, h0, h2, h11, cond_true, cond_false]
              apply OL.append; rfl; rfl; rfl; rfl; apply Hole.z; apply List.Mem.tail; exact .tail _ (.tail _ (.head _)); apply Take.succ; apply Take.zero; rfl; rfl; exact ⟨_, .head _, Nat.le_refl _⟩; omega; intro O1 g1 cap1
              apply OL.nil
              exact At.beside { x with g1 := g1, c1 := cap1, O1 := O1 } (by repeat (first | exact Sub.nil | apply Sub.cons rfl | refine Sub.cons_eq rfl (by simp only [v3, v0, v2, v11, cond_true, cond_false]) ?_)) (fun w' hw' => by first | exact hw' | (simp only [v3, v0, v2, v11, cond_true, cond_false]; exact hw'))
            · cases ho
              have h12 : e 12 = false := hcl.not (i := 4) (j := 12) rfl hei (by kernel_rfl)
              have v4 : Eng.upd e 4 4 = true := upd_eq
              have v12 : Eng.upd e 4 12 = false := h12
              simp only [hei, h12, cond_true, cond_false]
              apply old; rfl; rfl; exact .tail _ (.tail _ (.head _)); rfl; rfl
              apply OL.nil
              exact At.beside x (by repeat (first | exact Sub.nil | apply Sub.cons rfl | refine Sub.cons_eq rfl (by simp only [v4, v12, cond_true, cond_false]) ?_)) (fun w' hw' => by first | exact hw' | (simp only [v4, v12, cond_true, cond_false]; exact hw'))
            · cases ho
              have v5 : Eng.upd e 5 5 = true := upd_eq
              simp only [hei, cond_true, cond_false]
              apply omv; rfl; rfl
              apply OL.nil
              exact At.beside x (by repeat (first | exact Sub.nil | apply Sub.cons rfl | refine Sub.cons_eq rfl (by simp only [v5, cond_true, cond_false]) ?_)) (fun w' hw' => by first | exact hw' | (simp only [v5, cond_true, cond_false]; exact hw'))
            · cases ho
              have v6 : Eng.upd e 6 6 = true := upd_eq
              simp only [hei, cond_true, cond_false]
              apply omv; rfl; rfl
              apply OL.nil
              exact At.beside x (by repeat (first | exact Sub.nil | apply Sub.cons rfl | refine Sub.cons_eq rfl (by simp only [v6, cond_true, cond_false]) ?_)) (fun w' hw' => by first | exact hw' | (simp only [v6, cond_true, cond_false]; exact hw'))
            · cases ho
              have h5 : e 5 = true := hd ⟨5, .data⟩ (by simp) rfl
              have h6 : e 6 = true := hd ⟨6, .data⟩ (by simp) rfl
              have v7 : Eng.upd e 7 7 = true := upd_eq
              have v5 : Eng.upd e 7 5 = true := upd_mono h5
              have v6 : Eng.upd e 7 6 = true := upd_mono h6
              simp only [hei, h5, h6, cond_true, cond_false]
              apply OL.op; exact Guard.none; rfl; rfl; apply Pev.idxI; rfl; exact yes; rfl; exact yes; rfl; intro hcond; omega
              apply OL.nil
              exact At.beside x (by repeat (first | exact Sub.nil | apply Sub.cons rfl | refine Sub.cons_eq rfl (by simp only [v7, v5, v6, cond_true, cond_false]) ?_)) (fun w' hw' => by first | exact hw' | (simp only [v7, v5, v6, cond_true, cond_false]; exact hw'))
            · cases ho
              have h7 : e 7 = true := hd ⟨7, .data⟩ (by simp) rfl
              have v8 : Eng.upd e 8 8 = true := upd_eq
              have v7 : Eng.upd e 8 7 = true := upd_mono h7
              simp only [hei, h7, cond_true, cond_false]
              apply OL.op; exact Guard.none; rfl; rfl; apply Pev.load_kept; rfl; exact yes; exact .head _; rfl; intro hcond; assumption; intro hcond; (rw [add_block]; assumption); intro hcond; simp only [add_block]; apply NotOwned.bif; refine NotOwned.row (by omega) ?_; exact NotOwned.nil; refine NotOwned.row (by omega) ?_; exact NotOwned.nil; apply NotOwned.bif; refine NotOwned.row (by omega) ?_; exact NotOwned.nil; refine NotOwned.row (by omega) ?_; exact NotOwned.nil; refine NotOwned.blk (by omega) ?_; apply NotOwned.bif; refine NotOwned.blk (by omega) ?_; exact NotOwned.nil; refine NotOwned.nothing ?_; exact NotOwned.nil; apply NotOwned.bif; refine NotOwned.blk (by omega) ?_; exact NotOwned.nil; refine NotOwned.nothing ?_; exact NotOwned.nil; exact NotOwned.nil
              apply OL.nil
              exact At.beside x (by repeat (first | exact Sub.nil | apply Sub.cons rfl | refine Sub.cons_eq rfl (by simp only [v8, v7, cond_true, cond_false]) ?_)) (fun w' hw' => by first | exact hw' | (simp only [v8, v7, cond_true, cond_false]; exact hw'))
            · cases ho
              have h8 : e 8 = true := hd ⟨8, .data⟩ (by simp) rfl
              have v9 : Eng.upd e 9 9 = true := upd_eq
              have v8 : Eng.upd e 9 8 = true := upd_mono h8
              simp only [hei, h8, cond_true, cond_false]
              apply OL.buildSlice; rfl; rfl; rfl; apply Elems.cons rfl; exact CellsL.one rfl; rfl; apply Elems.nil; apply App.cons; apply App.nil; rfl; rfl; (intro bk hbk; simp only [AllLe, and_true] at hbk)
              apply OL.nil
              exact At.beside { x with b2 := bk, hb2 := hbk } (by repeat (first | exact Sub.nil | apply Sub.cons rfl | refine Sub.cons_eq rfl (by simp only [v9, v8, cond_true, cond_false]) ?_)) (fun w' hw' => by simp only [v9, v8, cond_true, cond_false]; exact Cls.fill (p := 4) (H := [_, _, _, _, _]) (.s (.s (.s (.s .z)))) hw')
            · cases ho
              have h4 : e 4 = true := hd ⟨4, .data⟩ (by simp) rfl
              have h9 : e 9 = true := hd ⟨9, .data⟩ (by simp) rfl
              have h12 : e 12 = false := hcl.not (i := 10) (j := 12) rfl hei (by kernel_rfl)
              have v10 : Eng.upd e 10 10 = true := upd_eq
              have v4 : Eng.upd e 10 4 = true := upd_mono h4
              have v9 : Eng.upd e 10 9 = true := upd_mono h9
              have v12 : Eng.upd e 10 12 = false := h12
              simp only [hei, h4, h9, h12, cond_true, cond_false]
              apply OL.append; rfl; rfl; rfl; rfl; apply Hole.s; apply Hole.z; apply List.Mem.tail; apply List.Mem.tail; exact .tail _ (.tail _ (.head _)); apply Take.succ; apply Take.zero; rfl; rfl; exact ⟨_, .head _, Nat.le_refl _⟩; omega; intro O1 g1 cap1
              apply OL.nil
              exact At.beside { x with g2 := g1, c2 := cap1, O2 := O1 } (by repeat (first | exact Sub.nil | apply Sub.cons rfl | refine Sub.cons_eq rfl (by simp only [v10, v4, v9, v12, cond_true, cond_false]) ?_)) (fun w' hw' => by first | exact hw' | (simp only [v10, v4, v9, v12, cond_true, cond_false]; exact hw'))
            · cases ho
              have h3 : e 3 = true := hd ⟨3, .data⟩ (by simp) rfl
              have v11 : Eng.upd e 11 11 = true := upd_eq
              have v3 : Eng.upd e 11 3 = true := upd_mono h3
              simp only [hei, h3, cond_true, cond_false]
              apply oas; rfl; rfl
              apply OL.nil
              exact At.beside x (by repeat (first | exact Sub.nil | apply Sub.cons rfl | refine Sub.cons_eq rfl (by simp only [v11, v3, cond_true, cond_false]) ?_)) (fun w' hw' => by first | exact hw' | (simp only [v11, v3, cond_true, cond_false]; exact hw'))
            · cases ho
              have h10 : e 10 = true := hd ⟨10, .data⟩ (by simp) rfl
              have v12 : Eng.upd e 12 12 = true := upd_eq
              have v10 : Eng.upd e 12 10 = true := upd_mono h10
              simp only [hei, h10, cond_true, cond_false]
              apply OL.storeB; rfl; rfl; exact CellsL.one rfl; rfl; rfl; rfl; apply Swap.s; apply Swap.s; apply Swap.z; apply Put.here; apply Over.cons; apply Over.nil
              apply OL.nil
              exact At.beside x (by repeat (first | exact Sub.nil | apply Sub.cons rfl | refine Sub.cons_eq rfl (by simp only [v12, v10, cond_true, cond_false]) ?_)) (fun w' hw' => by first | exact hw' | (simp only [v12, v10, cond_true, cond_false]; exact hw'))
          · intro x e hall
            have h2 := hall 2 (by decide)
            have h3 := hall 3 (by decide)
            have h9 := hall 9 (by decide)
            have h10 := hall 10 (by decide)
            have h11 := hall 11 (by decide)
            have h12 := hall 12 (by decide)
            simp only [h2, h3, h9, h10, h11, h12, cond_true]
            have hx1 := x.hb1
            have hx2 := x.hb2
            have e1 : (out ++ [(best l ll done l.length).toNat]).length = out.length + 1 := by simp
            have e2 : (done ++ [u]).length = done.length + 1 := by simp
            have e3 : ints (out ++ [(best l ll done l.length).toNat]) = ints out ++ [.int .i64 (best l ll done l.length)] := by simp [ints, Int.toNat_of_nonneg hneg]
            have e4 : strs (done ++ [u]) = strs done ++ [.string u] := by simp [strs]
            with_reducible apply At.in_normal
            exact At.again ⟨out ++ [(best l ll done l.length).toNat], done ++ [u], some ⟨x.g1, 0, none⟩, x.c1, x.O1, some ⟨x.g2, 0, none⟩, x.c2, x.O2⟩ ⟨by simp only [e1]; omega, by simp only [e1, e2]; omega, by simp only [e1]; exact hrest⟩ (by simp only [e1]; omega) (by simp only [e1, e2]; (repeat (first | exact Sub.nil | apply Sub.cons rfl))) (fun w' hw' => by simp only [e1, e2, e3, e4]; exact hw'.thin (by (repeat (first | exact Thin.nil | apply Thin.keep | (refine Thin.blk (by simp only [AllLe, and_true]; omega) ?_)))))
    · apply W.exit
      with_reducible apply At.then_exit
      with_reducible apply At.then_exit
      with_reducible apply At.in_exit
      with_reducible apply At.next
      apply W.seq
      apply W.reg
      apply omv; rfl; rfl
      apply oas; rfl; rfl
      apply oas; rfl; rfl
      apply OL.nil
      with_reducible apply At.next
      apply W.ret
      ((with_reducible apply At.fin2); rfl; rfl; rfl; intro w' hw')
      rw [show l.length - out.length = 0 by omega, ordFrom] at hrest
      refine ⟨(q1, cap1), ?_, ?_, by (exact hw'.toExt (by (repeat (first | exact List.Mem.head _ | apply List.Mem.tail))) (fun k hk => by (focus ((try simp only [add_block]); (repeat (first | exact NotOwned.nil | refine NotOwned.blk (by omega) ?_ | refine NotOwned.row (by omega) ?_ | refine NotOwned.grid (by assumption) (by omega) ?_)); done))))⟩
      · simp [ordR, hok, ← hrest]
      · have := SlAt.of_row (hw'.item (i := row w.heap.size O1 q1 out.length cap1 3 1 (ints out)) (by (repeat (first | exact List.Mem.head _ | apply List.Mem.tail))))
        simpa [ordR, hok, ← hrest] using this
end Go.Proofs.Ytmmjkpbpmhaooaa.mo
