/- The walk of the reference's ModuleOrder. Conditions: none. -/
import Derived.Test.YtmmjkpbpmhaooaaMoD
namespace Go.Proofs.Ytmmjkpbpmhaooaa.mo
open Go.RowKit Go.Eng Go.Mo
set_option linter.unusedVariables false
set_option maxRecDepth 100000

theorem SqAt.keep {w w' : World} {B B' : Nat} {q : Option Addr} {M : List (List Bool)} (h : SqAt w B q M) (hb : ∀ p : Addr, p.block < B → w'.cell? p = w.cell? p) (hB : B ≤ B') : SqAt w' B' q M := ⟨fun i r hr => by
  obtain ⟨a, q', rfl, hab, hc, hs⟩ := h.get i r hr
  exact ⟨a, q', rfl, by omega, (hb _ (by rw [add_block]; exact hab)).trans hc, hs.keep hb hB⟩⟩
theorem bool_at {w : World} {B : Nat} {q : Option Addr} {r : List Bool} (h : SlAt w B q (bools r)) {j : Nat} (hj : j < r.length) : ∃ a b, q = some a ∧ a.block < B ∧ r[j]? = some b ∧ w.cell? (a.add (j * 1)) = some (.bool b) := by
  obtain ⟨a, rfl, hab, hc⟩ := h (by simp [bools]; omega)
  have hs : r[j]? = some r[j] := List.getElem?_eq_getElem hj
  exact ⟨a, r[j], rfl, hab, hs, by rw [Nat.mul_one]; exact hc j _ (by simp [bools, hs])⟩
structure GF where
  out : List Nat
  q1 : Option Addr
  cap1 : Nat
  O1 : Nat → Prop

theorem ModuleOrder_calls (q q' : Option Addr) (cap cap' : Nat) (l : List ByteArray) (ll : List (List ByteArray)) (w : World) (hl16 : l.length ≤ 16) (hll : ll.length = l.length) (hcap : l.length ≤ cap) (h : SlAt w w.heap.size q (strs l)) (h' : StrRows w w.heap.size q' ll) :
    Calls Try.prog 10 #[.slice q l.length cap, .slice q' ll.length cap'] w fun e w' =>
      ∃ (M : List (List Bool)) (x : Option Addr × Nat), e = .returned (.slice x.1 ((mordFrom l M l.length []).getD []).length x.2) ∧ GoodM l ll M ∧ SlAt w' w'.heap.size x.1 (ints ((mordFrom l M l.length []).getD [])) ∧
        (x.1 = none ↔ (mordFrom l M l.length []).getD [] = []) ∧ Ext w w' := by
  refine enter Try.func10 rfl Try.ntmps10 rfl (Cls.start w) ?_
  (simp only [argEnv, Nat.zero_add, Nat.reduceAdd])
  apply W.seq
  apply W.reg
  apply oas; rfl; rfl
  apply OL.nil
  with_reducible apply At.next
  apply W.seq
  apply W.reg
  apply omv; rfl; rfl
  apply omv; rfl; rfl
  refine OL.callE (α := List (List Bool) × Option Addr × World) (fun x => .slice x.2.1 l.length l.length) (fun x => GoodM l ll x.1 ∧ SqAt x.2.2 x.2.2.heap.size x.2.1 x.1 ∧ Ext w x.2.2) (fun x => Cls [] [x.2.2, w]) rfl rfl (by (repeat (first | exact Args.nil | (apply Args.cons rfl; ((first | exact fun _ => rfl | exact fun h => h | (intro h; simp_all; done))))))) (fun w2 hw2 => ?_) ?_
  · have h1 := hw2.below (s := w) (by (repeat (first | exact List.Mem.head _ | apply List.Mem.tail))) (Nat.le_refl _) (fun k hk => by (focus ((try simp only [add_block]); (repeat (first | exact NotOwned.nil | refine NotOwned.blk (by omega) ?_ | refine NotOwned.row (by omega) ?_ | refine NotOwned.grid (by assumption) (by omega) ?_)); done)))
    have h2 := (hw2.kp w (by (repeat (first | exact List.Mem.head _ | apply List.Mem.tail)))).size
    refine (Reaches_calls q q' cap cap' l ll w2 hl16 hll hcap (h.keep h1 h2) (h'.keep h1 h2)).mono (fun e w3 ⟨M, a, he, hM, hsq, hx⟩ => ?_)
    exact ⟨(M, a, w3), he, ⟨hM, hsq, (hw2.toExt (s := w) (by (repeat (first | exact List.Mem.head _ | apply List.Mem.tail))) (fun k hk => by (focus ((try simp only [add_block]); (repeat (first | exact NotOwned.nil | refine NotOwned.blk (by omega) ?_ | refine NotOwned.row (by omega) ?_ | refine NotOwned.grid (by assumption) (by omega) ?_)); done)))).trans hx⟩, (hw2.ext hx).note⟩
  rintro ⟨M, qm, w1⟩ ⟨hM, hsq, hx⟩
  simp only at hM hsq hx ⊢
  replace h := h.ext hx (Nat.le_refl _)
  have hws := hx.size
  apply oas; rfl; rfl
  apply OL.nil
  with_reducible apply At.next
  apply W.seq
  apply W.reg
  apply oas; rfl; rfl
  apply OL.nil
  with_reducible apply At.next
  apply W.seq
  apply W.reg
  apply omv; rfl; rfl
  apply OL.op; exact Guard.none; rfl; rfl; apply Pev.len_slice; rfl; exact yes; rfl
  apply OL.makeSlice; rfl; rfl; rfl; rfl; rfl; rfl; rfl; omega; (intro bk hbk; simp only [AllLe, and_true] at hbk)
  apply oas; rfl; rfl
  apply OL.nil
  with_reducible apply At.next
  apply W.seq
  apply W.seq
  apply W.reg
  apply omv; rfl; rfl
  apply OL.op; exact Guard.none; rfl; rfl; apply Pev.len_slice; rfl; exact yes; rfl
  apply omv; rfl; rfl
  apply OL.nil
  with_reducible apply At.next
  apply W.block
  have hu0 : ([] : List Value) ++ List.replicate l.length (.bool false) = bools (usedL l.length []) := by simp [usedL, bools, Function.comp_def, List.map_const']
  rw [List.nil_append] at hu0
  rw [hu0]
  refine W.loop (G := GF) (fun g => g.out.length ≤ l.length ∧ mordFrom l M (l.length - g.out.length) g.out = mordFrom l M l.length [] ∧ (g.q1 = none ↔ g.out = [])) (fun g => l.length - g.out.length)
    (fun g => [(20, true, .int .i64 (g.out.length : Int)), (19, true, .int .i64 (l.length : Int)), (7, true, .slice (some ⟨bk, 0, none⟩) l.length l.length), (6, true, .slice g.q1 g.out.length g.cap1), (5, true, .slice qm l.length l.length), (0, true, .slice q l.length cap)])
    (fun g => Cls [row w1.heap.size g.O1 g.q1 g.out.length g.cap1 3 1 (ints g.out), blk bk 4 (bools (usedL l.length g.out))] [w1, w])
    ⟨[], none, 0, fun _ => False⟩ ⟨by simp, by simp, by simp⟩ (by (repeat (first | exact Sub.nil | apply Sub.cons rfl))) (fun w' hw' => hw'.row_nil _ _ _) ?_
  rintro ⟨out, q1, cap1, O1⟩ ⟨hol, hrest, hnil⟩
  simp only at hol hrest hnil ⊢
  apply W.seq
  apply W.reg
  apply obn; rfl; rfl; rfl; apply Bin.lss
  apply OL.nil
  with_reducible apply At.next
  apply W.seq
  (refine W.cond rfl (fun hlt => ?_) (fun hlt => ?_)) <;> (try (simp only [Bool.and_eq_true, Bool.or_eq_true, Bool.not_eq_true', Bool.and_eq_false_iff, Bool.or_eq_false_iff, Bool.not_eq_false', decide_eq_true_eq, decide_eq_false_iff_not, Int.not_lt, Int.not_le] at hlt)) <;> (try (exfalso; first | omega | exact hlt trivial | contradiction))
  · have hfuel : l.length - out.length = (l.length - (out.length + 1)) + 1 := by omega
    rw [hfuel, mordFrom] at hrest
    apply W.skip
    with_reducible apply At.next
    apply W.seq
    apply W.block
    apply W.seq
    apply W.reg
    apply oas; rfl; rfl
    apply OL.nil
    with_reducible apply At.next
    apply W.seq
    apply W.seq
    apply W.reg
    apply omv; rfl; rfl
    apply OL.op; exact Guard.none; rfl; rfl; apply Pev.len_slice; rfl; exact yes; rfl
    apply omv; rfl; rfl
    apply OL.nil
    with_reducible apply At.next
    apply W.block
    refine W.loop (G := Nat) (fun k => k ≤ l.length) (fun k => l.length - k)
      (fun k => [(24, true, .int .i64 (k : Int)), (23, true, .int .i64 (l.length : Int)), (8, true, .int .i64 (bestR l M out k)), (20, true, .int .i64 (out.length : Int)), (19, true, .int .i64 (l.length : Int)), (7, true, .slice (some ⟨bk, 0, none⟩) l.length l.length), (6, true, .slice q1 out.length cap1), (5, true, .slice qm l.length l.length), (0, true, .slice q l.length cap)])
      (fun k => Cls [row w1.heap.size O1 q1 out.length cap1 3 1 (ints out), blk bk 4 (bools (usedL l.length out))] [w1, w])
      0 (by omega) (by (repeat (first | exact Sub.nil | apply Sub.cons rfl))) (fun w' hw' => hw') ?_
    intro k hk
    have hbi := bestR_in l M out k
    apply W.seq
    apply W.reg
    apply obn; rfl; rfl; rfl; apply Bin.lss
    apply OL.nil
    with_reducible apply At.next
    apply W.seq
    (refine W.cond rfl (fun hlt2 => ?_) (fun hlt2 => ?_)) <;> (try (simp only [Bool.and_eq_true, Bool.or_eq_true, Bool.not_eq_true', Bool.and_eq_false_iff, Bool.or_eq_false_iff, Bool.not_eq_false', decide_eq_true_eq, decide_eq_false_iff_not, Int.not_lt, Int.not_le] at hlt2)) <;> (try (exfalso; first | omega | exact hlt2 trivial | contradiction))
    · have hkl : k < l.length := by omega
      obtain ⟨a, u, rfl, hab, hu, hcell⟩ := h.str hkl
      have hnm : nm l k = u := getD_of hu
      obtain ⟨r, hr⟩ : ∃ r, M[k]? = some r := ⟨_, List.getElem?_eq_getElem (by rw [hM.len]; exact hkl)⟩
      have hrl := hM.row _ _ hr
      obtain ⟨am, qr, rfl, ham, hcm, hsr⟩ := hsq.get k r hr
      rw [hrl] at hcm
      have hcellI : 0 ≤ bestR l M out k → w1.cell? (a.add ((bestR l M out k).toNat * 1)) = some (.string (nm l (bestR l M out k).toNat)) := fun h0 => by
        obtain ⟨a', s', he, _, hs', hc'⟩ := h.str (show (bestR l M out k).toNat < l.length by omega)
        cases he
        rw [hc', show nm l (bestR l M out k).toNat = s' from getD_of hs']
      have hused : ∀ j, j < l.length → (bools (usedL l.length out))[0 + (j : Int).toNat * 1]? = some (.bool (decide (j ∈ out))) := fun j hj => by
        rw [show 0 + (j : Int).toNat * 1 = j by omega]
        exact bools_get (usedL_get out hj)
      have huk := hused k hkl
      apply W.skip
      with_reducible apply At.next
      apply W.seq
      apply W.block
      apply W.seq
      apply W.reg
      apply omv; rfl; rfl
      apply oas; rfl; rfl
      apply OL.nil
      with_reducible apply At.next
      apply W.seq
      apply W.reg
      apply omv; rfl; rfl
      apply omv; rfl; rfl
      apply OL.op; exact Guard.none; rfl; rfl; apply Pev.idxB; rfl; exact yes; rfl; exact yes; rfl; intro hcond; omega; rfl
      apply OL.op; exact Guard.none; rfl; rfl; apply Pev.load_blk; rfl; exact yes; exact .tail _ (.head _); rfl; assumption
      apply OL.op; exact Guard.none; rfl; rfl; apply Pev.not; rfl; exact yes
      apply oas; rfl; rfl
      apply OL.nil
      with_reducible apply At.next
      apply W.seq
      apply W.seq
      apply W.reg
      apply omv; rfl; rfl
      apply OL.op; exact Guard.none; rfl; rfl; apply Pev.len_slice; rfl; exact yes; rfl
      apply omv; rfl; rfl
      apply OL.nil
      with_reducible apply At.next
      apply W.block
      refine W.loop (G := Nat) (fun j => j ≤ l.length) (fun j => l.length - j)
        (fun j => [(34, true, .int .i64 (j : Int)), (33, true, .int .i64 (l.length : Int)), (10, true, .bool (okTo M out k j)), (9, true, .int .i64 (k : Int)), (24, true, .int .i64 (k : Int)), (23, true, .int .i64 (l.length : Int)), (8, true, .int .i64 (bestR l M out k)), (20, true, .int .i64 (out.length : Int)), (19, true, .int .i64 (l.length : Int)), (7, true, .slice (some ⟨bk, 0, none⟩) l.length l.length), (6, true, .slice q1 out.length cap1), (5, true, .slice (some am) l.length l.length), (0, true, .slice (some a) l.length cap)])
        (fun j => Cls [row w1.heap.size O1 q1 out.length cap1 3 1 (ints out), blk bk 4 (bools (usedL l.length out))] [w1, w])
        0 (by omega) (by simp only [okTo_zero]; (repeat (first | exact Sub.nil | apply Sub.cons rfl))) (fun w' hw' => hw') ?_
      intro j hj
      apply W.seq
      apply W.reg
      apply obn; rfl; rfl; rfl; apply Bin.lss
      apply OL.nil
      with_reducible apply At.next
      apply W.seq
      (refine W.cond rfl (fun hlt3 => ?_) (fun hlt3 => ?_)) <;> (try (simp only [Bool.and_eq_true, Bool.or_eq_true, Bool.not_eq_true', Bool.and_eq_false_iff, Bool.or_eq_false_iff, Bool.not_eq_false', decide_eq_true_eq, decide_eq_false_iff_not, Int.not_lt, Int.not_le] at hlt3)) <;> (try (exfalso; first | omega | exact hlt3 trivial | contradiction))
      · have hjl : j < l.length := by omega
        obtain ⟨ar, b, rfl, har, hrb, hcb⟩ := bool_at hsr (show j < r.length by omega)
        have huj := hused j hjl
        have hb : mget M k j = b := mget_of hr hrb
        have hks := okTo_succ M out k j
        apply W.skip
        with_reducible apply At.next
        apply W.seq
        apply W.block
        apply W.seq
        apply W.reg
        apply omv; rfl; rfl
        apply oas; rfl; rfl
        apply OL.nil
        with_reducible apply At.next
        apply W.seq
        apply W.reg
        apply omv; rfl; rfl
        apply omv; rfl; rfl
        apply OL.op; exact Guard.none; rfl; rfl; apply Pev.idx; rfl; exact yes; rfl; exact yes; rfl; rfl; intro hcond; omega
        apply OL.op; exact Guard.none; rfl; rfl; apply Pev.load_kept; rfl; exact yes; exact .head _; rfl; intro hcond; assumption; intro hcond; (rw [add_block]; assumption); intro hcond; simp only [add_block]; refine NotOwned.row (by omega) ?_; refine NotOwned.blk (by omega) ?_; exact NotOwned.nil
        apply omv; rfl; rfl
        apply OL.op; exact Guard.none; rfl; rfl; apply Pev.idx; rfl; exact yes; rfl; exact yes; rfl; rfl; intro hcond; omega
        apply OL.op; exact Guard.none; rfl; rfl; apply Pev.load_kept; rfl; exact yes; exact .head _; rfl; intro hcond; assumption; intro hcond; (rw [add_block]; assumption); intro hcond; simp only [add_block]; refine NotOwned.row (by omega) ?_; refine NotOwned.blk (by omega) ?_; exact NotOwned.nil
        apply omv; rfl; rfl
        apply OL.op; exact Guard.yes rfl rfl; rfl; rfl; apply Pev.move; rfl; exact yes
        apply OL.op; exact Guard.yes rfl rfl; rfl; rfl; apply Pev.move; rfl; exact yes
        apply OL.op; exact Guard.yes rfl rfl; rfl; rfl; apply Pev.idxB; rfl; exact fun h => h; rfl; exact fun h => h; rfl; intro hcond; omega; rfl
        apply OL.op; exact Guard.yes rfl rfl; rfl; rfl; apply Pev.load_blk; rfl; exact fun h => h; exact .tail _ (.head _); rfl; assumption
        apply OL.op; exact Guard.yes rfl rfl; rfl; rfl; apply Pev.not; rfl; exact fun h => h
        apply OL.op; exact Guard.yes rfl rfl; rfl; rfl; apply Pev.move; rfl; exact fun h => h
        apply OL.op; exact Guard.cno rfl rfl; rfl; rfl; apply Pev.move; rfl; exact yes
        apply OL.op; exact Guard.cno rfl rfl; rfl; rfl; apply Pev.move; rfl; exact yes
        apply OL.op; exact Guard.cno rfl rfl; rfl; rfl; apply Pev.bin; rfl; exact fun h => h; rfl; exact fun h => h; intro hcond; apply Bin.eql
        apply OL.op; exact Guard.yes rfl rfl; rfl; rfl; apply Pev.pick_or; rfl; exact fun h => h; rfl; exact fun h => h
        apply OL.op; exact Guard.none; rfl; rfl; apply Pev.pick_and; rfl; exact yes; rfl; exact fun h => h
        apply OL.nil
        with_reducible apply At.next
        refine W.cond rfl (fun hc => ?_) (fun hc => ?_)
        · have e1 : okTo M out k (j + 1) = false := by
            rw [hks, bad, hb]
            simp only [Bool.and_eq_true, Bool.or_eq_true, decide_eq_true_eq] at hc
            simp [hc.1]
            intro _ hd
            rcases hc.2 with h2 | h2
            · simp [hd] at h2
            · omega
          apply W.reg
          apply oas; rfl; rfl
          apply OL.nil
          with_reducible apply At.in_normal
          with_reducible apply At.next
          apply W.reg
          apply obn; rfl; rfl; rfl; apply Bin.add_in; omega
          apply omv; rfl; rfl
          apply OL.nil
          exact At.again (j + 1) (by omega) (by omega) (by simp only [e1]; (repeat (first | exact Sub.nil | apply Sub.cons rfl))) (fun w' hw' => hw')
        · have e1 : okTo M out k (j + 1) = okTo M out k j := by
            rw [hks, bad, hb]
            have : (b && (!decide (j ∈ out) || decide (k = j))) = false := by
              rw [← hc]
              have : decide (k = j) = decide ((k : Int) = (j : Int)) := by
                by_cases e : k = j
                · simp [e]
                · have e2 : ¬ (k : Int) = (j : Int) := by omega
                  simp [e, e2]
              rw [this]
            rw [this]; simp
          apply W.skip
          with_reducible apply At.in_normal
          with_reducible apply At.next
          apply W.reg
          apply obn; rfl; rfl; rfl; apply Bin.add_in; omega
          apply omv; rfl; rfl
          apply OL.nil
          exact At.again (j + 1) (by omega) (by omega) (by simp only [e1]; (repeat (first | exact Sub.nil | apply Sub.cons rfl))) (fun w' hw' => hw')
      · obtain rfl : j = l.length := by omega
        apply W.exit
        with_reducible apply At.then_exit
        with_reducible apply At.then_exit
        with_reducible apply At.in_exit
        with_reducible apply At.next
        apply W.seq
        apply W.regd; kernel_rfl; kernel_rfl; exact fun w hw => hw.drew
        apply qmv; rfl; rfl
        apply qmv; rfl; rfl
        apply QL.op; exact Guard.yes rfl rfl; rfl; rfl; apply Pev.move; rfl; exact yes
        apply QL.op; exact Guard.yes rfl rfl; rfl; rfl; apply Pev.bin; rfl; exact fun h => h; rfl; exact yes; intro hcond; apply Bin.lss
        apply QL.op; exact Guard.yes rfl rfl; rfl; rfl; apply Pev.move; rfl; exact fun h => h
        apply QL.op; exact Guard.cno rfl rfl; rfl; rfl; apply Pev.move; rfl; exact yes
        apply QL.op; exact Guard.cno rfl rfl; rfl; rfl; apply Pev.move; rfl; exact yes
        apply QL.op; exact Guard.cno rfl rfl; rfl; rfl; apply Pev.idx; rfl; exact fun h => h; rfl; exact fun h => h; rfl; rfl; intro hcond; omega
        apply QL.op; exact Guard.cno rfl rfl; rfl; rfl; apply Pev.load_kept; rfl; exact fun h => h; exact .head _; rfl; intro hcond; assumption; intro hcond; (rw [add_block]; assumption); intro hcond; simp only [add_block]; refine NotOwned.row (by omega) ?_; refine NotOwned.blk (by omega) ?_; exact NotOwned.nil
        apply QL.op; exact Guard.cno rfl rfl; rfl; rfl; apply Pev.move; rfl; exact yes
        apply QL.op; exact Guard.cno rfl rfl; rfl; rfl; apply Pev.move; rfl; exact yes
        apply QL.op; exact Guard.cno rfl rfl; rfl; rfl; apply Pev.idxI; rfl; exact fun h => h; rfl; exact fun h => h; rfl; intro hcond; (simp only [Bool.and_eq_true, Bool.or_eq_true, Bool.not_eq_true', decide_eq_true_eq, decide_eq_false_iff_not] at *; omega)
        apply QL.op; exact Guard.cno rfl rfl; rfl; rfl; apply Pev.load_kept; rfl; exact fun h => h; exact .head _; rfl; intro hcond; apply hcellI; (simp only [Bool.and_eq_true, Bool.or_eq_true, Bool.not_eq_true', decide_eq_true_eq, decide_eq_false_iff_not] at *; omega); intro hcond; (rw [add_block]; assumption); intro hcond; simp only [add_block]; refine NotOwned.row (by omega) ?_; refine NotOwned.blk (by omega) ?_; exact NotOwned.nil
        apply QL.op; exact Guard.cno rfl rfl; rfl; rfl; apply Pev.bin; rfl; exact fun h => h; rfl; exact fun h => h; intro hcond; apply Bin.str_lss
        apply QL.op; exact Guard.yes rfl rfl; rfl; rfl; apply Pev.pick_or; rfl; exact fun h => h; rfl; exact fun h => h
        apply QL.op; exact Guard.none; rfl; rfl; apply Pev.pick_and; rfl; exact yes; rfl; exact fun h => h
        apply QL.nil
        with_reducible apply At.next
        refine W.cond rfl (fun hc => ?_) (fun hc => ?_)
        · have hbk : bestR l M out (k + 1) = k := by
            rw [bestR_succ]; unfold Mo.stepR; rw [hnm]; exact if_pos hc
          apply W.reg
          apply omv; rfl; rfl
          apply oas; rfl; rfl
          apply OL.nil
          with_reducible apply At.in_normal
          with_reducible apply At.next
          apply W.reg
          apply obn; rfl; rfl; rfl; apply Bin.add_in; omega
          apply omv; rfl; rfl
          apply OL.nil
          exact At.again (k + 1) (by omega) (by omega) (by simp only [hbk]; (repeat (first | exact Sub.nil | apply Sub.cons rfl))) (fun w' hw' => hw')
        · have hbk : bestR l M out (k + 1) = bestR l M out k := by
            rw [bestR_succ]; unfold Mo.stepR; rw [hnm]; exact if_neg (by rw [hc]; simp)
          apply W.skip
          with_reducible apply At.in_normal
          with_reducible apply At.next
          apply W.reg
          apply obn; rfl; rfl; rfl; apply Bin.add_in; omega
          apply omv; rfl; rfl
          apply OL.nil
          exact At.again (k + 1) (by omega) (by omega) (by simp only [hbk]; (repeat (first | exact Sub.nil | apply Sub.cons rfl))) (fun w' hw' => hw')
    · obtain rfl : k = l.length := by omega
      apply W.exit
      with_reducible apply At.then_exit
      with_reducible apply At.then_exit
      with_reducible apply At.in_exit
      with_reducible apply At.next
      apply W.seq
      apply W.seq
      apply W.reg
      apply omv; rfl; rfl
      apply obn; rfl; rfl; rfl; apply Bin.lss
      apply OL.nil
      with_reducible apply At.next
      (refine W.cond rfl (fun hneg => ?_) (fun hneg => ?_)) <;> (try (simp only [Bool.and_eq_true, Bool.or_eq_true, Bool.not_eq_true', Bool.and_eq_false_iff, Bool.or_eq_false_iff, Bool.not_eq_false', decide_eq_true_eq, decide_eq_false_iff_not, Int.not_lt, Int.not_le] at hneg)) <;> (try (exfalso; first | omega | exact hneg trivial | contradiction))
      · apply W.seq
        apply W.reg
        apply oas; rfl; rfl
        apply OL.nil
        with_reducible apply At.next
        apply W.ret
        with_reducible apply At.then_ret
        with_reducible apply At.in_ret
        with_reducible apply At.then_ret
        with_reducible apply At.then_ret
        with_reducible apply At.in_ret
        with_reducible apply At.then_ret
        ((with_reducible apply At.fin1); rfl; rfl; intro w' hw')
        rw [if_pos hneg] at hrest
        refine ⟨M, (none, 0), ?_, hM, ?_, ?_, by (exact hw'.toExt (by (repeat (first | exact List.Mem.head _ | apply List.Mem.tail))) (fun k hk => by (focus ((try simp only [add_block]); (repeat (first | exact NotOwned.nil | refine NotOwned.blk (by omega) ?_ | refine NotOwned.row (by omega) ?_ | refine NotOwned.grid (by assumption) (by omega) ?_)); done))))⟩
        · simp [← hrest]
        · simp [← hrest, ints, SlAt]
        · simp [← hrest]
      · rw [if_neg (by omega)] at hrest
        have hbl : (bestR l M out l.length).toNat < l.length := by omega
        apply W.skip
        with_reducible apply At.next
        apply W.seq
        apply W.reg
        apply omv; rfl; rfl
        apply omv; rfl; rfl
        apply OL.op; exact Guard.none; rfl; rfl; apply Pev.idxB; rfl; exact yes; rfl; exact yes; rfl; intro hcond; omega; rfl
        rw [show 0 + (bestR l M out l.length).toNat * 1 = (bestR l M out l.length).toNat by omega]
        (apply OL.storeI); rfl; rfl; rfl; rfl; rfl; ((repeat (first | apply Swap.z | apply Swap.s))); (simp [bools, usedL]; omega)
        rw [bools_set, usedL_set out hbl]
        apply OL.nil
        with_reducible apply At.next
        apply W.reg
        apply omv; rfl; rfl
        apply omv; rfl; rfl
        apply OL.buildSlice; rfl; rfl; rfl; apply Elems.cons rfl; exact CellsL.one rfl; rfl; apply Elems.nil; apply App.cons; apply App.nil; rfl; rfl; (intro bk hbk; simp only [AllLe, and_true] at hbk)
        apply OL.append; rfl; rfl; rfl; rfl; apply Hole.s; apply Hole.z; exact .head _; apply Take.succ; apply Take.zero; rfl; rfl; exact ⟨_, .head _, Nat.le_refl _⟩; omega; intro O1 g1 cap1
        apply oas; rfl; rfl
        apply OL.nil
        with_reducible apply At.in_normal
        with_reducible apply At.next
        apply W.reg
        apply obn; rfl; rfl; rfl; apply Bin.add_in; omega
        apply omv; rfl; rfl
        apply OL.nil
        have e1 : (out ++ [(bestR l M out l.length).toNat]).length = out.length + 1 := by simp
        have e3 : ints (out ++ [(bestR l M out l.length).toNat]) = ints out ++ [.int .i64 (bestR l M out l.length)] := by simp [ints, Int.toNat_of_nonneg hneg]
        exact At.again ⟨out ++ [(bestR l M out l.length).toNat], some ⟨g1, 0, none⟩, cap1, O1⟩ ⟨by simp only [e1]; omega, by simp only [e1]; exact hrest, by simp⟩ (by simp only [e1]; omega) (by simp only [e1]; (repeat (first | exact Sub.nil | apply Sub.cons rfl))) (fun w' hw' => by simp only [e1, e3]; exact hw'.thin (by (repeat (first | exact Thin.nil | apply Thin.keep | (refine Thin.blk (by simp only [AllLe, and_true]; omega) ?_)))))
  · apply W.exit
    with_reducible apply At.then_exit
    with_reducible apply At.then_exit
    with_reducible apply At.in_exit
    with_reducible apply At.next
    apply W.seq
    apply W.reg
    apply omv; rfl; rfl
    apply oas; rfl; rfl
    apply OL.nil
    with_reducible apply At.next
    apply W.ret
    ((with_reducible apply At.fin1); rfl; rfl; intro w' hw')
    rw [show l.length - out.length = 0 by omega, mordFrom] at hrest
    refine ⟨M, (q1, cap1), ?_, hM, ?_, ?_, by (exact hw'.toExt (by (repeat (first | exact List.Mem.head _ | apply List.Mem.tail))) (fun k hk => by (focus ((try simp only [add_block]); (repeat (first | exact NotOwned.nil | refine NotOwned.blk (by omega) ?_ | refine NotOwned.row (by omega) ?_ | refine NotOwned.grid (by assumption) (by omega) ?_)); done))))⟩
    · simp [← hrest]
    · have := SlAt.of_row (hw'.item (i := row w1.heap.size O1 q1 out.length cap1 3 1 (ints out)) (by (repeat (first | exact List.Mem.head _ | apply List.Mem.tail))))
      simpa [← hrest] using this
    · simpa [← hrest] using hnil
end Go.Proofs.Ytmmjkpbpmhaooaa.mo
