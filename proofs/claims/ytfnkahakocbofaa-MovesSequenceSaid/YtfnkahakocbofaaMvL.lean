/- The walk of the law MovesSequence: it returns true. Conditions: none. -/
import Derived.Test.YtfnkahakocbofaaMvF
namespace Go.Proofs.Ytfnkahakocbofaa.mv
open Go.RowKit Go.Eng Go.Mv
set_option linter.unusedVariables false
set_option maxRecDepth 100000

theorem seqR_12 : seqR [(1, 2), (2, 1)] 9 = ([(9, 1), (1, 2), (2, 9)], 0) := by kernel_rfl
theorem seqF_len (spare : Int) : ∀ (f : Nat) (left out : List Pr), left.length = f → (seqF spare f left out).length ≤ out.length + 2 * f
  | 0, left, out, _ => by rw [seqF]; omega
  | f + 1, left, out, hl => by
    rw [seqF, if_neg (by omega)]
    split
    · have := seqF_len spare f ((left.map (redirP spare (left.getD 0 (0, 0)).1)).eraseIdx 0) ((out ++ [(spare, (left.getD 0 (0, 0)).1)]) ++ [(left.map (redirP spare (left.getD 0 (0, 0)).1)).getD 0 (0, 0)]) (by rw [List.length_eraseIdx, List.length_map, if_pos (by omega), hl]; rfl)
      simp only [List.length_append, List.length_cons, List.length_nil] at this
      omega
    · rename_i hneg
      have hlt : (atF left).toNat < left.length := by
        rcases idxP_cases (freeP left) left 0 with ⟨h1, _⟩ | ⟨i, x, h1, _, h3, _⟩
        · rw [← atF] at h1; omega
        · rw [← atF] at h3
          have := (List.getElem?_eq_some_iff.1 h1).1
          omega
      have := seqF_len spare f (left.eraseIdx (atF left).toNat) (out ++ [left.getD (atF left).toNat (0, 0)]) (by rw [List.length_eraseIdx, if_pos hlt, hl]; rfl)
      simp only [List.length_append, List.length_cons, List.length_nil] at this
      omega
theorem seqR_len (l : List Pr) (spare : Int) : (seqR l spare).1.length ≤ 2 * l.length := by
  unfold seqR
  split
  · have h1 := seqF_len spare (leftF l).length (leftF l) [] rfl
    have h2 : (leftF l).length ≤ l.length := List.length_filter_le _ _
    simp only [List.length_nil] at h1
    simp only
    omega
  · simp
structure GL where
  j : Nat
  names : List Int
  vals : List Int
  x : NV

theorem law_calls (q : Option Addr) (cap : Nat) (l0 : List Pr) (spare : Int) (w : World) (hlen0 : l0.length ≤ 9223372036854775807) (hcap0 : l0.length ≤ cap) (h0 : SlAt w w.heap.size q (cat pcell l0)) :
    Calls Try.prog 3 #[.slice q l0.length cap, .int .i64 spare] w fun e w' => e = .returned (.bool true) ∧ Ext w w' := by
  refine enter Try.func3 rfl Try.ntmps3 rfl (Cls.start w) ?_
  (simp only [argEnv, Nat.zero_add, Nat.reduceAdd])
  apply W.seq
  apply W.reg
  apply oas; rfl; rfl
  apply OL.nil
  with_reducible apply At.next
  apply W.seq
  apply W.reg
  apply omv; rfl; rfl
  apply omv; rfl; rfl
  apply OL.op; exact Guard.none; rfl; rfl; apply Pev.len_slice; rfl; exact yes; rfl
  apply OL.op; exact Guard.none; rfl; rfl; apply Pev.min2; rfl; exact yes; rfl; exact yes
  obtain ⟨l, hl, hmin⟩ : ∃ l : List Pr, l = l0.take 40 ∧ (if (40 : Int) < (l0.length : Int) then (40 : Int) else (l0.length : Int)) = (l.length : Int) := ⟨_, rfl, by
    rw [List.length_take]
    split <;> omega⟩
  rw [hmin]
  have h : SlAt w w.heap.size q (cat pcell l) := by rw [hl]; exact h0.takeC 40
  have hl40 : l.length ≤ 40 := by rw [hl, List.length_take]; omega
  have hcap : l.length ≤ cap := by rw [hl, List.length_take]; omega
  clear hl hmin h0 hcap0
  apply OL.op; exact Guard.none; rfl; rfl; apply Pev.slice_hi; rfl; exact yes; rfl; exact yes; rfl; rfl; intro hcond; omega
  apply oas; rfl; rfl
  apply OL.nil
  with_reducible apply At.next
  apply W.seq
  apply W.reg
  apply OL.op; exact Guard.none; rfl; rfl; apply Pev.buildArr; rfl; exact CellsL.agg; rfl; apply Fill.cons rfl; exact CellsL.one rfl; rfl; rfl; apply Put.here; apply Over.cons; apply Over.nil; apply Fill.cons rfl; exact CellsL.one rfl; rfl; rfl; apply Put.skip; apply Put.here; apply Over.cons; apply Over.nil; apply Fill.nil; rfl
  apply OL.op; exact Guard.none; rfl; rfl; apply Pev.buildArr; rfl; exact CellsL.agg; rfl; apply Fill.cons rfl; exact CellsL.one rfl; rfl; rfl; apply Put.here; apply Over.cons; apply Over.nil; apply Fill.cons rfl; exact CellsL.one rfl; rfl; rfl; apply Put.skip; apply Put.here; apply Over.cons; apply Over.nil; apply Fill.nil; rfl
  apply OL.buildSlice; rfl; rfl; rfl; apply Elems.cons rfl; exact CellsL.agg; rfl; apply Elems.cons rfl; exact CellsL.agg; rfl; apply Elems.nil; apply App.cons; apply App.cons; apply App.nil; apply App.cons; apply App.cons; apply App.nil; rfl; rfl; (intro bk hbk; simp only [AllLe, and_true] at hbk)
  refine OL.callE (α := (Option Addr × Nat) × World) (fun x => .tuple #[.slice x.1.1 3 x.1.2, .int .i64 0]) (fun x => SlAt x.2 x.2.heap.size x.1.1 (cat pcell [(9, 1), (1, 2), (2, 9)]) ∧ Ext w x.2) (fun x => Cls [] [x.2, w]) rfl rfl (by (repeat (first | exact Args.nil | (apply Args.cons rfl; ((first | exact fun _ => rfl | exact fun h => h | (intro h; simp_all; done))))))) (fun w2 hw2 => ?_) ?_
  · have i1 := hw2.item (i := blk bk 26 [.int .i64 1, .int .i64 2, .int .i64 2, .int .i64 1]) (by (repeat (first | exact List.Mem.head _ | apply List.Mem.tail)))
    refine (Sequence_calls (some ⟨bk, 0, none⟩) 2 [(1, 2), (2, 1)] 9 w2 (by decide) (by decide) (SlAt.of_blk (o := 0) i1 (fun j v hj => by rw [Nat.zero_add]; exact hj))).mono (fun e w3 ⟨x, he, hs, hx⟩ => ?_)
    rw [seqR_12] at he hs
    exact ⟨(x, w3), he, ⟨hs, (hw2.toExt (s := w) (by (repeat (first | exact List.Mem.head _ | apply List.Mem.tail))) (fun k hk => by (focus ((try simp only [add_block]); (repeat (first | exact NotOwned.nil | refine NotOwned.blk (by omega) ?_ | refine NotOwned.row (by omega) ?_ | refine NotOwned.grid (by assumption) (by omega) ?_)); done)))).trans hx⟩, ((hw2.ext hx).thin (by (repeat (first | exact Thin.nil | exact Thin.same | apply Thin.keep | (refine Thin.blk (by assumption) ?_) | (refine Thin.blk (by simp only [AllLe, and_true]; omega) ?_))))).note⟩
  rintro ⟨⟨qo, co⟩, w1⟩ ⟨hs1, hx1⟩
  simp only at hs1 hx1 ⊢
  have hws1 := hx1.size
  obtain ⟨a1, rfl, hab1, hc1⟩ := hs1 (by decide)
  have k0 : CellsAt w1 (a1.add (0 * 2)) [.int .i64 9, .int .i64 1] := fun j v hj => by
    rw [add_add]; exact hc1 _ v (cat_get plen (l := [(9, 1), (1, 2), (2, 9)]) (i := 0) rfl j v hj)
  have k1 : CellsAt w1 (a1.add (1 * 2)) [.int .i64 1, .int .i64 2] := fun j v hj => by
    rw [add_add]; exact hc1 _ v (cat_get plen (l := [(9, 1), (1, 2), (2, 9)]) (i := 1) rfl j v hj)
  have k2 : CellsAt w1 (a1.add (2 * 2)) [.int .i64 2, .int .i64 9] := fun j v hj => by
    rw [add_add]; exact hc1 _ v (cat_get plen (l := [(9, 1), (1, 2), (2, 9)]) (i := 2) rfl j v hj)
  apply omv; rfl; rfl
  apply oex; rfl; rfl; rfl
  apply oex; rfl; rfl; rfl
  apply oas; rfl; rfl
  apply oas; rfl; rfl
  apply OL.nil
  with_reducible apply At.next
  apply W.seq
  apply W.seq
  apply W.reg
  apply omv; rfl; rfl
  apply obn; rfl; rfl; rfl; apply Bin.neq
  apply omv; rfl; rfl
  apply OL.op; exact Guard.no rfl rfl; rfl; rfl; apply Pev.move; rfl; exact yes
  apply OL.op; exact Guard.no rfl rfl; rfl; rfl; apply Pev.len_slice; rfl; exact yes; rfl
  apply OL.op; exact Guard.no rfl rfl; rfl; rfl; apply Pev.bin; rfl; exact yes; rfl; exact yes; intro hcond; apply Bin.neq
  apply OL.op; exact Guard.none; rfl; rfl; apply Pev.pick_or; rfl; exact yes; rfl; exact yes
  apply omv; rfl; rfl
  apply OL.op; exact Guard.no rfl rfl; rfl; rfl; apply Pev.move; rfl; exact yes
  apply OL.op; exact Guard.no rfl rfl; rfl; rfl; apply Pev.idx; rfl; exact yes; rfl; exact yes; rfl; rfl; intro hcond; (simp only [Bool.and_eq_true, Bool.or_eq_true, Bool.not_eq_true', decide_eq_true_eq, decide_eq_false_iff_not] at *; omega)
  apply OL.op; exact Guard.no rfl rfl; rfl; rfl; apply Pev.load_keptA; rfl; exact yes; exact .head _; rfl; intro hcond; assumption; rfl; intro hcond; assumption; intro hcond; exact NotOwned.nil
  apply OL.op; exact Guard.no rfl rfl; rfl; rfl; apply Pev.buildArr; rfl; exact CellsL.agg; rfl; apply Fill.cons rfl; exact CellsL.one rfl; rfl; rfl; apply Put.here; apply Over.cons; apply Over.nil; apply Fill.cons rfl; exact CellsL.one rfl; rfl; rfl; apply Put.skip; apply Put.here; apply Over.cons; apply Over.nil; apply Fill.nil; rfl
  (((first | (with_reducible apply OL.op) | (with_reducible apply QL.op)); ((first | exact Guard.none | exact Guard.yes rfl rfl | exact Guard.no rfl rfl | exact Guard.cyes rfl rfl | exact Guard.cno rfl rfl)); rfl; rfl); (refine Pev.bin (r := .bool false) rfl (by (first | exact fun _ => rfl | exact fun h => h | (intro h; simp_all; done))) rfl (by (first | exact fun _ => rfl | exact fun h => h | (intro h; simp_all; done))) (fun _ => ⟨fun x y w => by kernel_rfl⟩)))
  apply OL.op; exact Guard.none; rfl; rfl; apply Pev.pick_or; rfl; exact yes; rfl; exact yes
  apply omv; rfl; rfl
  apply OL.op; exact Guard.no rfl rfl; rfl; rfl; apply Pev.move; rfl; exact yes
  apply OL.op; exact Guard.no rfl rfl; rfl; rfl; apply Pev.idx; rfl; exact yes; rfl; exact yes; rfl; rfl; intro hcond; (simp only [Bool.and_eq_true, Bool.or_eq_true, Bool.not_eq_true', decide_eq_true_eq, decide_eq_false_iff_not] at *; omega)
  apply OL.op; exact Guard.no rfl rfl; rfl; rfl; apply Pev.load_keptA; rfl; exact yes; exact .head _; rfl; intro hcond; assumption; rfl; intro hcond; assumption; intro hcond; exact NotOwned.nil
  apply OL.op; exact Guard.no rfl rfl; rfl; rfl; apply Pev.buildArr; rfl; exact CellsL.agg; rfl; apply Fill.cons rfl; exact CellsL.one rfl; rfl; rfl; apply Put.here; apply Over.cons; apply Over.nil; apply Fill.cons rfl; exact CellsL.one rfl; rfl; rfl; apply Put.skip; apply Put.here; apply Over.cons; apply Over.nil; apply Fill.nil; rfl
  (((first | (with_reducible apply OL.op) | (with_reducible apply QL.op)); ((first | exact Guard.none | exact Guard.yes rfl rfl | exact Guard.no rfl rfl | exact Guard.cyes rfl rfl | exact Guard.cno rfl rfl)); rfl; rfl); (refine Pev.bin (r := .bool false) rfl (by (first | exact fun _ => rfl | exact fun h => h | (intro h; simp_all; done))) rfl (by (first | exact fun _ => rfl | exact fun h => h | (intro h; simp_all; done))) (fun _ => ⟨fun x y w => by kernel_rfl⟩)))
  apply OL.op; exact Guard.none; rfl; rfl; apply Pev.pick_or; rfl; exact yes; rfl; exact yes
  apply omv; rfl; rfl
  apply OL.op; exact Guard.no rfl rfl; rfl; rfl; apply Pev.move; rfl; exact yes
  apply OL.op; exact Guard.no rfl rfl; rfl; rfl; apply Pev.idx; rfl; exact yes; rfl; exact yes; rfl; rfl; intro hcond; (simp only [Bool.and_eq_true, Bool.or_eq_true, Bool.not_eq_true', decide_eq_true_eq, decide_eq_false_iff_not] at *; omega)
  apply OL.op; exact Guard.no rfl rfl; rfl; rfl; apply Pev.load_keptA; rfl; exact yes; exact .head _; rfl; intro hcond; assumption; rfl; intro hcond; assumption; intro hcond; exact NotOwned.nil
  apply OL.op; exact Guard.no rfl rfl; rfl; rfl; apply Pev.buildArr; rfl; exact CellsL.agg; rfl; apply Fill.cons rfl; exact CellsL.one rfl; rfl; rfl; apply Put.here; apply Over.cons; apply Over.nil; apply Fill.cons rfl; exact CellsL.one rfl; rfl; rfl; apply Put.skip; apply Put.here; apply Over.cons; apply Over.nil; apply Fill.nil; rfl
  (((first | (with_reducible apply OL.op) | (with_reducible apply QL.op)); ((first | exact Guard.none | exact Guard.yes rfl rfl | exact Guard.no rfl rfl | exact Guard.cyes rfl rfl | exact Guard.cno rfl rfl)); rfl; rfl); (refine Pev.bin (r := .bool false) rfl (by (first | exact fun _ => rfl | exact fun h => h | (intro h; simp_all; done))) rfl (by (first | exact fun _ => rfl | exact fun h => h | (intro h; simp_all; done))) (fun _ => ⟨fun x y w => by kernel_rfl⟩)))
  apply OL.op; exact Guard.none; rfl; rfl; apply Pev.pick_or; rfl; exact yes; rfl; exact yes
  apply OL.nil
  with_reducible apply At.next
  refine W.cond rfl (fun hc => by simp at hc) (fun _ => ?_)
  apply W.skip
  with_reducible apply At.next
  apply W.seq
  apply W.reg
  apply omv; rfl; rfl
  apply omv; rfl; rfl
  refine OL.callE (α := (Option Addr × Nat) × World) (fun x => .tuple #[.slice x.1.1 (seqR l spare).1.length x.1.2, .int .i64 (seqR l spare).2]) (fun x => SlAt x.2 x.2.heap.size x.1.1 (cat pcell (seqR l spare).1) ∧ Ext w x.2) (fun x => Cls [] [x.2, w]) rfl rfl (by (repeat (first | exact Args.nil | (apply Args.cons rfl; ((first | exact fun _ => rfl | exact fun h => h | (intro h; simp_all; done))))))) (fun w2 hw2 => ?_) ?_
  · have h1 := hw2.below (s := w) (by (repeat (first | exact List.Mem.head _ | apply List.Mem.tail))) (Nat.le_refl _) (fun k hk => by (focus ((try simp only [add_block]); (repeat (first | exact NotOwned.nil | refine NotOwned.blk (by omega) ?_ | refine NotOwned.row (by omega) ?_ | refine NotOwned.grid (by assumption) (by omega) ?_)); done)))
    have h2 := (hw2.kp w (by (repeat (first | exact List.Mem.head _ | apply List.Mem.tail)))).size
    refine (Sequence_calls q cap l spare w2 (by omega) hcap (h.keep h1 h2)).mono (fun e w3 ⟨x, he, hs, hx⟩ => ?_)
    exact ⟨(x, w3), he, ⟨hs, (hw2.toExt (s := w) (by (repeat (first | exact List.Mem.head _ | apply List.Mem.tail))) (fun k hk => by (focus ((try simp only [add_block]); (repeat (first | exact NotOwned.nil | refine NotOwned.blk (by omega) ?_ | refine NotOwned.row (by omega) ?_ | refine NotOwned.grid (by assumption) (by omega) ?_)); done)))).trans hx⟩, ((hw2.ext hx).forget (S' := [w]) (by simp)).note⟩
  clear k0 k1 k2 hc1 hab1 hs1 hx1 hws1
  rintro ⟨⟨q2, c2⟩, w2⟩ ⟨hs2, hx2⟩
  simp only at hs2 hx2 ⊢
  have hws := hx2.size
  replace h := h.ext hx2 (Nat.le_refl _)
  have hol := seqR_len l spare
  have hsz : ∀ (H : List Eng.Item) w3, Cls H [w2, w] w3 → (∀ k, k < w2.heap.size → NotOwned H k) → (∀ p : Addr, p.block < w2.heap.size → w3.cell? p = w2.cell? p) ∧ w2.heap.size ≤ w3.heap.size := fun H w3 hw3 hno =>
    ⟨hw3.below (s := w2) (by (repeat (first | exact List.Mem.head _ | apply List.Mem.tail))) (Nat.le_refl _) hno, (hw3.kp w2 (by (repeat (first | exact List.Mem.head _ | apply List.Mem.tail)))).size⟩
  apply omv; rfl; rfl
  apply oex; rfl; rfl; rfl
  apply oex; rfl; rfl; rfl
  apply oas; rfl; rfl
  apply oas; rfl; rfl
  apply OL.nil
  with_reducible apply At.next
  apply W.seq
  apply W.reg
  apply oas; rfl; rfl
  apply OL.nil
  with_reducible apply At.next
  apply W.seq
  apply W.seq
  apply W.reg
  apply omv; rfl; rfl
  apply OL.op; exact Guard.none; rfl; rfl; apply Pev.len_slice; rfl; exact yes; rfl
  apply omv; rfl; rfl
  apply OL.nil
  with_reducible apply At.next
  apply W.block
  refine W.loop (G := Nat × Option Addr × Nat × (Nat → Prop)) (fun g => g.1 ≤ l.length ∧ errF spare (l.take g.1) (l.drop g.1) = errF spare [] l) (fun g => l.length - g.1)
    (fun g => [(73, true, .int .i64 (g.1 : Int)), (72, true, .int .i64 (l.length : Int)), (71, true, .slice q l.length cap), (0, true, .slice q l.length cap), (1, true, .int .i64 spare), (7, true, .slice q2 (seqR l spare).1.length c2), (8, true, .int .i64 (seqR l spare).2), (9, true, .slice g.2.1 g.1 g.2.2.1)])
    (fun g => Cls [row w2.heap.size g.2.2.2 g.2.1 g.1 g.2.2.1 3 1 (intv ((l.take g.1).map Prod.fst))] [w2, w]) (0, none, 0, fun _ => False) ⟨by simp, rfl⟩ (by (repeat (first | exact Sub.nil | apply Sub.cons rfl))) (fun w' hw' => hw'.row_nil _ _ _) ?_
  rintro ⟨i, q9, c9, O9⟩ ⟨hi, hrest⟩
  simp only at hi hrest ⊢
  apply W.seq
  apply W.reg
  apply obn; rfl; rfl; rfl; apply Bin.lss
  apply OL.nil
  with_reducible apply At.next
  apply W.seq
  (refine W.cond rfl (fun hlt => ?_) (fun hlt => ?_)) <;> (try (simp only [Bool.and_eq_true, Bool.or_eq_true, Bool.not_eq_true', Bool.and_eq_false_iff, Bool.or_eq_false_iff, Bool.not_eq_false', decide_eq_true_eq, decide_eq_false_iff_not, Int.not_lt, Int.not_le] at hlt)) <;> (try (exfalso; first | omega | exact hlt trivial | contradiction))
  · have hil : i < l.length := by omega
    obtain ⟨a, x, rfl, hab, hx, hcell⟩ := h.elem plen (by decide) hil
    rw [errF_step hx] at hrest
    unfold pcell at hcell
    have hml : ((l.take i).map Prod.fst).length = i := by rw [List.length_map, List.length_take]; omega
    have hhas : has ((l.take i).map Prod.fst) x.1 = (l.take i).any fun y => decide (y.1 = x.1) := by
      unfold has; rw [List.any_map]; rfl
    apply W.skip
    with_reducible apply At.next
    apply W.seq
    apply W.block
    apply W.seq
    apply W.reg
    apply OL.op; exact Guard.none; rfl; rfl; apply Pev.idx; rfl; exact yes; rfl; exact yes; rfl; rfl; intro hcond; omega
    apply OL.op; exact Guard.none; rfl; rfl; apply Pev.load_keptA; rfl; exact yes; exact .head _; rfl; intro hcond; assumption; rfl; intro hcond; (rw [add_block]; assumption); intro hcond; simp only [add_block]; refine NotOwned.row (by omega) ?_; exact NotOwned.nil
    apply OL.alloc; rfl; rfl; exact CellsL.agg; (intro bk hbk; simp only [AllLe, and_true] at hbk)
    apply OL.storeB; rfl; rfl; exact CellsL.agg; rfl; rfl; rfl; apply Swap.z; apply Put.here; apply Over.cons; apply Over.cons; apply Over.nil
    apply OL.nil
    with_reducible apply At.next
    apply W.seq
    apply W.reg
    apply oas; rfl; rfl
    apply OL.nil
    with_reducible apply At.next
    apply W.seq
    apply W.block
    apply W.seq
    apply W.reg
    apply OL.op; exact Guard.none; rfl; rfl; apply Pev.idxArr; rfl; exact yes; rfl; exact yes; rfl; intro hcond; omega; rfl
    apply old; rfl; rfl; exact .head _; rfl; rfl
    apply obn; rfl; rfl; rfl; apply Bin.lss
    apply omv; rfl; rfl
    apply OL.op; exact Guard.no rfl rfl; rfl; rfl; apply Pev.idxArr; rfl; exact yes; rfl; exact yes; rfl; intro hcond; omega; rfl
    apply OL.op; exact Guard.no rfl rfl; rfl; rfl; apply Pev.load_blk; rfl; exact fun h => h; exact .head _; rfl; rfl
    apply OL.op; exact Guard.no rfl rfl; rfl; rfl; apply Pev.bin; rfl; exact fun h => h; rfl; exact yes; intro hcond; apply Bin.lss
    apply OL.op; exact Guard.none; rfl; rfl; apply Pev.pick_or; rfl; exact yes; rfl; exact fun h => h
    apply oas; rfl; rfl
    apply OL.nil
    with_reducible apply At.next
    refine W.cond rfl (fun hc => ?_) (fun hc => ?_)
    · rw [if_pos (by simpa using hc)] at hrest
      have hR : seqR l spare = ([], 4) := by simp [seqR, ← hrest]
      rw [hR]
      apply W.reg
      apply oas; rfl; rfl
      apply OL.nil
      with_reducible apply At.in_normal
      with_reducible apply At.next
      apply W.seq
      apply W.seq
      apply W.reg
      apply omv; rfl; rfl
      apply obn; rfl; rfl; rfl; apply Bin.neq
      apply OL.nil
      with_reducible apply At.next
      refine W.cond rfl (fun _ => ?_) (fun hc => by simp at hc)
      apply W.seq
      apply W.reg
      apply omv; rfl; rfl
      apply omv; rfl; rfl
      apply obn; rfl; rfl; rfl; apply Bin.eql
      apply omv; rfl; rfl
      apply OL.op; exact Guard.yes rfl rfl; rfl; rfl; apply Pev.move; rfl; exact yes
      apply OL.op; exact Guard.yes rfl rfl; rfl; rfl; apply Pev.len_slice; rfl; exact yes; rfl
      apply OL.op; exact Guard.yes rfl rfl; rfl; rfl; apply Pev.bin; rfl; exact yes; rfl; exact yes; intro hcond; apply Bin.eql
      apply OL.op; exact Guard.none; rfl; rfl; apply Pev.pick_and; rfl; exact yes; rfl; exact yes
      apply oas; rfl; rfl
      apply OL.nil
      with_reducible apply At.next
      apply W.ret
      with_reducible apply At.then_ret
      with_reducible apply At.in_ret
      with_reducible apply At.then_ret
      with_reducible apply At.then_ret
      with_reducible apply At.in_ret
      with_reducible apply At.then_ret
      ((with_reducible apply At.fin1); rfl; rfl; intro w' hw')
      exact ⟨by simp, by (exact hw'.toExt (by (repeat (first | exact List.Mem.head _ | apply List.Mem.tail))) (fun k hk => by (focus ((try simp only [add_block]); (repeat (first | exact NotOwned.nil | refine NotOwned.blk (by omega) ?_ | refine NotOwned.row (by omega) ?_ | refine NotOwned.grid (by assumption) (by omega) ?_)); done))))⟩
    · rw [if_neg (by simpa using hc)] at hrest
      apply W.seq
      apply W.reg
      apply omv; rfl; rfl
      apply OL.op; exact Guard.none; rfl; rfl; apply Pev.idxArr; rfl; exact yes; rfl; exact yes; rfl; intro hcond; omega; rfl
      apply old; rfl; rfl; exact .head _; rfl; rfl
      (((first | (with_reducible apply OL.op) | (with_reducible apply QL.op)); ((first | exact Guard.none | exact Guard.yes rfl rfl | exact Guard.no rfl rfl | exact Guard.cyes rfl rfl | exact Guard.cno rfl rfl)); rfl; rfl); (refine Pev.call (v := .bool (has ((l.take i).map Prod.fst) x.1)) rfl (by (repeat (first | exact Args.nil | (apply Args.cons rfl; ((first | exact fun _ => rfl | exact fun h => h | (intro h; simp_all; done))))))) (fun _ w3 hw3 => ?_)))
      · have hcc := HasInt_calls q9 c9 ((l.take i).map Prod.fst) x.1 w3 (by omega) (SlAt.of_row (hw3.item (i := row w2.heap.size O9 q9 i c9 3 1 (intv ((l.take i).map Prod.fst))) (by (repeat (first | exact List.Mem.head _ | apply List.Mem.tail)))))
        rw [hml] at hcc
        exact hcc.mono (fun e w4 h => ⟨h.1, hw3.ext h.2⟩)
      rw [hhas]
      apply oas; rfl; rfl
      apply OL.nil
      with_reducible apply At.next
      refine W.cond rfl (fun hc2 => ?_) (fun hc2 => ?_)
      · rw [if_pos hc2] at hrest
        have hR : seqR l spare = ([], 7) := by simp [seqR, ← hrest]
        rw [hR]
        apply W.reg
        apply oas; rfl; rfl
        apply OL.nil
        with_reducible apply At.in_normal
        with_reducible apply At.next
        apply W.seq
        apply W.seq
        apply W.reg
        apply omv; rfl; rfl
        apply obn; rfl; rfl; rfl; apply Bin.neq
        apply OL.nil
        with_reducible apply At.next
        refine W.cond rfl (fun _ => ?_) (fun hc => by simp at hc)
        apply W.seq
        apply W.reg
        apply omv; rfl; rfl
        apply omv; rfl; rfl
        apply obn; rfl; rfl; rfl; apply Bin.eql
        apply omv; rfl; rfl
        apply OL.op; exact Guard.yes rfl rfl; rfl; rfl; apply Pev.move; rfl; exact yes
        apply OL.op; exact Guard.yes rfl rfl; rfl; rfl; apply Pev.len_slice; rfl; exact yes; rfl
        apply OL.op; exact Guard.yes rfl rfl; rfl; rfl; apply Pev.bin; rfl; exact yes; rfl; exact yes; intro hcond; apply Bin.eql
        apply OL.op; exact Guard.none; rfl; rfl; apply Pev.pick_and; rfl; exact yes; rfl; exact yes
        apply oas; rfl; rfl
        apply OL.nil
        with_reducible apply At.next
        apply W.ret
        with_reducible apply At.then_ret
        with_reducible apply At.in_ret
        with_reducible apply At.then_ret
        with_reducible apply At.then_ret
        with_reducible apply At.in_ret
        with_reducible apply At.then_ret
        ((with_reducible apply At.fin1); rfl; rfl; intro w' hw')
        exact ⟨by simp, by (exact hw'.toExt (by (repeat (first | exact List.Mem.head _ | apply List.Mem.tail))) (fun k hk => by (focus ((try simp only [add_block]); (repeat (first | exact NotOwned.nil | refine NotOwned.blk (by omega) ?_ | refine NotOwned.row (by omega) ?_ | refine NotOwned.grid (by assumption) (by omega) ?_)); done))))⟩
      · rw [if_neg (by rw [hc2]; simp)] at hrest
        apply W.seq
        apply W.reg
        apply OL.op; exact Guard.none; rfl; rfl; apply Pev.idxArr; rfl; exact yes; rfl; exact yes; rfl; intro hcond; omega; rfl
        apply old; rfl; rfl; exact .head _; rfl; rfl
        apply omv; rfl; rfl
        apply obn; rfl; rfl; rfl; apply Bin.eql
        apply omv; rfl; rfl
        apply OL.op; exact Guard.no rfl rfl; rfl; rfl; apply Pev.idxArr; rfl; exact yes; rfl; exact yes; rfl; intro hcond; omega; rfl
        apply OL.op; exact Guard.no rfl rfl; rfl; rfl; apply Pev.load_blk; rfl; exact fun h => h; exact .head _; rfl; rfl
        apply OL.op; exact Guard.no rfl rfl; rfl; rfl; apply Pev.move; rfl; exact yes
        apply OL.op; exact Guard.no rfl rfl; rfl; rfl; apply Pev.bin; rfl; exact fun h => h; rfl; exact fun h => h; intro hcond; apply Bin.eql
        apply OL.op; exact Guard.none; rfl; rfl; apply Pev.pick_or; rfl; exact yes; rfl; exact fun h => h
        apply oas; rfl; rfl
        apply OL.nil
        with_reducible apply At.next
        refine W.cond rfl (fun hc3 => ?_) (fun hc3 => ?_)
        · rw [if_pos (by simpa using hc3)] at hrest
          have hR : seqR l spare = ([], 1) := by simp [seqR, ← hrest]
          rw [hR]
          apply W.reg
          apply oas; rfl; rfl
          apply OL.nil
          with_reducible apply At.in_normal
          with_reducible apply At.next
          apply W.seq
          apply W.seq
          apply W.reg
          apply omv; rfl; rfl
          apply obn; rfl; rfl; rfl; apply Bin.neq
          apply OL.nil
          with_reducible apply At.next
          refine W.cond rfl (fun _ => ?_) (fun hc => by simp at hc)
          apply W.seq
          apply W.reg
          apply omv; rfl; rfl
          apply omv; rfl; rfl
          apply obn; rfl; rfl; rfl; apply Bin.eql
          apply omv; rfl; rfl
          apply OL.op; exact Guard.yes rfl rfl; rfl; rfl; apply Pev.move; rfl; exact yes
          apply OL.op; exact Guard.yes rfl rfl; rfl; rfl; apply Pev.len_slice; rfl; exact yes; rfl
          apply OL.op; exact Guard.yes rfl rfl; rfl; rfl; apply Pev.bin; rfl; exact yes; rfl; exact yes; intro hcond; apply Bin.eql
          apply OL.op; exact Guard.none; rfl; rfl; apply Pev.pick_and; rfl; exact yes; rfl; exact yes
          apply oas; rfl; rfl
          apply OL.nil
          with_reducible apply At.next
          apply W.ret
          with_reducible apply At.then_ret
          with_reducible apply At.in_ret
          with_reducible apply At.then_ret
          with_reducible apply At.then_ret
          with_reducible apply At.in_ret
          with_reducible apply At.then_ret
          ((with_reducible apply At.fin1); rfl; rfl; intro w' hw')
          exact ⟨by simp, by (exact hw'.toExt (by (repeat (first | exact List.Mem.head _ | apply List.Mem.tail))) (fun k hk => by (focus ((try simp only [add_block]); (repeat (first | exact NotOwned.nil | refine NotOwned.blk (by omega) ?_ | refine NotOwned.row (by omega) ?_ | refine NotOwned.grid (by assumption) (by omega) ?_)); done))))⟩
        · rw [if_neg (by simpa using hc3)] at hrest
          apply W.skip
          with_reducible apply At.in_normal
          with_reducible apply At.next
          apply W.seq
          apply W.seq
          apply W.reg
          apply omv; rfl; rfl
          apply obn; rfl; rfl; rfl; apply Bin.neq
          apply OL.nil
          with_reducible apply At.next
          refine W.cond rfl (fun hc => by simp at hc) (fun _ => ?_)
          apply W.skip
          with_reducible apply At.next
          apply W.reg
          apply omv; rfl; rfl
          apply OL.op; exact Guard.none; rfl; rfl; apply Pev.idxArr; rfl; exact yes; rfl; exact yes; rfl; intro hcond; omega; rfl
          apply old; rfl; rfl; exact .head _; rfl; rfl
          apply OL.buildSlice; rfl; rfl; rfl; apply Elems.cons rfl; exact CellsL.one rfl; rfl; apply Elems.nil; apply App.cons; apply App.nil; rfl; rfl; (intro bk hbk; simp only [AllLe, and_true] at hbk)
          apply OL.append; rfl; rfl; rfl; rfl; apply Hole.s; apply Hole.s; apply Hole.z; exact .head _; apply Take.succ; apply Take.zero; rfl; rfl; exact ⟨_, .head _, Nat.le_refl _⟩; omega; intro O1 g1 cap1
          apply oas; rfl; rfl
          apply OL.nil
          with_reducible apply At.in_normal
          with_reducible apply At.next
          apply W.reg
          apply obn; rfl; rfl; rfl; apply Bin.add_in; omega
          apply omv; rfl; rfl
          apply OL.nil
          have e3 : intv ((l.take (i + 1)).map Prod.fst) = intv ((l.take i).map Prod.fst) ++ [.int .i64 x.1] := by
            rw [List.take_add_one, hx]; simp [intv]
          exact At.again (i + 1, some ⟨g1, 0, none⟩, cap1, O1) ⟨by simp only; omega, hrest⟩ (by simp only; omega) (by (repeat (first | exact Sub.nil | apply Sub.cons rfl))) (fun w' hw' => by simp only [e3]; exact hw'.thin (by (repeat (first | exact Thin.nil | exact Thin.same | apply Thin.keep | (refine Thin.blk (by assumption) ?_) | (refine Thin.blk (by simp only [AllLe, and_true]; omega) ?_)))))
  · obtain rfl : i = l.length := by omega
    rw [List.take_length, List.drop_length, errF] at hrest
    obtain ⟨hok1, hok2⟩ := seqR_ok hrest.symm
    have hR2 : (seqR l spare).2 = 0 := by simp [seqR, ← hrest]
    rw [hR2, List.take_length]
    generalize (seqR l spare).1 = out at hs2 hol hok1 hok2 ⊢
    generalize hseen : l.map Prod.fst = seen
    have hsl : seen.length = l.length := by rw [← hseen, List.length_map]
    apply W.exit
    with_reducible apply At.then_exit
    with_reducible apply At.then_exit
    with_reducible apply At.in_exit
    with_reducible apply At.next
    apply W.seq
    apply W.reg
    apply OL.alloc; rfl; rfl; exact CellsL.one rfl; (intro bk hbk; simp only [AllLe, and_true] at hbk)
    apply OL.alloc; rfl; rfl; exact CellsL.one rfl; (intro bk hbk; simp only [AllLe, and_true] at hbk)
    apply OL.nil
    with_reducible apply At.next
    apply W.seq
    apply W.reg
    apply OL.op; exact Guard.none; rfl; rfl; apply Pev.makeFunc; exact Args.nil; apply Args.cons rfl; exact yes; apply Args.cons rfl; exact yes; exact Args.nil
    apply oas; rfl; rfl
    apply OL.nil
    with_reducible apply At.next
    apply W.seq
    apply W.seq
    apply W.reg
    apply omv; rfl; rfl
    apply OL.op; exact Guard.none; rfl; rfl; apply Pev.len_slice; rfl; exact yes; rfl
    apply omv; rfl; rfl
    apply OL.nil
    with_reducible apply At.next
    apply W.block
    rename_i bn hbn
    revert bk
    intro bv hbv
    have hSB : AllLe [w2, w] w2.heap.size := ⟨Nat.le_refl _, hws, trivial⟩
    have hBS : ∃ s ∈ [w2, w], w2.heap.size ≤ s.heap.size := ⟨_, .head _, Nat.le_refl _⟩
    refine W.loop (G := GL) (fun g => g.j ≤ out.length ∧ Rep g.names g.vals (runS id (out.take g.j)) ∧ g.names.length ≤ 2 * g.j) (fun g => out.length - g.j)
      (fun g => [(121, true, .int .i64 (g.j : Int)), (120, true, .int .i64 (out.length : Int)), (119, true, .slice q2 out.length c2), (15, true, .func (.func 6) #[] #[.pointer (some ⟨bn, 0, none⟩), .pointer (some ⟨bv, 0, none⟩)]), (14, true, .pointer (some ⟨bv, 0, none⟩)), (13, true, .pointer (some ⟨bn, 0, none⟩)),
        (0, true, .slice q l.length cap), (1, true, .int .i64 spare), (8, true, .int .i64 0), (9, true, .slice q9 l.length c9)])
      (fun g => Cls (nvI w2.heap.size bn bv g.names g.vals g.x [row w2.heap.size O9 q9 l.length c9 3 1 (intv seen)]) [w2, w]) ⟨0, [], [], none, 0, fun _ => False, none, 0, fun _ => False⟩
      ⟨by simp, ⟨rfl, List.nodup_nil, fun i v hi => by simp at hi, fun v _ => rfl⟩, by simp⟩ (by (repeat (first | exact Sub.nil | apply Sub.cons rfl))) (fun w' hw' => (hw'.flip.row_nil _ _ _).row_nil _ _ _) ?_
    rintro ⟨j, names, vals, ⟨qn, cn, On, qv, cv, Ov⟩⟩ ⟨hj, hrep, hnl⟩
    simp only [nvI] at hj hrep hnl ⊢
    apply W.seq
    apply W.reg
    apply obn; rfl; rfl; rfl; apply Bin.lss
    apply OL.nil
    with_reducible apply At.next
    apply W.seq
    (refine W.cond rfl (fun hlt2 => ?_) (fun hlt2 => ?_)) <;> (try (simp only [Bool.and_eq_true, Bool.or_eq_true, Bool.not_eq_true', Bool.and_eq_false_iff, Bool.or_eq_false_iff, Bool.not_eq_false', decide_eq_true_eq, decide_eq_false_iff_not, Int.not_lt, Int.not_le] at hlt2)) <;> (try (exfalso; first | omega | exact hlt2 trivial | contradiction))
    · have hjl : j < out.length := by omega
      obtain ⟨a, x, rfl, hab, hx, hcell⟩ := hs2.elem plen (by decide) hjl
      unfold pcell at hcell
      apply W.skip
      with_reducible apply At.next
      apply W.seq
      apply W.block
      apply W.seq
      apply W.reg
      apply OL.op; exact Guard.none; rfl; rfl; apply Pev.idx; rfl; exact yes; rfl; exact yes; rfl; rfl; intro hcond; omega
      apply OL.op; exact Guard.none; rfl; rfl; apply Pev.load_keptA; rfl; exact yes; exact .head _; rfl; intro hcond; assumption; rfl; intro hcond; (rw [add_block]; assumption); intro hcond; simp only [add_block]; refine NotOwned.row (by omega) ?_; refine NotOwned.row (by omega) ?_; refine NotOwned.blk (by omega) ?_; refine NotOwned.blk (by omega) ?_; refine NotOwned.row (by omega) ?_; exact NotOwned.nil
      apply OL.alloc; rfl; rfl; exact CellsL.agg; (intro bk hbk; simp only [AllLe, and_true] at hbk)
      apply OL.storeB; rfl; rfl; exact CellsL.agg; rfl; rfl; rfl; apply Swap.z; apply Put.here; apply Over.cons; apply Over.cons; apply Over.nil
      apply OL.nil
      with_reducible apply At.next
      apply W.seq
      apply W.reg
      apply omv; rfl; rfl
      apply OL.op; exact Guard.none; rfl; rfl; apply Pev.idxArr; rfl; exact yes; rfl; exact yes; rfl; intro hcond; omega; rfl
      apply old; rfl; rfl; exact .head _; rfl; rfl
      revert bk
      intro bx hbx
      refine OL.cls (C' := Cls (nvI w2.heap.size bn bv names vals ⟨qn, cn, On, qv, cv, Ov⟩ [row w2.heap.size O9 q9 l.length c9 3 1 (intv seen), blk bx 26 [.int .i64 x.1, .int .i64 x.2]]) [w2, w]) (fun w' hw' => hw'.last) ?_
      refine OL.callvE (first := []) (cap := [.pointer (some ⟨bn, 0, none⟩), .pointer (some ⟨bv, 0, none⟩)]) (vs := [.int .i64 x.1]) (fun _ => .int .i64 (fI names x.1)) (fun _ => True) (fun y => Cls (nvI w2.heap.size bn bv (fN names x.1) (fV names vals x.1) y [row w2.heap.size O9 q9 l.length c9 3 1 (intv seen), blk bx 26 [.int .i64 x.1, .int .i64 x.2]]) [w2, w]) rfl rfl rfl (by (repeat (first | exact Args.nil | (apply Args.cons rfl; ((first | exact fun _ => rfl | exact fun h => h | (intro h; simp_all; done)))))))
        (fun w3 hw3 => find_calls x.1 names vals _ w2.heap.size bn bv _ _ w3 hw3 hSB hBS (by omega) hrep.len) ?_
      rintro y1 -
      obtain ⟨hrep1, i1, hi1, hn1⟩ := hrep.fnd x.1
      have hl1 := fN_len (names := names) x.1
      generalize fI names x.1 = z1 at hi1 ⊢
      subst hi1
      generalize fN names x.1 = names1 at hrep1 hn1 hl1 ⊢
      generalize fV names vals x.1 = vals1 at hrep1 ⊢
      simp only [nvI]
      apply oas; rfl; rfl
      apply OL.nil
      with_reducible apply At.next
      apply W.seq
      apply W.reg
      apply omv; rfl; rfl
      apply OL.op; exact Guard.none; rfl; rfl; apply Pev.idxArr; rfl; exact yes; rfl; exact yes; rfl; intro hcond; omega; rfl
      apply old; rfl; rfl; apply List.Mem.tail; apply List.Mem.tail; apply List.Mem.tail; exact .tail _ (.tail _ (.head _)); rfl; rfl
      refine OL.callvE (first := []) (cap := [.pointer (some ⟨bn, 0, none⟩), .pointer (some ⟨bv, 0, none⟩)]) (vs := [.int .i64 x.2]) (fun _ => .int .i64 (fI names1 x.2)) (fun _ => True) (fun y => Cls (nvI w2.heap.size bn bv (fN names1 x.2) (fV names1 vals1 x.2) y [row w2.heap.size O9 q9 l.length c9 3 1 (intv seen), blk bx 26 [.int .i64 x.1, .int .i64 x.2]]) [w2, w]) rfl rfl rfl (by (repeat (first | exact Args.nil | (apply Args.cons rfl; ((first | exact fun _ => rfl | exact fun h => h | (intro h; simp_all; done)))))))
        (fun w3 hw3 => find_calls x.2 names1 vals1 y1 w2.heap.size bn bv _ _ w3 hw3 hSB hBS (by omega) hrep1.len) ?_
      rintro ⟨qn2, cn2, On2, qv2, cv2, Ov2⟩ -
      obtain ⟨hrep2, i2, hi2, hn2⟩ := hrep1.fnd x.2
      have hl2 := fN_len (names := names1) x.2
      have hn1' := fN_keeps (v := x.2) hn1
      generalize fI names1 x.2 = z2 at hi2 ⊢
      subst hi2
      generalize fN names1 x.2 = names2 at hrep2 hn2 hn1' hl2 ⊢
      generalize fV names1 vals1 x.2 = vals2 at hrep2 ⊢
      have hi1l := (List.getElem?_eq_some_iff.1 hn1').1
      have hi2l := (List.getElem?_eq_some_iff.1 hn2).1
      have hvl := hrep2.len
      have hv2 := hrep2.val _ _ hn2
      simp only [nvI]
      refine OL.fact (φ := ∃ g0, qv2 = some ⟨g0, 0, none⟩) (fun w3 hw3 => row_some (hw3.item (i := row w2.heap.size Ov2 qv2 vals2.length cv2 3 1 (intv vals2)) (by (repeat (first | exact List.Mem.head _ | apply List.Mem.tail)))) (by omega)) ?_
      rintro ⟨g0, rfl⟩
      apply oas; rfl; rfl
      apply OL.nil
      with_reducible apply At.next
      apply W.regq; apply Split.s rfl; apply Split.s rfl; apply Split.s rfl; apply Split.s rfl; apply Split.s rfl; apply Split.s rfl; apply Split.s rfl; exact Split.z rfl; kernel_rfl; decide +kernel; exact fun w hw => hw.drew
      apply qld; rfl; rfl; apply List.Mem.tail; exact .tail _ (.tail _ (.head _)); rfl; rfl
      apply qmv; rfl; rfl
      apply qld; rfl; rfl; apply List.Mem.tail; exact .tail _ (.tail _ (.head _)); rfl; rfl
      apply qmv; rfl; rfl
      apply QL.op; exact Guard.none; rfl; rfl; apply Pev.idxB; rfl; exact yes; rfl; exact yes; rfl; intro hcond; omega; rfl
      (((first | (with_reducible apply OL.op) | (with_reducible apply QL.op)); ((first | exact Guard.none | exact Guard.yes rfl rfl | exact Guard.no rfl rfl | exact Guard.cyes rfl rfl | exact Guard.cno rfl rfl)); rfl; rfl); (refine Pev.load_cls (v := .int .i64 (runS id (out.take j) x.2)) rfl (by (first | exact fun _ => rfl | exact fun h => h | (intro h; simp_all; done))) rfl (fun _ w3 hw3 => ?_)))
      · rw [show 0 + (i2 : Int).toNat * 1 = i2 by omega]
        exact row_cell (hw3.item (i := row w2.heap.size Ov2 (some ⟨g0, 0, none⟩) vals2.length cv2 3 1 (intv vals2)) (by (repeat (first | exact List.Mem.head _ | apply List.Mem.tail)))) (intv_get hv2)
      apply QL.op; exact Guard.none; rfl; rfl; apply Pev.idxB; rfl; exact yes; rfl; exact yes; rfl; intro hcond; omega; rfl
      with_reducible apply QL.tail
      rw [show 0 + (i1 : Int).toNat * 1 = i1 by omega]
      refine OL.storeR (xs := intv vals2) rfl rfl rfl rfl rfl (.s .z) (by rw [intv_length]; omega) ?_
      rw [intv_set]
      apply OL.nil
      with_reducible apply At.in_normal
      with_reducible apply At.next
      apply W.reg
      apply obn; rfl; rfl; rfl; apply Bin.add_in; omega
      apply omv; rfl; rfl
      apply OL.nil
      have hrun : runS id (out.take (j + 1)) = upd1 (runS id (out.take j)) x := by
        rw [List.take_add_one, hx, runS_append]; rfl
      have hvl2 : (vals2.set i1 (runS id (out.take j) x.2)).length = vals2.length := List.length_set
      refine At.again ⟨j + 1, names2, vals2.set i1 (runS id (out.take j) x.2), ⟨qn2, cn2, On2, some ⟨g0, 0, none⟩, cv2, Ov2⟩⟩ ⟨by simp only; omega, by simp only [hrun]; exact hrep2.set hn1' hn2, by simp only; omega⟩ (by simp only; omega) (by (repeat (first | exact Sub.nil | apply Sub.cons rfl))) (fun w' hw' => ?_)
      simp only [nvI, hvl2]
      exact hw'.thin (by (repeat (first | exact Thin.nil | exact Thin.same | apply Thin.keep | (refine Thin.blk (by assumption) ?_) | (refine Thin.blk (by simp only [AllLe, and_true]; omega) ?_))))
    · obtain rfl : j = out.length := by omega
      rw [List.take_length] at hrep
      apply W.exit
      with_reducible apply At.then_exit
      with_reducible apply At.then_exit
      with_reducible apply At.in_exit
      with_reducible apply At.next
      apply W.seq
      apply W.seq
      apply W.reg
      apply omv; rfl; rfl
      apply OL.op; exact Guard.none; rfl; rfl; apply Pev.len_slice; rfl; exact yes; rfl
      apply omv; rfl; rfl
      apply OL.nil
      with_reducible apply At.next
      apply W.block
      refine W.loop (G := GL) (fun g => g.j ≤ l.length ∧ Rep g.names g.vals (runS id out) ∧ g.names.length ≤ 2 * out.length + g.j) (fun g => l.length - g.j)
        (fun g => [(143, true, .int .i64 (g.j : Int)), (142, true, .int .i64 (l.length : Int)), (141, true, .slice q l.length cap), (15, true, .func (.func 6) #[] #[.pointer (some ⟨bn, 0, none⟩), .pointer (some ⟨bv, 0, none⟩)]), (14, true, .pointer (some ⟨bv, 0, none⟩)), (13, true, .pointer (some ⟨bn, 0, none⟩)),
          (1, true, .int .i64 spare), (8, true, .int .i64 0), (9, true, .slice q9 l.length c9)])
        (fun g => Cls (nvI w2.heap.size bn bv g.names g.vals g.x [row w2.heap.size O9 q9 l.length c9 3 1 (intv seen)]) [w2, w]) ⟨0, names, vals, qn, cn, On, qv, cv, Ov⟩
        ⟨by simp, hrep, by simp only; omega⟩ (by (repeat (first | exact Sub.nil | apply Sub.cons rfl))) (fun w' hw' => hw') ?_
      clear hrep hnl
      rintro ⟨j, names, vals, ⟨qn, cn, On, qv, cv, Ov⟩⟩ ⟨hj, hrep, hnl⟩
      simp only [nvI] at hj hrep hnl ⊢
      apply W.seq
      apply W.reg
      apply obn; rfl; rfl; rfl; apply Bin.lss
      apply OL.nil
      with_reducible apply At.next
      apply W.seq
      (refine W.cond rfl (fun hlt3 => ?_) (fun hlt3 => ?_)) <;> (try (simp only [Bool.and_eq_true, Bool.or_eq_true, Bool.not_eq_true', Bool.and_eq_false_iff, Bool.or_eq_false_iff, Bool.not_eq_false', decide_eq_true_eq, decide_eq_false_iff_not, Int.not_lt, Int.not_le] at hlt3)) <;> (try (exfalso; first | omega | exact hlt3 trivial | contradiction))
      · have hjl : j < l.length := by omega
        obtain ⟨a, x, rfl, hab, hx, hcell⟩ := h.elem plen (by decide) hjl
        have hxl := List.mem_of_getElem? hx
        unfold pcell at hcell
        apply W.skip
        with_reducible apply At.next
        apply W.seq
        apply W.block
        apply W.seq
        apply W.reg
        apply OL.op; exact Guard.none; rfl; rfl; apply Pev.idx; rfl; exact yes; rfl; exact yes; rfl; rfl; intro hcond; omega
        apply OL.op; exact Guard.none; rfl; rfl; apply Pev.load_keptA; rfl; exact yes; exact .head _; rfl; intro hcond; assumption; rfl; intro hcond; (rw [add_block]; assumption); intro hcond; simp only [add_block]; refine NotOwned.row (by omega) ?_; refine NotOwned.row (by omega) ?_; refine NotOwned.blk (by omega) ?_; refine NotOwned.blk (by omega) ?_; refine NotOwned.row (by omega) ?_; exact NotOwned.nil
        apply OL.alloc; rfl; rfl; exact CellsL.agg; (intro bk hbk; simp only [AllLe, and_true] at hbk)
        apply OL.storeB; rfl; rfl; exact CellsL.agg; rfl; rfl; rfl; apply Swap.z; apply Put.here; apply Over.cons; apply Over.cons; apply Over.nil
        apply OL.nil
        with_reducible apply At.next
        apply W.seq
        apply W.reg
        apply omv; rfl; rfl
        apply OL.op; exact Guard.none; rfl; rfl; apply Pev.idxArr; rfl; exact yes; rfl; exact yes; rfl; intro hcond; omega; rfl
        apply old; rfl; rfl; exact .head _; rfl; rfl
        revert bk
        intro bx hbx
        refine OL.cls (C' := Cls (nvI w2.heap.size bn bv names vals ⟨qn, cn, On, qv, cv, Ov⟩ [row w2.heap.size O9 q9 l.length c9 3 1 (intv seen), blk bx 26 [.int .i64 x.1, .int .i64 x.2]]) [w2, w]) (fun w' hw' => hw'.last) ?_
        refine OL.callvE (first := []) (cap := [.pointer (some ⟨bn, 0, none⟩), .pointer (some ⟨bv, 0, none⟩)]) (vs := [.int .i64 x.1]) (fun _ => .int .i64 (fI names x.1)) (fun _ => True) (fun y => Cls (nvI w2.heap.size bn bv (fN names x.1) (fV names vals x.1) y [row w2.heap.size O9 q9 l.length c9 3 1 (intv seen), blk bx 26 [.int .i64 x.1, .int .i64 x.2]]) [w2, w]) rfl rfl rfl (by (repeat (first | exact Args.nil | (apply Args.cons rfl; ((first | exact fun _ => rfl | exact fun h => h | (intro h; simp_all; done)))))))
          (fun w3 hw3 => find_calls x.1 names vals _ w2.heap.size bn bv _ _ w3 hw3 hSB hBS (by omega) hrep.len) ?_
        rintro ⟨qn2, cn2, On2, qv2, cv2, Ov2⟩ -
        obtain ⟨hrep1, i1, hi1, hn1⟩ := hrep.fnd x.1
        have hl1 := fN_len (names := names) x.1
        generalize fI names x.1 = z1 at hi1 ⊢
        subst hi1
        generalize fN names x.1 = names1 at hrep1 hn1 hl1 ⊢
        generalize fV names vals x.1 = vals1 at hrep1 ⊢
        have hi1l := (List.getElem?_eq_some_iff.1 hn1).1
        have hvl := hrep1.len
        have hv1 := hrep1.val _ _ hn1
        rw [hok1 x hxl] at hv1
        simp only [nvI]
        refine OL.fact (φ := ∃ g0, qv2 = some ⟨g0, 0, none⟩) (fun w3 hw3 => row_some (hw3.item (i := row w2.heap.size Ov2 qv2 vals1.length cv2 3 1 (intv vals1)) (by (repeat (first | exact List.Mem.head _ | apply List.Mem.tail)))) (by omega)) ?_
        rintro ⟨g0, rfl⟩
        apply oas; rfl; rfl
        apply OL.nil
        with_reducible apply At.next
        apply W.seq
        apply W.regd0; decide +kernel; kernel_rfl; decide +kernel; exact fun w hw => hw.drew
        apply qld; rfl; rfl; apply List.Mem.tail; exact .tail _ (.tail _ (.head _)); rfl; rfl
        apply qmv; rfl; rfl
        apply QL.op; exact Guard.none; rfl; rfl; apply Pev.idxB; rfl; exact yes; rfl; exact yes; rfl; intro hcond; omega; rfl
        (((first | (with_reducible apply OL.op) | (with_reducible apply QL.op)); ((first | exact Guard.none | exact Guard.yes rfl rfl | exact Guard.no rfl rfl | exact Guard.cyes rfl rfl | exact Guard.cno rfl rfl)); rfl; rfl); (refine Pev.load_cls (v := .int .i64 x.2) rfl (by (first | exact fun _ => rfl | exact fun h => h | (intro h; simp_all; done))) rfl (fun _ w3 hw3 => ?_)))
        · rw [show 0 + (i1 : Int).toNat * 1 = i1 by omega]
          exact row_cell (hw3.item (i := row w2.heap.size Ov2 (some ⟨g0, 0, none⟩) vals1.length cv2 3 1 (intv vals1)) (by (repeat (first | exact List.Mem.head _ | apply List.Mem.tail)))) (intv_get hv1)
        apply QL.op; exact Guard.none; rfl; rfl; apply Pev.idxArr; rfl; exact yes; rfl; exact yes; rfl; intro hcond; omega; rfl
        apply qld; rfl; rfl; apply List.Mem.tail; apply List.Mem.tail; apply List.Mem.tail; exact .tail _ (.tail _ (.head _)); rfl; rfl
        apply qbn; rfl; rfl; rfl; apply Bin.neq
        apply QL.nil
        with_reducible apply At.next
        refine W.cond rfl (fun hc => by simp at hc) (fun _ => ?_)
        apply W.skip
        with_reducible apply At.in_normal
        with_reducible apply At.next
        apply W.reg
        apply obn; rfl; rfl; rfl; apply Bin.add_in; omega
        apply omv; rfl; rfl
        apply OL.nil
        exact At.again ⟨j + 1, names1, vals1, ⟨qn2, cn2, On2, some ⟨g0, 0, none⟩, cv2, Ov2⟩⟩ ⟨by simp only; omega, hrep1, by simp only; omega⟩ (by simp only; omega) (by (repeat (first | exact Sub.nil | apply Sub.cons rfl))) (fun w' hw' => hw'.thin (by (repeat (first | exact Thin.nil | exact Thin.same | apply Thin.keep | (refine Thin.blk (by assumption) ?_) | (refine Thin.blk (by simp only [AllLe, and_true]; omega) ?_)))))
      · obtain rfl : j = l.length := by omega
        apply W.exit
        with_reducible apply At.then_exit
        with_reducible apply At.then_exit
        with_reducible apply At.in_exit
        with_reducible apply At.next
        apply W.seq
        apply W.seq
        apply W.reg
        apply old; rfl; rfl; exact .tail _ (.tail _ (.head _)); rfl; rfl
        apply OL.op; exact Guard.none; rfl; rfl; apply Pev.len_slice; rfl; exact yes; rfl
        apply omv; rfl; rfl
        apply OL.nil
        with_reducible apply At.next
        apply W.block
        refine W.loop (G := Nat) (fun k => k ≤ names.length) (fun k => names.length - k)
          (fun k => [(161, true, .int .i64 (k : Int)), (160, true, .int .i64 (names.length : Int)), (159, true, .slice qn names.length cn), (14, true, .pointer (some ⟨bv, 0, none⟩)), (1, true, .int .i64 spare), (8, true, .int .i64 0), (9, true, .slice q9 l.length c9)])
          (fun k => Cls (nvI w2.heap.size bn bv names vals ⟨qn, cn, On, qv, cv, Ov⟩ [row w2.heap.size O9 q9 l.length c9 3 1 (intv seen)]) [w2, w]) 0
          (by omega) (by (repeat (first | exact Sub.nil | apply Sub.cons rfl))) (fun w' hw' => hw') ?_
        intro k hk
        simp only [nvI]
        apply W.seq
        apply W.reg
        apply obn; rfl; rfl; rfl; apply Bin.lss
        apply OL.nil
        with_reducible apply At.next
        apply W.seq
        (refine W.cond rfl (fun hlt4 => ?_) (fun hlt4 => ?_)) <;> (try (simp only [Bool.and_eq_true, Bool.or_eq_true, Bool.not_eq_true', Bool.and_eq_false_iff, Bool.or_eq_false_iff, Bool.not_eq_false', decide_eq_true_eq, decide_eq_false_iff_not, Int.not_lt, Int.not_le] at hlt4)) <;> (try (exfalso; first | omega | exact hlt4 trivial | contradiction))
        · have hkl : k < names.length := by omega
          obtain ⟨v, hv⟩ : ∃ v, names[k]? = some v := ⟨_, List.getElem?_eq_getElem hkl⟩
          have hval := hrep.val _ _ hv
          have hvl := hrep.len
          refine W.fact (φ := (∃ g0, qn = some ⟨g0, 0, none⟩) ∧ ∃ g0, qv = some ⟨g0, 0, none⟩) (fun w3 hw3 => ⟨row_some (hw3.item (i := row w2.heap.size On qn names.length cn 3 1 (intv names)) (by (repeat (first | exact List.Mem.head _ | apply List.Mem.tail)))) (by omega), row_some (hw3.item (i := row w2.heap.size Ov qv vals.length cv 3 1 (intv vals)) (by (repeat (first | exact List.Mem.head _ | apply List.Mem.tail)))) (by omega)⟩) ?_
          rintro ⟨⟨gn, rfl⟩, ⟨gv, rfl⟩⟩
          apply W.skip
          with_reducible apply At.next
          apply W.seq
          apply W.block
          apply W.seq
          apply W.reg
          apply omv; rfl; rfl
          apply OL.op; exact Guard.none; rfl; rfl; apply Pev.idxB; rfl; exact yes; rfl; exact yes; rfl; intro hcond; omega; rfl
          (((first | (with_reducible apply OL.op) | (with_reducible apply QL.op)); ((first | exact Guard.none | exact Guard.yes rfl rfl | exact Guard.no rfl rfl | exact Guard.cyes rfl rfl | exact Guard.cno rfl rfl)); rfl; rfl); (refine Pev.load_cls (v := .int .i64 v) rfl (by (first | exact fun _ => rfl | exact fun h => h | (intro h; simp_all; done))) rfl (fun _ w3 hw3 => ?_)))
          · rw [show 0 + (k : Int).toNat * 1 = k by omega]
            exact row_cell (hw3.item (i := row w2.heap.size On (some ⟨gn, 0, none⟩) names.length cn 3 1 (intv names)) (by (repeat (first | exact List.Mem.head _ | apply List.Mem.tail)))) (intv_get hv)
          apply oas; rfl; rfl
          apply oas; rfl; rfl
          apply OL.nil
          with_reducible apply At.next
          apply W.seq
          apply W.reg
          apply omv; rfl; rfl
          apply omv; rfl; rfl
          apply obn; rfl; rfl; rfl; apply Bin.neq
          apply omv; rfl; rfl
          apply OL.op; exact Guard.yes rfl rfl; rfl; rfl; apply Pev.move; rfl; exact yes
          apply OL.op; exact Guard.yes rfl rfl; rfl; rfl; apply Pev.move; rfl; exact yes
          (((first | (with_reducible apply OL.op) | (with_reducible apply QL.op)); ((first | exact Guard.none | exact Guard.yes rfl rfl | exact Guard.no rfl rfl | exact Guard.cyes rfl rfl | exact Guard.cno rfl rfl)); rfl; rfl); (refine Pev.call (v := .bool (has seen v)) rfl (by (repeat (first | exact Args.nil | (apply Args.cons rfl; ((first | exact fun _ => rfl | exact fun h => h | (intro h; simp_all; done))))))) (fun _ w3 hw3 => ?_)))
          · have hcc := HasInt_calls q9 c9 seen v w3 (by omega) (SlAt.of_row (hw3.item (i := row w2.heap.size O9 q9 l.length c9 3 1 (intv seen)) (by (repeat (first | exact List.Mem.head _ | apply List.Mem.tail)))))
            rw [hsl] at hcc
            exact hcc.mono (fun e w4 h => ⟨h.1, hw3.ext h.2⟩)
          apply OL.op; exact Guard.yes rfl rfl; rfl; rfl; apply Pev.not; rfl; exact fun h => h
          apply OL.op; exact Guard.none; rfl; rfl; apply Pev.pick_and; rfl; exact yes; rfl; exact fun h => h
          apply omv; rfl; rfl
          apply OL.op; exact Guard.yes rfl rfl; rfl; rfl; apply Pev.load_blk; rfl; exact yes; apply List.Mem.tail; exact .tail _ (.tail _ (.head _)); rfl; rfl
          apply OL.op; exact Guard.yes rfl rfl; rfl; rfl; apply Pev.move; rfl; exact yes
          apply OL.op; exact Guard.yes rfl rfl; rfl; rfl; apply Pev.idxB; rfl; exact fun h => h; rfl; exact fun h => h; rfl; intro hcond; omega; rfl
          (((first | (with_reducible apply OL.op) | (with_reducible apply QL.op)); ((first | exact Guard.none | exact Guard.yes rfl rfl | exact Guard.no rfl rfl | exact Guard.cyes rfl rfl | exact Guard.cno rfl rfl)); rfl; rfl); (refine Pev.load_cls (v := .int .i64 (runS id out v)) rfl (by (first | exact fun _ => rfl | exact fun h => h | (intro h; simp_all; done))) rfl (fun _ w3 hw3 => ?_)))
          · rw [show 0 + (k : Int).toNat * 1 = k by omega]
            exact row_cell (hw3.item (i := row w2.heap.size Ov (some ⟨gv, 0, none⟩) vals.length cv 3 1 (intv vals)) (by (repeat (first | exact List.Mem.head _ | apply List.Mem.tail)))) (intv_get hval)
          apply OL.op; exact Guard.yes rfl rfl; rfl; rfl; apply Pev.move; rfl; exact yes
          apply OL.op; exact Guard.yes rfl rfl; rfl; rfl; apply Pev.bin; rfl; exact fun h => h; rfl; exact fun h => h; intro hcond; apply Bin.neq
          apply OL.op; exact Guard.none; rfl; rfl; apply Pev.pick_and; rfl; exact yes; rfl; exact fun h => h
          apply OL.nil
          with_reducible apply At.next
          refine W.cond rfl (fun hc => ?_) (fun _ => ?_)
          · exfalso
            simp only [Bool.and_eq_true, Bool.not_eq_true', decide_eq_false_iff_not] at hc
            refine hc.2 (hok2 v (fun x hx he => ?_) hc.1.1)
            have : has seen v = true := has_iff.2 (by rw [← hseen]; exact List.mem_map.2 ⟨x, hx, he⟩)
            rw [this] at hc
            simp at hc
          · apply W.skip
            with_reducible apply At.in_normal
            with_reducible apply At.next
            apply W.reg
            apply obn; rfl; rfl; rfl; apply Bin.add_in; omega
            apply omv; rfl; rfl
            apply OL.nil
            exact At.again (k + 1) (by omega) (by omega) (by (repeat (first | exact Sub.nil | apply Sub.cons rfl))) (fun w' hw' => hw')
        · apply W.exit
          with_reducible apply At.then_exit
          with_reducible apply At.then_exit
          with_reducible apply At.in_exit
          with_reducible apply At.next
          apply W.seq
          apply W.reg
          apply omv; rfl; rfl
          apply obn; rfl; rfl; rfl; apply Bin.eql
          apply oas; rfl; rfl
          apply OL.nil
          with_reducible apply At.next
          apply W.ret
          ((with_reducible apply At.fin1); rfl; rfl; intro w' hw')
          exact ⟨by simp, by (exact hw'.toExt (by (repeat (first | exact List.Mem.head _ | apply List.Mem.tail))) (fun k hk => by (focus ((try simp only [add_block]); (repeat (first | exact NotOwned.nil | refine NotOwned.blk (by omega) ?_ | refine NotOwned.row (by omega) ?_ | refine NotOwned.grid (by assumption) (by omega) ?_)); done))))⟩
end Go.Proofs.Ytfnkahakocbofaa.mv
