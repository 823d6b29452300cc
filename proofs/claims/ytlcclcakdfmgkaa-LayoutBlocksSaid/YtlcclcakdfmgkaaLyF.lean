/- The walk of Mark. Conditions: none. -/
import Derived.Test.YtlcclcakdfmgkaaLyE
namespace Go.Proofs.Ytlcclcakdfmgkaa.ly
open Go.RowKit Go.Eng Go.Ly
set_option linter.unusedVariables false
set_option linter.unusedSimpArgs false
set_option maxRecDepth 100000

theorem ends_le (s : List Cx) (t : Tok) : (ends s t).1 ≤ s.length := by
  have h1 := inn_le s
  unfold ends
  split
  · exact h1
  · split
    · split
      · exact h1
      · exact Nat.zero_le _
    · split
      · exact letN_le s
      · exact Nat.zero_le _
theorem endsS_sz {t : Tok} {x : St} : szS (endsS t x) ≤ szS x := by
  have h1 := ends_le x.1 t
  unfold szS endsS
  simp only [List.length_append, List.length_replicate]
  split <;> simp only [List.length_drop] <;> omega
theorem stepS_sz {prev : Option Tok} {t : Tok} {x : St} : szS (stepS prev t x) ≤ szS x + 5 := by
  have h1 := openS_sz (prev := prev) (t := t) (x := x)
  unfold stepS
  simp only
  generalize openS prev t x = y at h1
  have h2 : szS (if firstB prev t x.1 = true then lineS t y else y) ≤ szS x + 3 := by
    split
    · have := lineS_sz (t := t) (x := y); omega
    · omega
  generalize (if firstB prev t x.1 = true then lineS t y else y) = z at h2
  have h3 := endsS_sz (t := t) (x := z)
  generalize endsS t z = u at h3
  unfold brk
  split
  · unfold szS at *; simp only [List.length_append, List.length_cons, List.length_nil]; omega
  · unfold szS at *; simp only [List.length_append, List.length_cons, List.length_nil]; omega
theorem stepS_pos {prev : Option Tok} {t : Tok} {x : St} (ht : 1 ≤ t.col) (h : posS x) : posS (stepS prev t x) := by
  have h1 := openS_pos (prev := prev) ht h
  unfold stepS
  simp only
  generalize openS prev t x = y at h1
  have h2 : posS (if firstB prev t x.1 = true then lineS t y else y) := by
    split
    · exact lineS_pos h1
    · exact h1
  generalize (if firstB prev t x.1 = true then lineS t y else y) = z at h2
  have h3 := endsS_pos (t := t) h2
  generalize endsS t z = u at h3
  unfold brk
  split
  · intro c hc
    rcases List.mem_cons.1 hc with rfl | hc
    · exact Int.le_refl _
    · exact h3 c hc
  · exact h3
def markR (l : List Tok) : List Tok × Int := if chk l = 0 then (lay none l ([], []), 0) else ([], chk l)
structure MG where
  i : Nat
  x : St
  y : MY

theorem Mark_calls (q : Option Addr) (cap : Nat) (l : List Tok) (w : World) (hlen : l.length ≤ 9223372036854775807) (h : SlAt w w.heap.size q (cat tc l)) :
    Calls Try.prog 17 #[.slice q l.length cap] w fun e w' => ∃ x : Option Addr × Nat, e = .returned (.tuple #[.slice x.1 (markR l).1.length x.2, .int .i64 (markR l).2]) ∧ SlAt w' w'.heap.size x.1 (cat tc (markR l).1) ∧ Ext w w' := by
  refine enter Try.func17 rfl Try.ntmps17 rfl (Cls.start w) ?_
  (simp only [argEnv, Nat.zero_add, Nat.reduceAdd])
  apply W.seq
  apply W.reg
  apply oas; rfl; rfl
  apply oas; rfl; rfl
  apply OL.nil
  with_reducible apply At.next
  apply W.seq
  apply W.seq
  apply W.reg
  apply omv; rfl; rfl
  (((first | (with_reducible apply OL.op) | (with_reducible apply QL.op)); ((first | exact Guard.none | exact Guard.yes rfl rfl | exact Guard.no rfl rfl | exact Guard.cyes rfl rfl | exact Guard.cno rfl rfl)); rfl; rfl); (refine Pev.call (v := .int .i64 (chk l)) rfl (by (repeat (first | exact Args.nil | (apply Args.cons rfl; ((first | exact fun _ => rfl | exact fun h => h | (intro h; simp_all; done))))))) (fun _ w2 hw2 => (Check_calls q cap l w2 hlen (h.keep (hw2.below (s := w) (by (repeat (first | exact List.Mem.head _ | apply List.Mem.tail))) (Nat.le_refl _) (fun k hk => by (focus ((try simp only [add_block]); (repeat (first | exact NotOwned.nil | exact hno _ (by omega) | refine NotOwned.nothing ?_ | refine NotOwned.nds (hlow _ (by omega)) ?_ | refine NotOwned.mapS (by omega) ?_ | apply NotOwned.bif | refine NotOwned.blk (by omega) ?_ | refine NotOwned.row (by omega) ?_ | refine NotOwned.grid (by assumption) (by omega) ?_)); done)))) (hw2.kp w (by (repeat (first | exact List.Mem.head _ | apply List.Mem.tail)))).size)).mono (fun e w3 h => ⟨h.1, hw2.ext h.2⟩))))
  apply oas; rfl; rfl
  apply OL.nil
  with_reducible apply At.next
  apply W.seq
  apply W.reg
  apply omv; rfl; rfl
  apply obn; rfl; rfl; rfl; apply Bin.neq
  apply OL.nil
  with_reducible apply At.next
  (refine W.cond rfl (fun hok => ?_) (fun hok => ?_)) <;> (try (simp only [Bool.and_eq_true, Bool.or_eq_true, Bool.not_eq_true', Bool.and_eq_false_iff, Bool.or_eq_false_iff, Bool.not_eq_false', decide_eq_true_eq, decide_eq_false_iff_not, Int.not_lt, Int.not_le] at hok)) <;> (try (exfalso; first | omega | exact hok trivial | contradiction))
  · have hR : markR l = ([], chk l) := by rw [markR, if_neg hok]
    rw [hR]
    apply W.seq
    apply W.reg
    apply omv; rfl; rfl
    apply oas; rfl; rfl
    apply oas; rfl; rfl
    apply OL.nil
    with_reducible apply At.next
    apply W.ret
    with_reducible apply At.then_ret
    ((with_reducible apply At.fin2); rfl; rfl; rfl; intro w' hw')
    exact ⟨(none, 0), rfl, SlAt.nil, by (exact hw'.toExt (by (repeat (first | exact List.Mem.head _ | apply List.Mem.tail))) (fun k hk => by (focus ((try simp only [add_block]); (repeat (first | exact NotOwned.nil | exact hno _ (by omega) | refine NotOwned.nothing ?_ | refine NotOwned.nds (hlow _ (by omega)) ?_ | refine NotOwned.mapS (by omega) ?_ | apply NotOwned.bif | refine NotOwned.blk (by omega) ?_ | refine NotOwned.row (by omega) ?_ | refine NotOwned.grid (by assumption) (by omega) ?_)); done))))⟩
  have hok0 : chk l = 0 := by simpa using hok
  obtain ⟨hl1, hl2, hl9, _⟩ := chk_zero hok0
  have hR : markR l = (lay none l ([], []), 0) := by rw [markR, if_pos hok0]
  rw [hR]
  simp only
  obtain ⟨a, z, rfl, hab, hz, hcz⟩ := h.elem tlen (by decide) (show l.length - 1 < l.length by omega)
  apply W.skip
  with_reducible apply At.next
  apply W.seq
  apply W.reg
  apply OL.op; exact Guard.none; rfl; rfl; apply Pev.build; rfl; exact CellsL.agg; rfl; apply Fill.nil; rfl
  apply OL.box; rfl; rfl; exact CellsL.agg; (intro bk hbk; simp only [AllLe, and_true] at hbk)
  apply oas; rfl; rfl
  apply OL.nil
  with_reducible apply At.next
  apply W.seq
  apply W.seq
  apply W.reg
  apply omv; rfl; rfl
  apply OL.op; exact Guard.none; rfl; rfl; apply Pev.len_slice; rfl; exact yes; rfl
  apply omv; rfl; rfl
  apply OL.nil
  with_reducible apply At.next
  apply W.block
  revert bk
  intro mb hmb
  have hmb1 : w.heap.size ≤ mb := hmb
  have hp0 : posS ([], []) := fun c hc => absurd hc (List.not_mem_nil)
  have tl : l.length * 5 ≤ 50000 := by omega
  refine W.loop (G := MG) (fun g => g.i < l.length ∧ lay (prv l g.i) (l.drop g.i) g.x = lay none l ([], []) ∧ posS g.x ∧ szS g.x ≤ 5 * g.i) (fun g => l.length - g.i)
    (fun g => [(0, true, .slice (some a) l.length cap), (5, true, .pointer (some ⟨mb, 0, none⟩)), (17, true, .slice (some a) l.length cap), (18, true, .int .i64 (l.length : Int)), (19, true, .int .i64 (g.i : Int))])
    (fun g => Cls (MI w.heap.size mb g.x.1 g.x.2 g.y []) [w]) ⟨0, ([], []), ⟨none, 0, fun _ => False, none, 0, fun _ => False⟩⟩ ⟨hl2, rfl, hp0, Nat.le_refl _⟩ (by (repeat (first | exact Sub.nil | apply Sub.cons rfl | (refine Sub.cons_eq rfl (congrArg (Value.int .i64) (by omega)) ?_)))) (fun w' hw' => ?_) ?_
  · exact (Cls.flip (Cls.row_nil (Cls.flip (hw'.row_nil w.heap.size 51 5)) w.heap.size 80 2))
  rintro ⟨i, ⟨s, out⟩, y⟩ ⟨hi, hrest, hpos, hsz⟩
  simp only at hi hrest hpos hsz ⊢
  unfold szS at hsz
  simp only at hsz
  obtain ⟨a2, t, he, hab2, ht, hct⟩ := h.elem tlen (by decide) hi
  obtain rfl := Option.some.inj he
  obtain ⟨p, hp, hcellI⟩ := tok_prev h hi rfl
  obtain ⟨g1, g2, g3, g4⟩ := chk_get hok0 ht
  rw [drop_of ht, lay] at hrest
  simp only [MI]
  apply W.seq
  apply W.reg
  apply obn; rfl; rfl; rfl; apply Bin.lss
  apply OL.nil
  with_reducible apply At.next
  apply W.seq
  (refine W.cond rfl (fun hlt => ?_) (fun hlt => ?_)) <;> (try (simp only [Bool.and_eq_true, Bool.or_eq_true, Bool.not_eq_true', Bool.and_eq_false_iff, Bool.or_eq_false_iff, Bool.not_eq_false', decide_eq_true_eq, decide_eq_false_iff_not, Int.not_lt, Int.not_le] at hlt)) <;> (try (exfalso; first | omega | exact hlt trivial | contradiction))
  apply W.skip
  with_reducible apply At.next
  apply W.seq
  apply W.block
  apply W.seq
  apply W.reg
  apply omv; rfl; rfl
  apply OL.op; exact Guard.none; rfl; rfl; apply Pev.idx; rfl; exact yes; rfl; exact yes; rfl; rfl; intro hcond; omega
  apply OL.op; exact Guard.none; rfl; rfl; apply Pev.load_keptA; rfl; exact yes; exact .head _; rfl; intro hcond; assumption; rfl; intro hcond; (rw [add_block]; assumption); intro hcond; simp only [add_block]; refine NotOwned.blk (by omega) ?_; refine NotOwned.row (by omega) ?_; refine NotOwned.row (by omega) ?_; exact NotOwned.nil
  apply OL.alloc; rfl; rfl; exact CellsL.agg; (intro bk hbk; simp only [AllLe, and_true] at hbk)
  apply oas; rfl; rfl
  apply OL.storeB; rfl; rfl; exact CellsL.agg; rfl; rfl; rfl; apply Swap.z; apply Put.here; apply Over.cons; apply Over.cons; apply Over.cons; apply Over.cons; apply Over.cons; apply Over.nil
  apply OL.nil
  with_reducible apply At.next
  apply W.seq
  apply W.regd0; decide +kernel; kernel_rfl; decide +kernel; exact fun w hw => hw.drew
  apply qmv; rfl; rfl
  apply qbn; rfl; rfl; rfl; apply Bin.eql
  apply qmv; rfl; rfl
  apply QL.op; exact Guard.no rfl rfl; rfl; rfl; apply Pev.fld; rfl; exact yes; rfl
  apply QL.op; exact Guard.no rfl rfl; rfl; rfl; apply Pev.load_blk; rfl; exact fun h => h; exact .head _; rfl; rfl
  apply QL.op; exact Guard.no rfl rfl; rfl; rfl; apply Pev.move; rfl; exact yes
  apply QL.op; exact Guard.no rfl rfl; rfl; rfl; apply Pev.move; rfl; exact yes
  apply QL.op; exact Guard.no rfl rfl; rfl; rfl; apply Pev.bin; rfl; exact fun h => h; rfl; exact yes; intro hcond; apply Bin.sub_in; omega
  apply QL.op; exact Guard.no rfl rfl; rfl; rfl; apply Pev.idxI; rfl; exact fun h => h; rfl; exact fun h => h; rfl; intro hcond; (simp only [Bool.and_eq_true, Bool.or_eq_true, Bool.not_eq_true', decide_eq_true_eq, decide_eq_false_iff_not] at hcond; omega)
  apply QL.op; exact Guard.no rfl rfl; rfl; rfl; apply Pev.fldA; rfl; exact fun h => h; rfl
  apply QL.op; exact Guard.no rfl rfl; rfl; rfl; apply Pev.load_kept; rfl; exact fun h => h; exact .head _; rfl; intro hcond; refine CellsAt.at_ (hcellI ?_) rfl; (simp only [Bool.and_eq_true, Bool.or_eq_true, Bool.not_eq_true', decide_eq_true_eq, decide_eq_false_iff_not] at hcond; omega); intro hcond; (simp only [add_block]; assumption); intro hcond; simp only [add_block]; refine NotOwned.blk (by omega) ?_; refine NotOwned.blk (by omega) ?_; refine NotOwned.row (by omega) ?_; refine NotOwned.row (by omega) ?_; exact NotOwned.nil
  apply QL.op; exact Guard.no rfl rfl; rfl; rfl; apply Pev.bin; rfl; exact fun h => h; rfl; exact fun h => h; intro hcond; apply Bin.gtr
  apply QL.op; exact Guard.none; rfl; rfl; apply Pev.pick_or; rfl; exact yes; rfl; exact fun h => h
  apply qas; rfl; rfl
  apply QL.nil
  with_reducible apply At.next
  apply W.seq
  apply W.reg
  apply omv; rfl; rfl
  apply obn; rfl; rfl; rfl; apply Bin.gtr
  apply omv; rfl; rfl
  apply OL.op; exact Guard.yes rfl rfl; rfl; rfl; apply Pev.move; rfl; exact yes
  apply OL.op; exact Guard.yes rfl rfl; rfl; rfl; apply Pev.move; rfl; exact yes
  apply OL.op; exact Guard.yes rfl rfl; rfl; rfl; apply Pev.bin; rfl; exact fun h => h; rfl; exact yes; intro hcond; apply Bin.sub_in; omega
  apply OL.op; exact Guard.yes rfl rfl; rfl; rfl; apply Pev.idxI; rfl; exact fun h => h; rfl; exact fun h => h; rfl; intro hcond; (simp only [Bool.and_eq_true, Bool.or_eq_true, Bool.not_eq_true', decide_eq_true_eq, decide_eq_false_iff_not] at hcond; omega)
  apply OL.op; exact Guard.yes rfl rfl; rfl; rfl; apply Pev.load_keptA; rfl; exact fun h => h; exact .head _; rfl; intro hcond; refine hcellI ?_; (simp only [Bool.and_eq_true, Bool.or_eq_true, Bool.not_eq_true', decide_eq_true_eq, decide_eq_false_iff_not] at hcond; omega); rfl; intro hcond; (rw [add_block]; assumption); intro hcond; simp only [add_block]; refine NotOwned.blk (by omega) ?_; refine NotOwned.blk (by omega) ?_; refine NotOwned.row (by omega) ?_; refine NotOwned.row (by omega) ?_; exact NotOwned.nil
  (((first | (with_reducible apply OL.op) | (with_reducible apply QL.op)); ((first | exact Guard.none | exact Guard.yes rfl rfl | exact Guard.no rfl rfl | exact Guard.cyes rfl rfl | exact Guard.cno rfl rfl)); rfl; rfl); (exact Pev.call rfl (by (repeat (first | exact Args.nil | (apply Args.cons rfl; ((first | exact fun _ => rfl | exact fun h => h | (intro h; simp_all; done))))))) (fun _ w2 hw2 => (opens_calls p w2).mono (fun e w3 h => ⟨h.1, hw2.ext h.2⟩))))
  apply OL.op; exact Guard.none; rfl; rfl; apply Pev.pick_and; rfl; exact yes; rfl; exact fun h => h
  apply oas; rfl; rfl
  apply OL.nil
  with_reducible apply At.next
  apply W.seq
  revert bk
  intro bt hbt
  rw [opd_prv hp, newln_prv hp]
  refine W.joinx (G := MY) (fun _ => True)
    (fun g => [(0, true, .slice (some a) l.length cap), (5, true, .pointer (some ⟨mb, 0, none⟩)), (6, true, .int .i64 (i : Int)), (7, true, .pointer (some ⟨bt, 0, none⟩)), (8, true, .bool (firstB (prv l i) t s)), (17, true, .slice (some a) l.length cap), (18, true, .int .i64 (l.length : Int)), (19, true, .int .i64 (i : Int))])
    (fun g => Cls (MI w.heap.size mb (openS (prv l i) t (s, out)).1 (openS (prv l i) t (s, out)).2 g [blk bt 51 (tc t)]) [w]) ?_ ?_
  · refine W.cls (C' := Cls (MI w.heap.size mb s out y [blk bt 51 (tc t)]) [w]) (fun w' hw' => Cls.in3 hw') ?_
    apply W.block
    apply W.seq
    apply W.reg
    apply omv; rfl; rfl
    apply OL.op; exact Guard.none; rfl; rfl; apply Pev.not; rfl; exact yes
    apply oas; rfl; rfl
    apply OL.nil
    with_reducible apply At.next
    refine W.cond rfl (fun h1 => ?_) (fun h1 => ?_)
    · have e1 : opd (prv l i) = false := by simpa using h1
      have hO : openS (prv l i) t (s, out) = (s, out) := by unfold openS; rw [if_pos e1]
      have hF : firstB (prv l i) t s = newln (prv l i) t := by unfold firstB; rw [if_pos e1]
      rw [hO, hF]
      apply W.skip
      with_reducible apply At.in_normal
      exact At.joinedx y trivial (by (repeat (first | exact Sub.nil | apply Sub.cons rfl | (refine Sub.cons_eq rfl (congrArg (Value.int .i64) (by omega)) ?_)))) (fun w' hw' => hw')
    have e1 : opd (prv l i) = true := by simpa using h1
    have e1' : ¬ (opd (prv l i) = false) := by rw [e1]; simp
    obtain ⟨hwd, hi0⟩ := word_prv hp e1
    apply W.seq
    apply W.reg
    apply OL.op; exact Guard.none; rfl; rfl; apply Pev.load_blkA; rfl; exact yes; apply List.Mem.tail; exact .tail _ (.tail _ (.head _)); rfl; apply Take.succ; apply Take.succ; apply Take.succ; apply Take.succ; apply Take.succ; apply Take.zero
    (((first | (with_reducible apply OL.op) | (with_reducible apply QL.op)); ((first | exact Guard.none | exact Guard.yes rfl rfl | exact Guard.no rfl rfl | exact Guard.cyes rfl rfl | exact Guard.cno rfl rfl)); rfl; rfl); (exact Pev.call rfl (by (repeat (first | exact Args.nil | (apply Args.cons rfl; ((first | exact fun _ => rfl | exact fun h => h | (intro h; simp_all; done))))))) (fun _ w2 hw2 => (is_calls t _ _ w2).mono (fun e w3 h => ⟨h.1, hw2.ext h.2⟩))))
    apply oas; rfl; rfl
    apply OL.nil
    with_reducible apply At.next
    refine W.cond rfl (fun h2 => ?_) (fun h2 => ?_)
    · have hO : openS (prv l i) t (s, out) = (s, out) := by unfold openS; rw [if_neg e1', if_pos h2]
      have hF : firstB (prv l i) t s = false := by unfold firstB; rw [if_neg e1', if_pos h2]
      rw [hO, hF]
      apply W.reg
      apply oas; rfl; rfl
      apply OL.nil
      with_reducible apply At.in_normal
      exact At.joinedx y trivial (by (repeat (first | exact Sub.nil | apply Sub.cons rfl | (refine Sub.cons_eq rfl (congrArg (Value.int .i64) (by omega)) ?_)))) (fun w' hw' => hw')
    have e2 : ¬ (isT t 5 ⟨#[123]⟩ = true) := by rw [Bool.not_eq_true]; exact h2
    apply W.seq
    apply W.regd0; decide +kernel; kernel_rfl; decide +kernel; exact fun w hw => hw.drew
    apply qfa; rfl; rfl; rfl
    apply qld; rfl; rfl; apply List.Mem.tail; exact .tail _ (.tail _ (.head _)); rfl; rfl
    apply qbn; rfl; rfl; rfl; apply Bin.neq
    apply qmv; rfl; rfl
    apply QL.op; exact Guard.yes rfl rfl; rfl; rfl; apply Pev.fld; rfl; exact yes; rfl
    apply QL.op; exact Guard.yes rfl rfl; rfl; rfl; apply Pev.load_blk; rfl; exact fun h => h; apply List.Mem.tail; exact .tail _ (.tail _ (.head _)); rfl; rfl
    apply QL.op; exact Guard.yes rfl rfl; rfl; rfl; apply Pev.move; rfl; exact yes
    (((first | (with_reducible apply OL.op) | (with_reducible apply QL.op)); ((first | exact Guard.none | exact Guard.yes rfl rfl | exact Guard.no rfl rfl | exact Guard.cyes rfl rfl | exact Guard.cno rfl rfl)); rfl; rfl); (exact Pev.call rfl (by (repeat (first | exact Args.nil | (apply Args.cons rfl; ((first | exact fun _ => rfl | exact fun h => h | (intro h; simp_all; done))))))) (fun _ w2 hw2 => (enclosing_calls w.heap.size mb s out y _ [w] w2 (by omega) hw2).mono (fun e w3 h => ⟨h.1, hw2.ext h.2⟩))))
    apply QL.op; exact Guard.yes rfl rfl; rfl; rfl; apply Pev.bin; rfl; exact fun h => h; rfl; exact fun h => h; intro hcond; apply Bin.gtr
    apply QL.op; exact Guard.none; rfl; rfl; apply Pev.pick_and; rfl; exact yes; rfl; exact fun h => h
    apply qas; rfl; rfl
    apply QL.nil
    with_reducible apply At.next
    refine W.cond rfl (fun h3 => ?_) (fun h3 => ?_)
    · have e3 : t.kind ≠ 9 ∧ enc s < t.col := by simpa using h3
      have hO : openS (prv l i) t (s, out) = (⟨t.col, p.text⟩ :: s, out ++ [tk 6 t]) := by unfold openS; rw [if_neg e1', if_neg e2, if_pos e3, hwd]
      have hF : firstB (prv l i) t s = false := by unfold firstB; rw [if_neg e1', if_neg e2, if_pos e3]
      rw [hO, hF]
      apply W.seq
      apply W.reg
      apply omv; rfl; rfl
      apply OL.op; exact Guard.none; rfl; rfl; apply Pev.load_blkA; rfl; exact yes; apply List.Mem.tail; exact .tail _ (.tail _ (.head _)); rfl; apply Take.succ; apply Take.succ; apply Take.succ; apply Take.succ; apply Take.succ; apply Take.zero
      refine OL.callE (α := MY) (fun _ => .tuple #[]) (fun _ => True) (fun y2 => Cls (MI w.heap.size mb s (out ++ [tk 6 t]) y2 [blk bt 51 (tc t)]) [w]) rfl rfl (by (repeat (first | exact Args.nil | (apply Args.cons rfl; ((first | exact fun _ => rfl | exact fun h => h | (intro h; simp_all; done))))))) (fun w2 hw2 => put_calls w.heap.size mb s out y 6 t _ [w] w2 (by omega) ⟨w, .head _, Nat.le_refl _⟩ hw2) ?_
      intro y2 _
      simp only [MI]
      apply OL.nil
      with_reducible apply At.next
      apply W.seq
      apply W.regz; apply ZSplit.pure rfl; apply ZSplit.pure rfl; apply ZSplit.pure rfl; apply ZSplit.pure rfl; apply ZSplit.pure rfl; apply ZSplit.pure rfl; apply ZSplit.pure rfl; apply ZSplit.pure rfl; apply ZSplit.pure rfl; apply ZSplit.pure rfl; apply ZSplit.pure rfl; apply ZSplit.pure rfl; apply ZSplit.pure rfl; apply ZSplit.pure rfl; apply ZSplit.tail; apply ZSplit.tail; apply ZSplit.tail; apply ZSplit.tail; apply ZSplit.tail; exact ZSplit.nil; kernel_rfl; decide +kernel; exact fun w hw => hw.drew
      apply ZL.op rfl; exact Guard.none; rfl; rfl; apply Pev.move; rfl; exact yes
      apply ZL.op rfl; exact Guard.none; rfl; rfl; apply Pev.move; rfl; exact yes
      apply ZL.op rfl; exact Guard.none; rfl; rfl; apply Pev.nil_ptr; rfl; exact yes
      apply ZL.op rfl; exact Guard.none; rfl; rfl; apply Pev.fld; rfl; exact yes; rfl
      apply ZL.ld rfl; exact Guard.none; rfl; rfl; apply Pev.load_blk; rfl; exact yes; exact .head _; rfl; rfl
      apply ZL.op rfl; exact Guard.none; rfl; rfl; apply Pev.fld; rfl; exact yes; rfl
      apply ZL.ld rfl; exact Guard.none; rfl; rfl; apply Pev.load_blk; rfl; exact yes; apply List.Mem.tail; exact .tail _ (.tail _ (.head _)); rfl; rfl
      apply ZL.op rfl; exact Guard.none; rfl; rfl; apply Pev.move; rfl; exact yes
      apply ZL.op rfl; exact Guard.none; rfl; rfl; apply Pev.move; rfl; exact yes
      apply ZL.op rfl; exact Guard.none; rfl; rfl; apply Pev.bin; rfl; exact yes; rfl; exact yes; intro hcond; apply Bin.sub_in; omega
      apply ZL.op rfl; exact Guard.none; rfl; rfl; apply Pev.idxI; rfl; exact yes; rfl; exact yes; rfl; intro hcond; omega
      apply ZL.op rfl; exact Guard.none; rfl; rfl; apply Pev.fldA; rfl; exact yes; rfl
      apply ZL.ld rfl; exact Guard.none; rfl; rfl; apply Pev.load_kept; rfl; exact yes; exact .head _; rfl; intro hcond; refine CellsAt.at_ (hcellI ?_) rfl; omega; intro hcond; (simp only [add_block]; assumption); intro hcond; simp only [add_block]; refine NotOwned.blk (by omega) ?_; refine NotOwned.row (by omega) ?_; refine NotOwned.row (by omega) ?_; refine NotOwned.blk (by omega) ?_; exact NotOwned.nil
      apply ZL.op rfl; exact Guard.none; rfl; rfl; apply Pev.build; rfl; exact CellsL.agg; rfl; apply Fill.cons rfl; exact CellsL.one rfl; rfl; rfl; apply Put.here; apply Over.cons; apply Over.nil; apply Fill.cons rfl; exact CellsL.one rfl; rfl; rfl; apply Put.skip; apply Put.here; apply Over.cons; apply Over.nil; apply Fill.nil; rfl
      apply ZL.nil
      apply TL.one rfl
      apply OL.buildSlice; rfl; rfl; rfl; apply Elems.cons rfl; exact CellsL.agg; rfl; apply Elems.nil; apply App.cons; apply App.cons; apply App.nil; rfl; rfl; (intro bk hbk; simp only [AllLe, and_true] at hbk)
      apply OL.nil
      refine At.tk (fun w hw => hw.thin ?_) ?_; refine Thin.blk (by simp only [AllLe, and_true]; omega) ?_; exact Thin.same
      apply TL.one rfl
      apply OL.append; rfl; rfl; rfl; rfl; apply Hole.s; apply Hole.s; apply Hole.z; exact .head _; apply Take.succ; apply Take.succ; apply Take.zero; rfl; rfl; exact ⟨_, .head _, Nat.le_refl _⟩; omega; intro O1 g1 cap1
      apply OL.nil
      with_reducible apply At.tn; decide +kernel
      apply TL.one rfl
      apply OL.op; exact Guard.none; rfl; rfl; apply Pev.nil_ptr; rfl; exact yes
      apply OL.nil
      with_reducible apply At.tn; decide +kernel
      apply TL.one rfl
      apply ofa; rfl; rfl; rfl
      apply OL.nil
      with_reducible apply At.tn; decide +kernel
      apply TL.one rfl
      apply OL.storeB; rfl; rfl; exact CellsL.one rfl; rfl; rfl; rfl; apply Swap.s; apply Swap.z; apply Put.here; apply Over.cons; apply Over.nil
      apply OL.nil
      with_reducible apply At.tn; decide +kernel
      apply TL.nil
      with_reducible apply At.np
      with_reducible apply At.next
      apply W.reg
      apply oas; rfl; rfl
      apply OL.nil
      with_reducible apply At.in_normal
      refine At.joinedx ⟨some ⟨g1, 0, none⟩, cap1, O1, y2.q2, y2.c2, y2.O2⟩ trivial (by (repeat (first | exact Sub.nil | apply Sub.cons rfl | (refine Sub.cons_eq rfl (congrArg (Value.int .i64) (by omega)) ?_)))) (fun w' hw' => ?_)
      have e : cat cc (⟨t.col, p.text⟩ :: s).reverse = cat cc s.reverse ++ [.int .i64 t.col, .string p.text] := by rw [List.reverse_cons, cat_append, cat_one]; rfl
      simp only [MI, List.length_cons, e]
      exact hw'.thin (by (repeat (first | exact Thin.nil | exact Thin.same | apply Thin.keep | (refine Thin.blk (by assumption) ?_) | (refine Thin.blk (by simp only [AllLe, and_true]; omega) ?_))))
    · have e3 : ¬ (t.kind ≠ 9 ∧ enc s < t.col) := by
        simp at h3
        rintro ⟨h4, h5⟩
        have := h3 h4
        omega
      have hO : openS (prv l i) t (s, out) = (s, out ++ [tk 6 t] ++ [tk 7 t]) := by unfold openS; rw [if_neg e1', if_neg e2, if_neg e3]
      have hF : firstB (prv l i) t s = newln (prv l i) t := by unfold firstB; rw [if_neg e1', if_neg e2, if_neg e3]
      rw [hO, hF]
      apply W.seq
      apply W.reg
      apply omv; rfl; rfl
      apply OL.op; exact Guard.none; rfl; rfl; apply Pev.load_blkA; rfl; exact yes; apply List.Mem.tail; exact .tail _ (.tail _ (.head _)); rfl; apply Take.succ; apply Take.succ; apply Take.succ; apply Take.succ; apply Take.succ; apply Take.zero
      refine OL.callE (α := MY) (fun _ => .tuple #[]) (fun _ => True) (fun y2 => Cls (MI w.heap.size mb s (out ++ [tk 6 t]) y2 [blk bt 51 (tc t)]) [w]) rfl rfl (by (repeat (first | exact Args.nil | (apply Args.cons rfl; ((first | exact fun _ => rfl | exact fun h => h | (intro h; simp_all; done))))))) (fun w2 hw2 => put_calls w.heap.size mb s out y 6 t _ [w] w2 (by omega) ⟨w, .head _, Nat.le_refl _⟩ hw2) ?_
      intro y2 _
      apply OL.nil
      with_reducible apply At.next
      apply W.reg
      apply omv; rfl; rfl
      apply OL.op; exact Guard.none; rfl; rfl; apply Pev.load_blkA; rfl; exact yes; apply List.Mem.tail; exact .tail _ (.tail _ (.head _)); rfl; apply Take.succ; apply Take.succ; apply Take.succ; apply Take.succ; apply Take.succ; apply Take.zero
      refine OL.callE (α := MY) (fun _ => .tuple #[]) (fun _ => True) (fun y3 => Cls (MI w.heap.size mb s (out ++ [tk 6 t] ++ [tk 7 t]) y3 [blk bt 51 (tc t)]) [w]) rfl rfl (by (repeat (first | exact Args.nil | (apply Args.cons rfl; ((first | exact fun _ => rfl | exact fun h => h | (intro h; simp_all; done))))))) (fun w2 hw2 => put_calls w.heap.size mb s _ y2 7 t _ [w] w2 (by simp only [List.length_append, List.length_cons, List.length_nil]; omega) ⟨w, .head _, Nat.le_refl _⟩ hw2) ?_
      intro y3 _
      apply OL.nil
      with_reducible apply At.in_normal
      exact At.joinedx y3 trivial (by (repeat (first | exact Sub.nil | apply Sub.cons rfl | (refine Sub.cons_eq rfl (congrArg (Value.int .i64) (by omega)) ?_)))) (fun w' hw' => hw')
  intro y1 _
  have hz1 := openS_sz (prev := prv l i) (t := t) (x := (s, out))
  have hp1 := openS_pos (prev := prv l i) g2 hpos
  unfold szS at hz1
  simp only at hz1
  revert hrest hz1 hp1
  generalize hx1 : openS (prv l i) t (s, out) = x1
  obtain ⟨s1, out1⟩ := x1
  intro hrest hz1 hp1
  simp only at hz1 hp1 hrest
  apply W.seq
  apply W.seq
  apply W.reg
  apply ofa; rfl; rfl; rfl
  apply old; rfl; rfl; apply List.Mem.tail; exact .tail _ (.tail _ (.head _)); rfl; rfl
  apply obn; rfl; rfl; rfl; apply Bin.eql
  apply OL.nil
  with_reducible apply At.next
  (refine W.cond rfl (fun h9 => ?_) (fun h9 => ?_)) <;> (try (simp only [Bool.and_eq_true, Bool.or_eq_true, Bool.not_eq_true', Bool.and_eq_false_iff, Bool.or_eq_false_iff, Bool.not_eq_false', decide_eq_true_eq, decide_eq_false_iff_not, Int.not_lt, Int.not_le] at h9)) <;> (try (exfalso; first | omega | exact h9 trivial | contradiction))
  · rw [if_pos h9] at hrest
    have hlast := g3.1 h9
    obtain rfl : z = t := by
      rw [show l.length - 1 = i by omega, ht] at hz
      exact (Option.some.inj hz).symm
    rw [show l.length - 1 = ((l.length : Int) - 1).toNat by omega] at hcz
    clear hcellI hct
    apply W.exit
    with_reducible apply At.then_exit
    apply At.in_other; rfl
    with_reducible apply At.then_exit
    with_reducible apply At.then_exit
    with_reducible apply At.in_exit
    with_reducible apply At.next
    apply W.seq
    apply W.block
    refine W.loop (G := MG) (fun g => g.x.2 ++ List.replicate (g.x.1.filter posX).length (tk 7 z) ++ [z] = lay none l ([], []) ∧ szS g.x ≤ 60000) (fun g => g.x.1.length)
      (fun g => [(0, true, .slice (some a) l.length cap), (5, true, .pointer (some ⟨mb, 0, none⟩))])
      (fun g => Cls (MI w.heap.size mb g.x.1 g.x.2 g.y [blk bt 51 (tc z)]) [w]) ⟨0, (s1, out1), y1⟩ ⟨hrest, by unfold szS; simp only; omega⟩ (by (repeat (first | exact Sub.nil | apply Sub.cons rfl | (refine Sub.cons_eq rfl (congrArg (Value.int .i64) (by omega)) ?_)))) (fun w' hw' => hw') ?_
    rintro ⟨i2, ⟨s2, out2⟩, y2⟩ ⟨hrest2, hsz2⟩
    unfold szS at hsz2
    simp only at hrest2 hsz2 ⊢
    cases s2 with
    | nil =>
      simp only [List.filter_nil, List.length_nil, List.replicate_zero, List.append_nil] at hrest2
      simp only [MI]
      apply W.seq
      apply W.seq
      apply W.reg
      apply omv; rfl; rfl
      apply OL.op; exact Guard.none; rfl; rfl; apply Pev.nil_ptr; rfl; exact yes
      apply ofa; rfl; rfl; rfl
      apply old; rfl; rfl; exact .head _; rfl; rfl
      apply OL.op; exact Guard.none; rfl; rfl; apply Pev.len_slice; rfl; exact yes; rfl
      apply obn; rfl; rfl; rfl; apply Bin.gtr
      apply OL.nil
      with_reducible apply At.next
      (refine W.cond rfl (fun hn => ?_) (fun hn => ?_)) <;> (try (simp only [Bool.and_eq_true, Bool.or_eq_true, Bool.not_eq_true', Bool.and_eq_false_iff, Bool.or_eq_false_iff, Bool.not_eq_false', decide_eq_true_eq, decide_eq_false_iff_not, Int.not_lt, Int.not_le] at hn)) <;> (try (exfalso; first | omega | exact hn trivial | contradiction))
      apply W.exit
      with_reducible apply At.then_exit
      with_reducible apply At.then_exit
      with_reducible apply At.in_exit
      with_reducible apply At.next
      apply W.seq
      apply W.regz; apply ZSplit.pure rfl; apply ZSplit.pure rfl; apply ZSplit.pure rfl; apply ZSplit.pure rfl; apply ZSplit.pure rfl; apply ZSplit.pure rfl; apply ZSplit.pure rfl; apply ZSplit.pure rfl; apply ZSplit.pure rfl; apply ZSplit.pure rfl; apply ZSplit.pure rfl; apply ZSplit.tail; apply ZSplit.tail; apply ZSplit.tail; apply ZSplit.tail; apply ZSplit.tail; exact ZSplit.nil; kernel_rfl; decide +kernel; exact fun w hw => hw.drew
      apply ZL.op rfl; exact Guard.none; rfl; rfl; apply Pev.move; rfl; exact yes
      apply ZL.op rfl; exact Guard.none; rfl; rfl; apply Pev.move; rfl; exact yes
      apply ZL.op rfl; exact Guard.none; rfl; rfl; apply Pev.nil_ptr; rfl; exact yes
      apply ZL.op rfl; exact Guard.none; rfl; rfl; apply Pev.fld; rfl; exact yes; rfl
      apply ZL.ld rfl; exact Guard.none; rfl; rfl; apply Pev.load_blk; rfl; exact yes; exact .head _; rfl; rfl
      apply ZL.op rfl; exact Guard.none; rfl; rfl; apply Pev.move; rfl; exact yes
      apply ZL.op rfl; exact Guard.none; rfl; rfl; apply Pev.move; rfl; exact yes
      apply ZL.op rfl; exact Guard.none; rfl; rfl; apply Pev.len_slice; rfl; exact yes; rfl
      apply ZL.op rfl; exact Guard.none; rfl; rfl; apply Pev.bin; rfl; exact yes; rfl; exact yes; intro hcond; apply Bin.sub_in; omega
      apply ZL.op rfl; exact Guard.none; rfl; rfl; apply Pev.idxI; rfl; exact yes; rfl; exact yes; rfl; intro hcond; omega
      apply ZL.ld rfl; exact Guard.none; rfl; rfl; apply Pev.load_keptA; rfl; exact yes; exact .head _; rfl; intro hcond; assumption; rfl; intro hcond; (rw [add_block]; assumption); intro hcond; simp only [add_block]; refine NotOwned.blk (by omega) ?_; refine NotOwned.row (by omega) ?_; refine NotOwned.row (by omega) ?_; refine NotOwned.blk (by omega) ?_; exact NotOwned.nil
      apply ZL.nil
      apply TL.one rfl
      apply OL.buildSlice; rfl; rfl; rfl; apply Elems.cons rfl; exact CellsL.agg; rfl; apply Elems.nil; apply App.cons; apply App.cons; apply App.cons; apply App.cons; apply App.cons; apply App.nil; rfl; rfl; (intro bk hbk; simp only [AllLe, and_true] at hbk)
      apply OL.nil
      refine At.tk (fun w hw => hw.thin ?_) ?_; refine Thin.blk (by simp only [AllLe, and_true]; omega) ?_; exact Thin.same
      apply TL.one rfl
      apply OL.append; rfl; rfl; rfl; rfl; apply Hole.s; apply Hole.s; apply Hole.s; apply Hole.z; exact .head _; apply Take.succ; apply Take.succ; apply Take.succ; apply Take.succ; apply Take.succ; apply Take.zero; rfl; rfl; exact ⟨_, .head _, Nat.le_refl _⟩; omega; intro O1 g1 cap1
      apply OL.nil
      with_reducible apply At.tn; decide +kernel
      apply TL.one rfl
      apply OL.op; exact Guard.none; rfl; rfl; apply Pev.nil_ptr; rfl; exact yes
      apply OL.nil
      with_reducible apply At.tn; decide +kernel
      apply TL.one rfl
      apply ofa; rfl; rfl; rfl
      apply OL.nil
      with_reducible apply At.tn; decide +kernel
      apply TL.one rfl
      apply OL.storeB; rfl; rfl; exact CellsL.one rfl; rfl; rfl; rfl; apply Swap.s; apply Swap.z; apply Put.skip; apply Put.here; apply Over.cons; apply Over.nil
      apply OL.nil
      with_reducible apply At.tn; decide +kernel
      apply TL.nil
      with_reducible apply At.np
      with_reducible apply At.next
      apply W.seq
      apply W.reg
      apply omv; rfl; rfl
      apply OL.op; exact Guard.none; rfl; rfl; apply Pev.nil_ptr; rfl; exact yes
      apply ofa; rfl; rfl; rfl
      apply old; rfl; rfl; exact .tail _ (.head _); rfl; rfl
      apply oas; rfl; rfl
      apply oas; rfl; rfl
      apply OL.nil
      with_reducible apply At.next
      apply W.ret
      rw [← hrest2]
      simp only [List.length_nil, Nat.zero_add] at hsz2
      refine At.fin2 rfl rfl rfl (fun w' hw' => ⟨(some ⟨g1, 0, none⟩, cap1), ?_, ?_, ?_⟩)
      · simp only [List.length_append, List.length_cons, List.length_nil, Nat.zero_add]
      · have hrow := SlAt.of_row (hw'.item (i := row w.heap.size O1 (some ⟨g1, 0, none⟩) (out2.length + 1) cap1 51 5 (cat tc out2 ++ tc z)) (by (repeat (first | exact List.Mem.head _ | apply List.Mem.tail))))
        rw [cat_append, cat_one]
        exact hrow
      · (exact hw'.toExt (by (repeat (first | exact List.Mem.head _ | apply List.Mem.tail))) (fun k hk => by (focus ((try simp only [add_block]); (repeat (first | exact NotOwned.nil | exact hno _ (by omega) | refine NotOwned.nothing ?_ | refine NotOwned.nds (hlow _ (by omega)) ?_ | refine NotOwned.mapS (by omega) ?_ | apply NotOwned.bif | refine NotOwned.blk (by omega) ?_ | refine NotOwned.row (by omega) ?_ | refine NotOwned.grid (by assumption) (by omega) ?_)); done))))
    | cons c r =>
      simp only [List.length_cons] at hsz2
      apply W.seq
      apply W.seq
      apply W.reg
      apply omv; rfl; rfl
      apply OL.op; exact Guard.none; rfl; rfl; apply Pev.nil_ptr; rfl; exact yes
      apply ofa; rfl; rfl; rfl
      apply old; rfl; rfl; exact .head _; rfl; rfl
      apply OL.op; exact Guard.none; rfl; rfl; apply Pev.len_slice; rfl; exact yes; rfl
      apply obn; rfl; rfl; rfl; apply Bin.gtr
      apply OL.nil
      with_reducible apply At.next
      (refine W.cond rfl (fun hn => ?_) (fun hn => ?_)) <;> (try (simp only [Bool.and_eq_true, Bool.or_eq_true, Bool.not_eq_true', Bool.and_eq_false_iff, Bool.or_eq_false_iff, Bool.not_eq_false', decide_eq_true_eq, decide_eq_false_iff_not, Int.not_lt, Int.not_le] at hn)) <;> (try (exfalso; first | omega | exact hn trivial | contradiction))
      apply W.skip
      with_reducible apply At.next
      apply W.block
      apply W.seq
      apply W.seq
      apply W.reg
      apply omv; rfl; rfl
      refine OL.callE (α := Unit) (fun _ => .agg (cc c).toArray) (fun _ => True) (fun _ => Cls (MI w.heap.size mb (c :: r) out2 y2 [blk bt 51 (tc z)]) [w]) rfl rfl (by (repeat (first | exact Args.nil | (apply Args.cons rfl; ((first | exact fun _ => rfl | exact fun h => h | (intro h; simp_all; done))))))) (fun w2 hw2 => (top_calls w.heap.size mb (c :: r) out2 y2 _ [w] w2 (by simp only [List.length_cons]; omega) hw2).mono fun _ w' h => ⟨(), h.1, trivial, h.2⟩) ?_
      intro _ _
      apply OL.op; exact Guard.none; rfl; rfl; apply Pev.field; rfl; exact yes; rfl; rfl
      apply obn; rfl; rfl; rfl; apply Bin.gtr
      apply OL.nil
      with_reducible apply At.next
      (refine W.cond rfl (fun hc => ?_) (fun hc => ?_)) <;> (try (simp only [Bool.and_eq_true, Bool.or_eq_true, Bool.not_eq_true', Bool.and_eq_false_iff, Bool.or_eq_false_iff, Bool.not_eq_false', decide_eq_true_eq, decide_eq_false_iff_not, Int.not_lt, Int.not_le] at hc)) <;> (try (exfalso; first | omega | exact hc trivial | contradiction))
      · have hf : posX c = true := decide_eq_true hc
        apply W.reg
        apply omv; rfl; rfl
        apply omv; rfl; rfl
        apply omv; rfl; rfl
        apply OL.op; exact Guard.none; rfl; rfl; apply Pev.len_slice; rfl; exact yes; rfl
        apply obn; rfl; rfl; rfl; apply Bin.sub_in; omega
        apply OL.op; exact Guard.none; rfl; rfl; apply Pev.idxI; rfl; exact yes; rfl; exact yes; rfl; intro hcond; omega
        apply OL.op; exact Guard.none; rfl; rfl; apply Pev.load_keptA; rfl; exact yes; exact .head _; rfl; intro hcond; assumption; rfl; intro hcond; (rw [add_block]; assumption); intro hcond; simp only [add_block]; refine NotOwned.blk (by omega) ?_; refine NotOwned.row (by omega) ?_; refine NotOwned.row (by omega) ?_; refine NotOwned.blk (by omega) ?_; exact NotOwned.nil
        refine OL.callE (α := MY) (fun _ => .tuple #[]) (fun _ => True) (fun y3 => Cls (MI w.heap.size mb (c :: r) (out2 ++ [tk 7 z]) y3 [blk bt 51 (tc z)]) [w]) rfl rfl (by (repeat (first | exact Args.nil | (apply Args.cons rfl; ((first | exact fun _ => rfl | exact fun h => h | (intro h; simp_all; done))))))) (fun w2 hw2 => put_calls w.heap.size mb (c :: r) out2 y2 7 z _ [w] w2 (by omega) ⟨w, .head _, Nat.le_refl _⟩ hw2) ?_
        intro y3 _
        apply OL.nil
        with_reducible apply At.next
        apply W.reg
        apply omv; rfl; rfl
        refine OL.callE (α := Unit) (fun _ => .tuple #[]) (fun _ => True) (fun _ => Cls (MI w.heap.size mb r (out2 ++ [tk 7 z]) y3 [blk bt 51 (tc z)]) [w]) rfl rfl (by (repeat (first | exact Args.nil | (apply Args.cons rfl; ((first | exact fun _ => rfl | exact fun h => h | (intro h; simp_all; done))))))) (fun w2 hw2 => (pop_calls w.heap.size mb c r _ y3 _ [w] w2 (by omega) hw2).mono fun _ w' h => ⟨(), h.1, trivial, h.2⟩) ?_
        intro _ _
        apply OL.nil
        with_reducible apply At.in_normal
        refine At.again ⟨0, (r, out2 ++ [tk 7 z]), y3⟩ ⟨?_, ?_⟩ (by simp) (by (repeat (first | exact Sub.nil | apply Sub.cons rfl | (refine Sub.cons_eq rfl (congrArg (Value.int .i64) (by omega)) ?_)))) (fun w' hw' => hw')
        · rw [← hrest2, List.filter_cons_of_pos hf]
          simp only [List.length_cons]
          rw [List.append_assoc out2, List.singleton_append, ← List.replicate_succ]
        · unfold szS; simp only [List.length_append, List.length_cons, List.length_nil]; omega
      · have hf : ¬ posX c = true := fun h => by have := of_decide_eq_true h; omega
        apply W.skip
        with_reducible apply At.next
        apply W.reg
        apply omv; rfl; rfl
        refine OL.callE (α := Unit) (fun _ => .tuple #[]) (fun _ => True) (fun _ => Cls (MI w.heap.size mb r out2 y2 [blk bt 51 (tc z)]) [w]) rfl rfl (by (repeat (first | exact Args.nil | (apply Args.cons rfl; ((first | exact fun _ => rfl | exact fun h => h | (intro h; simp_all; done))))))) (fun w2 hw2 => (pop_calls w.heap.size mb c r _ y2 _ [w] w2 (by omega) hw2).mono fun _ w' h => ⟨(), h.1, trivial, h.2⟩) ?_
        intro _ _
        apply OL.nil
        with_reducible apply At.in_normal
        refine At.again ⟨0, (r, out2), y2⟩ ⟨?_, ?_⟩ (by simp) (by (repeat (first | exact Sub.nil | apply Sub.cons rfl | (refine Sub.cons_eq rfl (congrArg (Value.int .i64) (by omega)) ?_)))) (fun w' hw' => hw')
        · rw [← hrest2, List.filter_cons_of_neg hf]
        · unfold szS; simp only; omega
  · rw [if_neg h9] at hrest
    have hi1 : i + 1 < l.length := by
      have : ¬ i + 1 = l.length := fun e => h9 (g3.2 e)
      omega
    apply W.skip
    with_reducible apply At.next
    apply W.seq
    apply W.seq
    apply W.reg
    apply omv; rfl; rfl
    apply OL.nil
    with_reducible apply At.next
    have hS1 := stepS_sz (prev := prv l i) (t := t) (x := (s, out))
    have hS2 := stepS_pos (prev := prv l i) g2 hpos
    unfold stepS at hrest hS1 hS2
    simp only [hx1] at hrest hS1 hS2
    refine W.joinx (G := MY) (fun _ => True)
      (fun g => [(0, true, .slice (some a) l.length cap), (5, true, .pointer (some ⟨mb, 0, none⟩)), (6, true, .int .i64 (i : Int)), (7, true, .pointer (some ⟨bt, 0, none⟩)), (17, true, .slice (some a) l.length cap), (18, true, .int .i64 (l.length : Int)), (19, true, .int .i64 (i : Int))])
      (fun g => Cls (MI w.heap.size mb (if firstB (prv l i) t s = true then lineS t (s1, out1) else (s1, out1)).1 (if firstB (prv l i) t s = true then lineS t (s1, out1) else (s1, out1)).2 g [blk bt 51 (tc t)]) [w]) ?_ ?_
    · refine W.cond rfl (fun h1 => ?_) (fun h1 => ?_)
      · rw [h1]
        simp only [if_true]
        apply W.reg
        apply omv; rfl; rfl
        apply OL.op; exact Guard.none; rfl; rfl; apply Pev.load_blkA; rfl; exact yes; apply List.Mem.tail; exact .tail _ (.tail _ (.head _)); rfl; apply Take.succ; apply Take.succ; apply Take.succ; apply Take.succ; apply Take.succ; apply Take.zero
        refine OL.callE (α := MY) (fun _ => .tuple #[]) (fun _ => True) (fun y3 => Cls (MI w.heap.size mb (lineS t (s1, out1)).1 (lineS t (s1, out1)).2 y3 [blk bt 51 (tc t)]) [w]) rfl rfl (by (repeat (first | exact Args.nil | (apply Args.cons rfl; ((first | exact fun _ => rfl | exact fun h => h | (intro h; simp_all; done))))))) (fun w2 hw2 => line_calls w.heap.size mb s1 out1 y1 t _ [w] w2 g2 (by omega) ⟨w, .head _, Nat.le_refl _⟩ hw2) ?_
        intro y3 _
        apply OL.nil
        exact At.joinedx y3 trivial (by (repeat (first | exact Sub.nil | apply Sub.cons rfl | (refine Sub.cons_eq rfl (congrArg (Value.int .i64) (by omega)) ?_)))) (fun w' hw' => hw')
      · rw [h1]
        simp only [Bool.false_eq_true, if_false]
        apply W.skip
        exact At.joinedx y1 trivial (by (repeat (first | exact Sub.nil | apply Sub.cons rfl | (refine Sub.cons_eq rfl (congrArg (Value.int .i64) (by omega)) ?_)))) (fun w' hw' => hw')
    intro y2 _
    have hz2 : szS (if firstB (prv l i) t s = true then lineS t (s1, out1) else (s1, out1)) ≤ 60000 := by
      have := lineS_sz (t := t) (x := (s1, out1))
      unfold szS at this ⊢
      simp only at this
      split
      · omega
      · simp only; omega
    have hp2 : posS (if firstB (prv l i) t s = true then lineS t (s1, out1) else (s1, out1)) := by
      split
      · exact lineS_pos hp1
      · exact hp1
    revert hrest hS1 hS2 hz2 hp2
    generalize (if firstB (prv l i) t s = true then lineS t (s1, out1) else (s1, out1)) = x2
    obtain ⟨s2, out2⟩ := x2
    intro hrest hS1 hS2 hz2 hp2
    have hz3 := endsS_sz (t := t) (x := (s2, out2))
    apply W.seq
    apply W.reg
    apply omv; rfl; rfl
    apply OL.op; exact Guard.none; rfl; rfl; apply Pev.load_blkA; rfl; exact yes; apply List.Mem.tail; exact .tail _ (.tail _ (.head _)); rfl; apply Take.succ; apply Take.succ; apply Take.succ; apply Take.succ; apply Take.succ; apply Take.zero
    refine OL.callE (α := MY) (fun _ => .tuple #[]) (fun _ => True) (fun y3 => Cls (MI w.heap.size mb (endsS t (s2, out2)).1 (endsS t (s2, out2)).2 y3 [blk bt 51 (tc t)]) [w]) rfl rfl (by (repeat (first | exact Args.nil | (apply Args.cons rfl; ((first | exact fun _ => rfl | exact fun h => h | (intro h; simp_all; done))))))) (fun w2 hw2 => before_calls w.heap.size mb s2 out2 y2 t _ [w] w2 hp2 (by unfold szS at hz2; simp only at hz2; omega) ⟨w, .head _, Nat.le_refl _⟩ hw2) ?_
    intro y3 _
    revert hrest hS1 hS2 hz3
    generalize endsS t (s2, out2) = x3
    obtain ⟨s3, out3⟩ := x3
    intro hrest hS1 hS2 hz3
    unfold szS at hz2 hz3
    simp only at hz2 hz3
    simp only [MI]
    apply OL.nil
    with_reducible apply At.next
    apply W.seq
    apply W.regz; apply ZSplit.pure rfl; apply ZSplit.pure rfl; apply ZSplit.pure rfl; apply ZSplit.pure rfl; apply ZSplit.pure rfl; apply ZSplit.pure rfl; apply ZSplit.tail; apply ZSplit.tail; apply ZSplit.tail; apply ZSplit.tail; apply ZSplit.tail; exact ZSplit.nil; kernel_rfl; decide +kernel; exact fun w hw => hw.drew
    apply ZL.op rfl; exact Guard.none; rfl; rfl; apply Pev.move; rfl; exact yes
    apply ZL.op rfl; exact Guard.none; rfl; rfl; apply Pev.move; rfl; exact yes
    apply ZL.op rfl; exact Guard.none; rfl; rfl; apply Pev.nil_ptr; rfl; exact yes
    apply ZL.op rfl; exact Guard.none; rfl; rfl; apply Pev.fld; rfl; exact yes; rfl
    apply ZL.ld rfl; exact Guard.none; rfl; rfl; apply Pev.load_blk; rfl; exact yes; exact .head _; rfl; rfl
    apply ZL.ld rfl; exact Guard.none; rfl; rfl; apply Pev.load_blkA; rfl; exact yes; apply List.Mem.tail; exact .tail _ (.tail _ (.head _)); rfl; apply Take.succ; apply Take.succ; apply Take.succ; apply Take.succ; apply Take.succ; apply Take.zero
    apply ZL.nil
    apply TL.one rfl
    apply OL.buildSlice; rfl; rfl; rfl; apply Elems.cons rfl; exact CellsL.agg; rfl; apply Elems.nil; apply App.cons; apply App.cons; apply App.cons; apply App.cons; apply App.cons; apply App.nil; rfl; rfl; (intro bk hbk; simp only [AllLe, and_true] at hbk)
    apply OL.nil
    refine At.tk (fun w hw => hw.thin ?_) ?_; refine Thin.blk (by simp only [AllLe, and_true]; omega) ?_; exact Thin.same
    apply TL.one rfl
    apply OL.append; rfl; rfl; rfl; rfl; apply Hole.s; apply Hole.s; apply Hole.s; apply Hole.z; exact .head _; apply Take.succ; apply Take.succ; apply Take.succ; apply Take.succ; apply Take.succ; apply Take.zero; rfl; rfl; exact ⟨_, .head _, Nat.le_refl _⟩; omega; intro O1 g1 cap1
    apply OL.nil
    with_reducible apply At.tn; decide +kernel
    apply TL.one rfl
    apply OL.op; exact Guard.none; rfl; rfl; apply Pev.nil_ptr; rfl; exact yes
    apply OL.nil
    with_reducible apply At.tn; decide +kernel
    apply TL.one rfl
    apply ofa; rfl; rfl; rfl
    apply OL.nil
    with_reducible apply At.tn; decide +kernel
    apply TL.one rfl
    apply OL.storeB; rfl; rfl; exact CellsL.one rfl; rfl; rfl; rfl; apply Swap.s; apply Swap.z; apply Put.skip; apply Put.here; apply Over.cons; apply Over.nil
    apply OL.nil
    with_reducible apply At.tn; decide +kernel
    apply TL.nil
    with_reducible apply At.np
    with_reducible apply At.next
    apply W.seq
    apply W.reg
    apply OL.op; exact Guard.none; rfl; rfl; apply Pev.load_blkA; rfl; exact yes; apply List.Mem.tail; apply List.Mem.tail; exact .tail _ (.tail _ (.head _)); rfl; apply Take.succ; apply Take.succ; apply Take.succ; apply Take.succ; apply Take.succ; apply Take.zero
    revert O1 g1 cap1
    intro O0 g0 c0
    (((first | (with_reducible apply OL.op) | (with_reducible apply QL.op)); ((first | exact Guard.none | exact Guard.yes rfl rfl | exact Guard.no rfl rfl | exact Guard.cyes rfl rfl | exact Guard.cno rfl rfl)); rfl; rfl); (exact Pev.call rfl (by (repeat (first | exact Args.nil | (apply Args.cons rfl; ((first | exact fun _ => rfl | exact fun h => h | (intro h; simp_all; done))))))) (fun _ w2 hw2 => (is_calls t _ _ w2).mono (fun e w3 h => ⟨h.1, hw2.ext h.2⟩))))
    apply omv; rfl; rfl
    apply OL.op; exact Guard.no rfl rfl; rfl; rfl; apply Pev.load_blkA; rfl; exact yes; apply List.Mem.tail; apply List.Mem.tail; exact .tail _ (.tail _ (.head _)); rfl; apply Take.succ; apply Take.succ; apply Take.succ; apply Take.succ; apply Take.succ; apply Take.zero
    (((first | (with_reducible apply OL.op) | (with_reducible apply QL.op)); ((first | exact Guard.none | exact Guard.yes rfl rfl | exact Guard.no rfl rfl | exact Guard.cyes rfl rfl | exact Guard.cno rfl rfl)); rfl; rfl); (exact Pev.call rfl (by (repeat (first | exact Args.nil | (apply Args.cons rfl; ((first | exact fun _ => rfl | exact fun h => h | (intro h; simp_all; done))))))) (fun _ w2 hw2 => (is_calls t _ _ w2).mono (fun e w3 h => ⟨h.1, hw2.ext h.2⟩))))
    apply OL.op; exact Guard.none; rfl; rfl; apply Pev.pick_or; rfl; exact yes; rfl; exact fun h => h
    apply OL.nil
    with_reducible apply At.next
    have e5 : cat tc (out3 ++ [t]) = cat tc out3 ++ tc t := by rw [cat_append, cat_one]
    refine W.cond rfl (fun h1 => ?_) (fun h1 => ?_)
    · have hb : brk t (s3, out3 ++ [t]) = (⟨0, ⟨#[]⟩⟩ :: s3, out3 ++ [t]) := by unfold brk; rw [if_pos h1]
      rw [hb] at hrest hS1 hS2
      apply W.reg
      apply omv; rfl; rfl
      apply omv; rfl; rfl
      apply OL.op; exact Guard.none; rfl; rfl; apply Pev.nil_ptr; rfl; exact yes
      apply ofa; rfl; rfl; rfl
      apply old; rfl; rfl; exact .tail _ (.head _); rfl; rfl
      apply OL.op; exact Guard.none; rfl; rfl; apply Pev.build; rfl; exact CellsL.agg; rfl; apply Fill.nil; rfl
      apply OL.buildSlice; rfl; rfl; rfl; apply Elems.cons rfl; exact CellsL.agg; rfl; apply Elems.nil; apply App.cons; apply App.cons; apply App.nil; rfl; rfl; (intro bk hbk; simp only [AllLe, and_true] at hbk)
      apply OL.append; rfl; rfl; rfl; rfl; apply Hole.s; apply Hole.s; apply Hole.s; apply Hole.z; exact .head _; apply Take.succ; apply Take.succ; apply Take.zero; rfl; rfl; exact ⟨_, .head _, Nat.le_refl _⟩; omega; intro O1 g1 cap1
      apply OL.op; exact Guard.none; rfl; rfl; apply Pev.nil_ptr; rfl; exact yes
      apply ofa; rfl; rfl; rfl
      apply OL.storeB; rfl; rfl; exact CellsL.one rfl; rfl; rfl; rfl; apply Swap.s; apply Swap.s; apply Swap.z; apply Put.here; apply Over.cons; apply Over.nil
      apply OL.nil
      with_reducible apply At.in_normal
      with_reducible apply At.next
      apply W.reg
      apply obn; rfl; rfl; rfl; apply Bin.add_in; omega
      apply omv; rfl; rfl
      apply OL.nil
      refine At.again ⟨i + 1, (⟨0, ⟨#[]⟩⟩ :: s3, out3 ++ [t]), ⟨some ⟨g1, 0, none⟩, cap1, O1, some ⟨g0, 0, none⟩, c0, O0⟩⟩ ⟨hi1, by rw [prv_succ ht]; exact hrest, hS2, ?_⟩ (by simp only; omega) (by (repeat (first | exact Sub.nil | apply Sub.cons rfl | (refine Sub.cons_eq rfl (congrArg (Value.int .i64) (by omega)) ?_)))) (fun w' hw' => ?_)
      · unfold szS at hS1 ⊢; simp only at hS1 ⊢; omega
      · have e6 : cat cc (⟨0, ⟨#[]⟩⟩ :: s3).reverse = cat cc s3.reverse ++ [.int .i64 0, .string ⟨#[]⟩] := by rw [List.reverse_cons, cat_append, cat_one]; rfl
        simp only [MI, List.length_append, List.length_cons, List.length_nil, Nat.zero_add, e5, e6]
        exact hw'.thin (by (repeat (first | exact Thin.nil | exact Thin.same | apply Thin.keep | (refine Thin.blk (by assumption) ?_) | (refine Thin.blk (by simp only [AllLe, and_true]; omega) ?_))))
    · have hb : brk t (s3, out3 ++ [t]) = (s3, out3 ++ [t]) := by unfold brk; rw [if_neg (by rw [h1]; simp)]
      rw [hb] at hrest hS1 hS2
      apply W.skip
      with_reducible apply At.in_normal
      with_reducible apply At.next
      apply W.reg
      apply obn; rfl; rfl; rfl; apply Bin.add_in; omega
      apply omv; rfl; rfl
      apply OL.nil
      refine At.again ⟨i + 1, (s3, out3 ++ [t]), ⟨y3.q, y3.c, y3.O, some ⟨g0, 0, none⟩, c0, O0⟩⟩ ⟨hi1, by rw [prv_succ ht]; exact hrest, hS2, ?_⟩ (by simp only; omega) (by (repeat (first | exact Sub.nil | apply Sub.cons rfl | (refine Sub.cons_eq rfl (congrArg (Value.int .i64) (by omega)) ?_)))) (fun w' hw' => ?_)
      · unfold szS at hS1 ⊢; simp only at hS1 ⊢; omega
      · simp only [MI, List.length_append, List.length_cons, List.length_nil, Nat.zero_add, e5]
        exact hw'.thin (by (repeat (first | exact Thin.nil | exact Thin.same | apply Thin.keep | (refine Thin.blk (by assumption) ?_) | (refine Thin.blk (by simp only [AllLe, and_true]; omega) ?_))))
end Go.Proofs.Ytlcclcakdfmgkaa.ly
