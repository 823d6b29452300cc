/- The walk of the reference's Layout: at a list without faults it is the layout. Conditions: none. -/
import Derived.Test.YtlcclcakdfmgkaaLyI
namespace Go.Proofs.Ytlcclcakdfmgkaa.ly
open Go.RowKit Go.Eng Go.Ly
set_option linter.unusedVariables false
set_option linter.unusedSimpArgs false
set_option maxRecDepth 100000

theorem newln_ne {l : List Tok} {i : Nat} {t p : Tok} (hp : 0 < i → l[i - 1]? = some p) (hb : before (prv l i) t = false) : (decide ((i : Int) = 0) || !decide (p.line = t.line)) = newln (prv l i) t := by
  cases i with
  | zero => rfl
  | succ k =>
    rw [prv, if_neg (by omega), hp (by omega)] at hb ⊢
    rw [decide_eq_false (by omega), Bool.false_or]
    have hb2 : (decide (t.line < p.line) || (decide (t.line = p.line) && decide (t.col < p.col))) = false := hb
    rw [Bool.or_eq_false_iff, decide_eq_false_iff_not] at hb2
    show (!decide (p.line = t.line)) = decide (p.line < t.line)
    by_cases h : p.line = t.line
    · rw [decide_eq_true h, decide_eq_false (by omega)]; rfl
    · rw [decide_eq_false h, decide_eq_true (by omega)]; rfl
theorem first_eq {prev : Option Tok} {t : Tok} {s : List Cx} (h : opd prev = true) : ((newln prev t && !isT t 5 ⟨#[123]⟩) && !(!decide (t.kind = 9) && decide (enc s < t.col))) = firstB prev t s := by
  unfold firstB
  rw [if_neg (by rw [h]; simp)]
  by_cases h1 : isT t 5 ⟨#[123]⟩ = true
  · rw [if_pos h1, h1]; simp
  · rw [if_neg h1]
    rw [Bool.not_eq_true] at h1
    rw [h1]
    by_cases h2 : t.kind ≠ 9 ∧ enc s < t.col
    · rw [if_pos h2, decide_eq_false h2.1, decide_eq_true h2.2]; simp
    · rw [if_neg h2]
      by_cases h3 : t.kind = 9
      · simp [h3]
      · have h4 : ¬ enc s < t.col := fun h => h2 ⟨h3, h⟩
        simp [h3, h4]
theorem inn_get {s : List Cx} {i : Nat} (h : i < (inn s).length) : ∃ c, (inn s)[i]? = some c ∧ s[i]? = some c ∧ 0 < c.col := by
  obtain ⟨c, hc⟩ : ∃ c, (inn s)[i]? = some c := ⟨_, List.getElem?_eq_getElem h⟩
  refine ⟨c, hc, ?_, ?_⟩
  · obtain ⟨r, hr⟩ := List.takeWhile_prefix (l := s) posX
    unfold inn at hc h
    rw [← hr, List.getElem?_append_left h]
    exact hc
  · have hm : c ∈ s.takeWhile posX := List.mem_of_getElem? hc
    have := List.all_eq_true.1 (List.all_takeWhile : (s.takeWhile posX).all posX = true) c hm
    exact of_decide_eq_true this
theorem inn_end {s r : List Cx} {c : Cx} (h : s.drop (inn s).length = c :: r) : ¬ 0 < c.col := fun hp => by
  have := tw_yes (p := posX) (Nat.le_refl _) h (decide_eq_true hp)
  unfold inn at this
  omega
theorem lineN_stop {t : Tok} {s : List Cx} {i : Nat} {c : Cx} (hi : i ≤ lineN t s) (hc : s[i]? = some c) (h : c.col ≤ t.col) : i = lineN t s :=
  tw_no (p := fun c => decide (t.col < c.col)) hi (fun c' r hd => by
    rw [dropc hc] at hd
    rw [← (List.cons.inj hd).1]
    exact decide_eq_false (by omega))
theorem lineN_end {t : Tok} {s : List Cx} {i : Nat} (ht : 1 ≤ t.col) (hi : i ≤ lineN t s) (he : i = (inn s).length) : i = lineN t s :=
  tw_no (p := fun c => decide (t.col < c.col)) hi (fun c' r hd => by
    rw [he] at hd
    have := inn_end hd
    exact decide_eq_false (by omega))
theorem lineN_go {t : Tok} {s : List Cx} {i : Nat} {c : Cx} (hi : i ≤ lineN t s) (hc : s[i]? = some c) (h : t.col < c.col) : i + 1 ≤ lineN t s :=
  tw_yes (p := fun c => decide (t.col < c.col)) hi (dropc hc) (decide_eq_true h)

theorem ends_br (s : List Cx) (t : Tok) : (ends s t).2 = true → (ends s t).1 < s.length := by
  unfold ends
  split
  · exact fun h => of_decide_eq_true h
  · split
    · intro h; cases h
    · split
      · intro h; cases h
      · intro h; cases h
theorem Layout_calls (q : Option Addr) (cap : Nat) (l : List Tok) (w : World) (hok0 : chk l = 0) (h : SlAt w w.heap.size q (cat tc l)) :
    Calls Try.prog 21 #[.slice q l.length cap] w fun e w' => ∃ x : Option Addr × Nat, e = .returned (.slice x.1 (lay none l ([], [])).length x.2) ∧ SlAt w' w'.heap.size x.1 (cat tc (lay none l ([], []))) ∧ Ext w w' := by
  refine enter Try.func21 rfl Try.ntmps21 rfl (Cls.start w) ?_
  (simp only [argEnv, Nat.zero_add, Nat.reduceAdd])
  obtain ⟨hl1, hl2, hl9, _⟩ := chk_zero hok0
  obtain ⟨a, z, rfl, hab, hz, hcz⟩ := h.elem tlen (by decide) (show l.length - 1 < l.length by omega)
  clear hcz
  apply W.seq
  apply W.reg
  apply oas; rfl; rfl
  apply OL.nil
  with_reducible apply At.next
  apply W.seq
  apply W.reg
  apply OL.alloc; rfl; rfl; exact CellsL.one rfl; (intro bk hbk; simp only [AllLe, and_true] at hbk)
  apply OL.nil
  with_reducible apply At.next
  apply W.seq
  apply W.reg
  apply OL.alloc; rfl; rfl; exact CellsL.one rfl; (intro bk hbk; simp only [AllLe, and_true] at hbk)
  apply OL.nil
  with_reducible apply At.next
  apply W.seq
  apply W.reg
  apply OL.op; exact Guard.none; rfl; rfl; apply Pev.makeFunc; exact Args.nil; apply Args.cons rfl; exact yes; apply Args.cons rfl; exact yes; exact Args.nil
  apply oas; rfl; rfl
  apply OL.nil
  with_reducible apply At.next
  apply W.seq
  apply W.seq
  apply W.reg
  apply omv; rfl; rfl
  apply OL.op; exact Guard.none; rfl; rfl; apply Pev.len_slice; rfl; exact yes; rfl
  apply omv; rfl; rfl
  apply OL.nil
  with_reducible apply At.next
  apply W.block
  rename_i ob hob
  revert bk
  intro pb hpb
  have hob1 : w.heap.size ≤ ob := hob
  have hpb1 : w.heap.size ≤ pb := hpb
  have hp0 : posS ([], []) := fun c hc => absurd hc (List.not_mem_nil)
  refine W.loop (G := MG) (fun g => g.i < l.length ∧ lay (prv l g.i) (l.drop g.i) g.x = lay none l ([], []) ∧ posS g.x ∧ szS g.x ≤ 5 * g.i) (fun g => l.length - g.i)
    (fun g => [(0, true, .slice (some a) l.length cap), (3, true, .pointer (some ⟨ob, 0, none⟩)), (4, true, .pointer (some ⟨pb, 0, none⟩)), (5, true, .func (.func 38) #[] #[.pointer (some ⟨ob, 0, none⟩), .pointer (some ⟨pb, 0, none⟩)]), (21, true, .slice (some a) l.length cap), (22, true, .int .i64 (l.length : Int)), (23, true, .int .i64 (g.i : Int))])
    (fun g => Cls (RI w.heap.size ob pb g.x.1 g.x.2 g.y []) [w]) ⟨0, ([], []), ⟨none, 0, fun _ => False, none, 0, fun _ => False⟩⟩ ⟨hl2, rfl, hp0, Nat.le_refl _⟩ (by (repeat (first | exact Sub.nil | apply Sub.cons rfl | (refine Sub.cons_eq rfl (congrArg (Value.int .i64) (by first | omega | (simp only; omega))) ?_)))) (fun w' hw' => ?_) ?_
  · have h1 := (hw'.row_nil w.heap.size 51 5).row_nil w.heap.size 87 2
    exact h1.perm (by
      refine (List.perm_append_comm (l₁ := [_, _]) (l₂ := [_, _])).trans ?_
      exact (List.Perm.swap _ _ []).append_right [_, _])
  rintro ⟨i, ⟨s, out⟩, y⟩ ⟨hi, hrest, hpos, hsz⟩
  simp only at hi hrest hpos hsz ⊢
  unfold szS at hsz
  simp only at hsz
  obtain ⟨a2, t, he, hab2, ht, hct⟩ := h.elem tlen (by decide) hi
  obtain rfl := Option.some.inj he
  obtain ⟨p, hp, hcellI⟩ := tok_prev h hi rfl
  obtain ⟨g1, g2, g3, g4⟩ := chk_get hok0 ht
  rw [drop_of ht, lay] at hrest
  simp only [RI]
  apply W.seq
  apply W.reg
  apply obn; rfl; rfl; rfl; apply Bin.lss
  apply OL.nil
  with_reducible apply At.next
  apply W.seq
  (refine W.cond rfl (fun hlt => ?_) (fun hlt => ?_)) <;> (try (simp only [Bool.and_eq_true, Bool.or_eq_true, Bool.not_eq_true', Bool.and_eq_false_iff, Bool.or_eq_false_iff, Bool.not_eq_false', decide_eq_true_eq, decide_eq_false_iff_not, Int.not_lt, Int.not_le] at hlt)) <;> (try (exfalso; first | omega | exact hlt trivial | contradiction))
  apply W.skip
  with_reducible apply At.next
  apply W.seq
  apply W.block
  apply W.seq
  apply W.reg
  apply omv; rfl; rfl
  apply OL.op; exact Guard.none; rfl; rfl; apply Pev.idx; rfl; exact yes; rfl; exact yes; rfl; rfl; intro hcond; omega
  apply OL.op; exact Guard.none; rfl; rfl; apply Pev.load_keptA; rfl; exact yes; exact .head _; rfl; intro hcond; assumption; rfl; intro hcond; (rw [add_block]; assumption); intro hcond; simp only [add_block]; refine NotOwned.blk (by omega) ?_; refine NotOwned.blk (by omega) ?_; refine NotOwned.row (by omega) ?_; refine NotOwned.row (by omega) ?_; exact NotOwned.nil
  apply OL.alloc; rfl; rfl; exact CellsL.agg; (intro bk hbk; simp only [AllLe, and_true] at hbk)
  apply oas; rfl; rfl
  apply OL.storeB; rfl; rfl; exact CellsL.agg; rfl; rfl; rfl; apply Swap.z; apply Put.here; apply Over.cons; apply Over.cons; apply Over.cons; apply Over.cons; apply Over.cons; apply Over.nil
  apply OL.nil
  with_reducible apply At.next
  apply W.seq
  apply W.regd0; decide +kernel; kernel_rfl; decide +kernel; exact fun w hw => hw.drew
  apply qmv; rfl; rfl
  apply qbn; rfl; rfl; rfl; apply Bin.eql
  apply qmv; rfl; rfl
  apply QL.op; exact Guard.no rfl rfl; rfl; rfl; apply Pev.move; rfl; exact yes
  apply QL.op; exact Guard.no rfl rfl; rfl; rfl; apply Pev.move; rfl; exact yes
  apply QL.op; exact Guard.no rfl rfl; rfl; rfl; apply Pev.bin; rfl; exact fun h => h; rfl; exact yes; intro hcond; apply Bin.sub_in; omega
  apply QL.op; exact Guard.no rfl rfl; rfl; rfl; apply Pev.idxI; rfl; exact fun h => h; rfl; exact fun h => h; rfl; intro hcond; (simp only [Bool.and_eq_true, Bool.or_eq_true, Bool.not_eq_true', decide_eq_true_eq, decide_eq_false_iff_not] at hcond; omega)
  apply QL.op; exact Guard.no rfl rfl; rfl; rfl; apply Pev.fldA; rfl; exact fun h => h; rfl
  apply QL.op; exact Guard.no rfl rfl; rfl; rfl; apply Pev.load_kept; rfl; exact fun h => h; exact .head _; rfl; intro hcond; refine CellsAt.at_ (hcellI ?_) rfl; (simp only [Bool.and_eq_true, Bool.or_eq_true, Bool.not_eq_true', decide_eq_true_eq, decide_eq_false_iff_not] at hcond; omega); intro hcond; (simp only [add_block]; assumption); intro hcond; simp only [add_block]; refine NotOwned.blk (by omega) ?_; refine NotOwned.blk (by omega) ?_; refine NotOwned.blk (by omega) ?_; refine NotOwned.row (by omega) ?_; refine NotOwned.row (by omega) ?_; exact NotOwned.nil
  apply QL.op; exact Guard.no rfl rfl; rfl; rfl; apply Pev.fld; rfl; exact yes; rfl
  apply QL.op; exact Guard.no rfl rfl; rfl; rfl; apply Pev.load_blk; rfl; exact fun h => h; exact .head _; rfl; rfl
  apply QL.op; exact Guard.no rfl rfl; rfl; rfl; apply Pev.bin; rfl; exact fun h => h; rfl; exact fun h => h; intro hcond; apply Bin.neq
  apply QL.op; exact Guard.none; rfl; rfl; apply Pev.pick_or; rfl; exact yes; rfl; exact fun h => h
  apply qas; rfl; rfl
  apply QL.nil
  with_reducible apply At.next
  apply W.seq
  apply W.seq
  apply W.reg
  apply omv; rfl; rfl
  apply obn; rfl; rfl; rfl; apply Bin.gtr
  apply omv; rfl; rfl
  apply OL.op; exact Guard.yes rfl rfl; rfl; rfl; apply Pev.move; rfl; exact yes
  apply OL.op; exact Guard.yes rfl rfl; rfl; rfl; apply Pev.move; rfl; exact yes
  apply OL.op; exact Guard.yes rfl rfl; rfl; rfl; apply Pev.bin; rfl; exact fun h => h; rfl; exact yes; intro hcond; apply Bin.sub_in; omega
  apply OL.op; exact Guard.yes rfl rfl; rfl; rfl; apply Pev.idxI; rfl; exact fun h => h; rfl; exact fun h => h; rfl; intro hcond; (simp only [Bool.and_eq_true, Bool.or_eq_true, Bool.not_eq_true', decide_eq_true_eq, decide_eq_false_iff_not] at hcond; omega)
  apply OL.op; exact Guard.yes rfl rfl; rfl; rfl; apply Pev.load_keptA; rfl; exact fun h => h; exact .head _; rfl; intro hcond; refine hcellI ?_; (simp only [Bool.and_eq_true, Bool.or_eq_true, Bool.not_eq_true', decide_eq_true_eq, decide_eq_false_iff_not] at hcond; omega); rfl; intro hcond; (rw [add_block]; assumption); intro hcond; simp only [add_block]; refine NotOwned.blk (by omega) ?_; refine NotOwned.blk (by omega) ?_; refine NotOwned.blk (by omega) ?_; refine NotOwned.row (by omega) ?_; refine NotOwned.row (by omega) ?_; exact NotOwned.nil
  (((first | (with_reducible apply OL.op) | (with_reducible apply QL.op)); ((first | exact Guard.none | exact Guard.yes rfl rfl | exact Guard.no rfl rfl | exact Guard.cyes rfl rfl | exact Guard.cno rfl rfl)); rfl; rfl); (exact Pev.call rfl (by (repeat (first | exact Args.nil | (apply Args.cons rfl; ((first | exact fun _ => rfl | exact fun h => h | (intro h; simp_all; done))))))) (fun _ w2 hw2 => (opener_calls p w2).mono (fun e w3 h => ⟨h.1, hw2.ext h.2⟩))))
  apply OL.op; exact Guard.none; rfl; rfl; apply Pev.pick_and; rfl; exact yes; rfl; exact fun h => h
  apply OL.nil
  with_reducible apply At.next
  revert bk
  intro bt hbt
  rw [opd_prv hp, newln_ne hp g4]
  refine W.joinx (G := MY) (fun _ => True)
    (fun g => [(0, true, .slice (some a) l.length cap), (3, true, .pointer (some ⟨ob, 0, none⟩)), (4, true, .pointer (some ⟨pb, 0, none⟩)), (5, true, .func (.func 38) #[] #[.pointer (some ⟨ob, 0, none⟩), .pointer (some ⟨pb, 0, none⟩)]), (7, true, .pointer (some ⟨bt, 0, none⟩)), (8, true, .bool (firstB (prv l i) t s)), (21, true, .slice (some a) l.length cap), (22, true, .int .i64 (l.length : Int)), (23, true, .int .i64 (i : Int))])
    (fun g => Cls (RI w.heap.size ob pb (openS (prv l i) t (s, out)).1 (openS (prv l i) t (s, out)).2 g [blk bt 51 (tc t)]) [w]) ?_ ?_
  · refine W.cond rfl (fun h1 => ?_) (fun h1 => ?_)
    · have e1' : ¬ (opd (prv l i) = false) := by rw [h1]; simp
      obtain ⟨hwd, hi0⟩ := word_prv hp h1
      have hv := first_eq (t := t) (s := s) h1
      have hrow := fun w2 (hw2 : Cls [blk bt 51 (tc t), blk ob 47 [.slice y.q2 out.length y.c2], blk pb 83 [.slice y.q s.length y.c], row w.heap.size y.O y.q s.length y.c 87 2 (cat cc s.reverse), row w.heap.size y.O2 y.q2 out.length y.c2 51 5 (cat tc out)] [w] w2) => innermost_calls y.q y.c s w2 (by omega) (SlAt.of_row (hw2.item (i := row w.heap.size y.O y.q s.length y.c 87 2 (cat cc s.reverse)) (by (repeat (first | exact List.Mem.head _ | apply List.Mem.tail)))))
      apply W.seq
      apply W.reg
      apply ofa; rfl; rfl; rfl
      apply old; rfl; rfl; exact .head _; rfl; rfl
      apply obn; rfl; rfl; rfl; apply Bin.eql
      apply omv; rfl; rfl
      apply OL.op; exact Guard.yes rfl rfl; rfl; rfl; apply Pev.fld; rfl; exact yes; rfl
      apply OL.op; exact Guard.yes rfl rfl; rfl; rfl; apply Pev.load_blk; rfl; exact fun h => h; exact .head _; rfl; rfl
      apply OL.op; exact Guard.yes rfl rfl; rfl; rfl; apply Pev.bin; rfl; exact fun h => h; rfl; exact yes; intro hcond; apply Bin.str_eql
      apply OL.op; exact Guard.none; rfl; rfl; apply Pev.pick_and; rfl; exact yes; rfl; exact fun h => h
      apply oas; rfl; rfl
      apply OL.nil
      with_reducible apply At.next
      apply W.seq
      apply W.regd0; decide +kernel; kernel_rfl; decide +kernel; exact fun w hw => hw.drew
      apply qfa; rfl; rfl; rfl
      apply qld; rfl; rfl; exact .head _; rfl; rfl
      apply qbn; rfl; rfl; rfl; apply Bin.neq
      apply qmv; rfl; rfl
      apply QL.op; exact Guard.yes rfl rfl; rfl; rfl; apply Pev.fld; rfl; exact yes; rfl
      apply QL.op; exact Guard.yes rfl rfl; rfl; rfl; apply Pev.load_blk; rfl; exact fun h => h; exact .head _; rfl; rfl
      apply QL.op; exact Guard.yes rfl rfl; rfl; rfl; apply Pev.load_blk; rfl; exact yes; exact .tail _ (.tail _ (.head _)); rfl; rfl
      (((first | (with_reducible apply OL.op) | (with_reducible apply QL.op)); ((first | exact Guard.none | exact Guard.yes rfl rfl | exact Guard.no rfl rfl | exact Guard.cyes rfl rfl | exact Guard.cno rfl rfl)); rfl; rfl); (exact Pev.call rfl (by (repeat (first | exact Args.nil | (apply Args.cons rfl; ((first | exact fun _ => rfl | exact fun h => h | (intro h; simp_all; done))))))) (fun _ w2 hw2 => (hrow w2 hw2).mono (fun e w3 h => ⟨h.1, hw2.ext h.2⟩))))
      apply QL.op; exact Guard.yes rfl rfl; rfl; rfl; apply Pev.bin; rfl; exact fun h => h; rfl; exact fun h => h; intro hcond; apply Bin.gtr
      apply QL.op; exact Guard.none; rfl; rfl; apply Pev.pick_and; rfl; exact yes; rfl; exact fun h => h
      apply qas; rfl; rfl
      apply QL.nil
      with_reducible apply At.next
      apply W.seq
      apply W.seq
      apply W.reg
      apply omv; rfl; rfl
      apply OL.op; exact Guard.none; rfl; rfl; apply Pev.not; rfl; exact yes
      apply OL.nil
      with_reducible apply At.next
      refine W.cond rfl (fun h2 => ?_) (fun h2 => ?_)
      · have h2' : isT t 5 ⟨#[123]⟩ = false := by rw [← Bool.not_eq_true']; exact h2
        have e2 : ¬ (isT t 5 ⟨#[123]⟩ = true) := by rw [h2']; simp
        apply W.regz; apply ZSplit.pure rfl; apply ZSplit.pure rfl; apply ZSplit.tail; apply ZSplit.tail; apply ZSplit.tail; apply ZSplit.tail; exact ZSplit.nil; kernel_rfl; decide +kernel; exact fun w hw => hw.drew
        apply ZL.ld rfl; exact Guard.none; rfl; rfl; apply Pev.load_blk; rfl; exact yes; exact .tail _ (.head _); rfl; rfl
        apply ZL.ld rfl; exact Guard.none; rfl; rfl; apply Pev.load_blkA; rfl; exact yes; exact .head _; rfl; apply Take.succ; apply Take.succ; apply Take.succ; apply Take.succ; apply Take.succ; apply Take.zero
        apply ZL.nil
        apply TL.one rfl
        (((first | (with_reducible apply OL.op) | (with_reducible apply QL.op)); ((first | exact Guard.none | exact Guard.yes rfl rfl | exact Guard.no rfl rfl | exact Guard.cyes rfl rfl | exact Guard.cno rfl rfl)); rfl; rfl); (exact Pev.call rfl (by (repeat (first | exact Args.nil | (apply Args.cons rfl; ((first | exact fun _ => rfl | exact fun h => h | (intro h; simp_all; done))))))) (fun _ w2 hw2 => (virtual_calls 6 t w2).mono (fun e w3 h => ⟨h.1, hw2.ext h.2⟩))))
        apply OL.nil
        with_reducible apply At.tk; exact fun w hw => hw
        apply TL.one rfl
        apply OL.buildSlice; rfl; rfl; rfl; apply Elems.cons rfl; exact CellsL.agg; rfl; apply Elems.nil; apply App.cons; apply App.cons; apply App.cons; apply App.cons; apply App.cons; apply App.nil; rfl; rfl; (intro bk hbk; simp only [AllLe, and_true] at hbk)
        apply OL.nil
        refine At.tk (fun w hw => hw.thin ?_) ?_; refine Thin.blk (by simp only [AllLe, and_true]; omega) ?_; exact Thin.same
        apply TL.one rfl
        apply OL.append; rfl; rfl; rfl; rfl; apply Hole.s; apply Hole.s; apply Hole.s; apply Hole.s; apply Hole.s; apply Hole.z; exact .head _; apply Take.succ; apply Take.succ; apply Take.succ; apply Take.succ; apply Take.succ; apply Take.zero; rfl; rfl; exact ⟨_, .head _, Nat.le_refl _⟩; omega; intro O1 g1 cap1
        apply OL.nil
        with_reducible apply At.tn; decide +kernel
        apply TL.one rfl
        apply OL.storeB; rfl; rfl; exact CellsL.one rfl; rfl; rfl; rfl; apply Swap.s; apply Swap.s; apply Swap.z; apply Put.here; apply Over.cons; apply Over.nil
        apply OL.nil
        with_reducible apply At.tn; decide +kernel
        apply TL.nil
        with_reducible apply At.np
        with_reducible apply At.next
        apply W.seq
        apply W.seq
        apply W.reg
        apply omv; rfl; rfl
        apply OL.op; exact Guard.none; rfl; rfl; apply Pev.not; rfl; exact yes
        apply omv; rfl; rfl
        apply OL.op; exact Guard.yes rfl rfl; rfl; rfl; apply Pev.move; rfl; exact yes
        apply OL.op; exact Guard.none; rfl; rfl; apply Pev.pick_and; rfl; exact yes; rfl; exact fun h => h
        apply OL.nil
        with_reducible apply At.next
        revert O1 g1 cap1
        intro O0 g0 c0
        have eo : cat tc (out ++ [tk 6 t]) = cat tc out ++ tc (tk 6 t) := by rw [cat_append, cat_one]
        refine W.cond rfl (fun h3 => ?_) (fun h3 => ?_)
        · have e3 : t.kind ≠ 9 ∧ enc s < t.col := by
            rw [Bool.and_eq_true] at h3
            simpa using h3.2
          have hO : openS (prv l i) t (s, out) = (⟨t.col, p.text⟩ :: s, out ++ [tk 6 t]) := by unfold openS; rw [if_neg e1', if_neg e2, if_pos e3, hwd]
          rw [hO]
          apply W.regz; apply ZSplit.pure rfl; apply ZSplit.pure rfl; apply ZSplit.pure rfl; apply ZSplit.pure rfl; apply ZSplit.pure rfl; apply ZSplit.pure rfl; apply ZSplit.pure rfl; apply ZSplit.pure rfl; apply ZSplit.pure rfl; apply ZSplit.pure rfl; apply ZSplit.tail; apply ZSplit.tail; apply ZSplit.tail; exact ZSplit.nil; kernel_rfl; decide +kernel; exact fun w hw => hw.drew
          apply ZL.ld rfl; exact Guard.none; rfl; rfl; apply Pev.load_blk; rfl; exact yes; apply List.Mem.tail; exact .tail _ (.tail _ (.head _)); rfl; rfl
          apply ZL.op rfl; exact Guard.none; rfl; rfl; apply Pev.fld; rfl; exact yes; rfl
          apply ZL.ld rfl; exact Guard.none; rfl; rfl; apply Pev.load_blk; rfl; exact yes; exact .tail _ (.head _); rfl; rfl
          apply ZL.op rfl; exact Guard.none; rfl; rfl; apply Pev.move; rfl; exact yes
          apply ZL.op rfl; exact Guard.none; rfl; rfl; apply Pev.move; rfl; exact yes
          apply ZL.op rfl; exact Guard.none; rfl; rfl; apply Pev.bin; rfl; exact yes; rfl; exact yes; intro hcond; apply Bin.sub_in; omega
          apply ZL.op rfl; exact Guard.none; rfl; rfl; apply Pev.idxI; rfl; exact yes; rfl; exact yes; rfl; intro hcond; omega
          apply ZL.op rfl; exact Guard.none; rfl; rfl; apply Pev.fldA; rfl; exact yes; rfl
          apply ZL.ld rfl; exact Guard.none; rfl; rfl; apply Pev.load_kept; rfl; exact yes; exact .head _; rfl; intro hcond; refine CellsAt.at_ (hcellI ?_) rfl; omega; intro hcond; (simp only [add_block]; assumption); intro hcond; simp only [add_block]; refine NotOwned.blk (by omega) ?_; refine NotOwned.blk (by omega) ?_; refine NotOwned.blk (by omega) ?_; refine NotOwned.blk (by omega) ?_; refine NotOwned.row (by omega) ?_; refine NotOwned.row (by omega) ?_; exact NotOwned.nil
          apply ZL.op rfl; exact Guard.none; rfl; rfl; apply Pev.build; rfl; exact CellsL.agg; rfl; apply Fill.cons rfl; exact CellsL.one rfl; rfl; rfl; apply Put.here; apply Over.cons; apply Over.nil; apply Fill.cons rfl; exact CellsL.one rfl; rfl; rfl; apply Put.skip; apply Put.here; apply Over.cons; apply Over.nil; apply Fill.nil; rfl
          apply ZL.nil
          apply TL.one rfl
          apply OL.buildSlice; rfl; rfl; rfl; apply Elems.cons rfl; exact CellsL.agg; rfl; apply Elems.nil; apply App.cons; apply App.cons; apply App.nil; rfl; rfl; (intro bk hbk; simp only [AllLe, and_true] at hbk)
          apply OL.nil
          refine At.tk (fun w hw => hw.thin ?_) ?_; refine Thin.blk (by simp only [AllLe, and_true]; omega) ?_; exact Thin.same
          apply TL.one rfl
          apply OL.append; rfl; rfl; rfl; rfl; apply Hole.s; apply Hole.s; apply Hole.s; apply Hole.s; apply Hole.s; apply Hole.z; exact .head _; apply Take.succ; apply Take.succ; apply Take.zero; rfl; rfl; exact ⟨_, .head _, Nat.le_refl _⟩; omega; intro O1 g1 cap1
          apply OL.nil
          with_reducible apply At.tn; decide +kernel
          apply TL.one rfl
          apply OL.storeB; rfl; rfl; exact CellsL.one rfl; rfl; rfl; rfl; apply Swap.s; apply Swap.s; apply Swap.s; apply Swap.s; apply Swap.z; apply Put.here; apply Over.cons; apply Over.nil
          apply OL.nil
          with_reducible apply At.tn; decide +kernel
          apply TL.nil
          with_reducible apply At.np
          with_reducible apply At.next
          apply W.seq
          apply W.seq
          apply W.reg
          apply omv; rfl; rfl
          apply OL.op; exact Guard.none; rfl; rfl; apply Pev.not; rfl; exact yes
          apply omv; rfl; rfl
          apply OL.op; exact Guard.yes rfl rfl; rfl; rfl; apply Pev.move; rfl; exact yes
          apply OL.op; exact Guard.yes rfl rfl; rfl; rfl; apply Pev.not; rfl; exact fun h => h
          apply OL.op; exact Guard.none; rfl; rfl; apply Pev.pick_and; rfl; exact yes; rfl; exact fun h => h
          apply OL.nil
          with_reducible apply At.next
          refine W.cond rfl (fun h4 => ?_) (fun h4 => ?_)
          · exfalso
            rw [Bool.and_eq_true] at h3 h4
            have h5 := h3.2
            have h6 := h4.2
            rw [h5] at h6
            cases h6
          apply W.skip
          with_reducible apply At.next
          apply W.reg
          apply omv; rfl; rfl
          apply omv; rfl; rfl
          apply OL.op; exact Guard.yes rfl rfl; rfl; rfl; apply Pev.move; rfl; exact yes
          apply OL.op; exact Guard.yes rfl rfl; rfl; rfl; apply Pev.not; rfl; exact fun h => h
          apply OL.op; exact Guard.none; rfl; rfl; apply Pev.pick_and; rfl; exact yes; rfl; exact fun h => h
          apply omv; rfl; rfl
          apply OL.op; exact Guard.yes rfl rfl; rfl; rfl; apply Pev.move; rfl; exact yes
          apply OL.op; exact Guard.yes rfl rfl; rfl; rfl; apply Pev.not; rfl; exact fun h => h
          apply OL.op; exact Guard.none; rfl; rfl; apply Pev.pick_and; rfl; exact yes; rfl; exact fun h => h
          apply oas; rfl; rfl
          apply OL.nil
          refine At.joinedx ⟨some ⟨g1, 0, none⟩, cap1, O1, some ⟨g0, 0, none⟩, c0, O0⟩ trivial (by repeat (first | exact Sub.nil | apply Sub.cons rfl | (refine Sub.cons_eq rfl (congrArg Value.bool hv) ?_))) (fun w' hw' => ?_)
          have e : cat cc (⟨t.col, p.text⟩ :: s).reverse = cat cc s.reverse ++ [.int .i64 t.col, .string p.text] := by rw [List.reverse_cons, cat_append, cat_one]; rfl
          simp only [RI, List.length_cons, List.length_append, List.length_nil, Nat.zero_add, e, eo]
          exact Cls.in4 (i := blk bt 51 (tc t)) (hw'.thin (by (repeat (first | exact Thin.nil | exact Thin.same | apply Thin.keep | (refine Thin.blk (by assumption) ?_) | (refine Thin.blk (by simp only [AllLe, and_true]; omega) ?_)))))
        · have e3 : ¬ (t.kind ≠ 9 ∧ enc s < t.col) := by
            rintro ⟨h4, h5⟩
            rw [Bool.and_eq_false_iff] at h3
            rcases h3 with h3 | h3
            · change (!isT t 5 ⟨#[123]⟩) = false at h3
              rw [h2'] at h3
              cases h3
            · simp [h4, h5] at h3
          have hO : openS (prv l i) t (s, out) = (s, out ++ [tk 6 t] ++ [tk 7 t]) := by unfold openS; rw [if_neg e1', if_neg e2, if_neg e3]
          rw [hO]
          apply W.skip
          with_reducible apply At.next
          apply W.seq
          apply W.seq
          apply W.reg
          apply omv; rfl; rfl
          apply OL.op; exact Guard.none; rfl; rfl; apply Pev.not; rfl; exact yes
          apply omv; rfl; rfl
          apply OL.op; exact Guard.yes rfl rfl; rfl; rfl; apply Pev.move; rfl; exact yes
          apply OL.op; exact Guard.yes rfl rfl; rfl; rfl; apply Pev.not; rfl; exact fun h => h
          apply OL.op; exact Guard.none; rfl; rfl; apply Pev.pick_and; rfl; exact yes; rfl; exact fun h => h
          apply OL.nil
          with_reducible apply At.next
          refine W.cond rfl (fun h4 => ?_) (fun h4 => ?_)
          · apply W.regz; apply ZSplit.pure rfl; apply ZSplit.pure rfl; apply ZSplit.tail; apply ZSplit.tail; apply ZSplit.tail; apply ZSplit.tail; exact ZSplit.nil; kernel_rfl; decide +kernel; exact fun w hw => hw.drew
            apply ZL.ld rfl; exact Guard.none; rfl; rfl; apply Pev.load_blk; rfl; exact yes; exact .tail _ (.tail _ (.head _)); rfl; rfl
            apply ZL.ld rfl; exact Guard.none; rfl; rfl; apply Pev.load_blkA; rfl; exact yes; exact .tail _ (.head _); rfl; apply Take.succ; apply Take.succ; apply Take.succ; apply Take.succ; apply Take.succ; apply Take.zero
            apply ZL.nil
            apply TL.one rfl
            (((first | (with_reducible apply OL.op) | (with_reducible apply QL.op)); ((first | exact Guard.none | exact Guard.yes rfl rfl | exact Guard.no rfl rfl | exact Guard.cyes rfl rfl | exact Guard.cno rfl rfl)); rfl; rfl); (exact Pev.call rfl (by (repeat (first | exact Args.nil | (apply Args.cons rfl; ((first | exact fun _ => rfl | exact fun h => h | (intro h; simp_all; done))))))) (fun _ w2 hw2 => (virtual_calls 7 t w2).mono (fun e w3 h => ⟨h.1, hw2.ext h.2⟩))))
            apply OL.nil
            with_reducible apply At.tk; exact fun w hw => hw
            apply TL.one rfl
            apply OL.buildSlice; rfl; rfl; rfl; apply Elems.cons rfl; exact CellsL.agg; rfl; apply Elems.nil; apply App.cons; apply App.cons; apply App.cons; apply App.cons; apply App.cons; apply App.nil; rfl; rfl; (intro bk hbk; simp only [AllLe, and_true] at hbk)
            apply OL.nil
            refine At.tk (fun w hw => hw.thin ?_) ?_; refine Thin.blk (by simp only [AllLe, and_true]; omega) ?_; exact Thin.same
            apply TL.one rfl
            apply OL.append; rfl; rfl; rfl; rfl; apply Hole.s; apply Hole.s; apply Hole.s; apply Hole.s; apply Hole.s; apply Hole.s; apply Hole.z; exact .head _; apply Take.succ; apply Take.succ; apply Take.succ; apply Take.succ; apply Take.succ; apply Take.zero; rfl; rfl; exact ⟨_, .head _, Nat.le_refl _⟩; omega; intro O1 g1 cap1
            apply OL.nil
            with_reducible apply At.tn; decide +kernel
            apply TL.one rfl
            apply OL.storeB; rfl; rfl; exact CellsL.one rfl; rfl; rfl; rfl; apply Swap.s; apply Swap.s; apply Swap.s; apply Swap.z; apply Put.here; apply Over.cons; apply Over.nil
            apply OL.nil
            with_reducible apply At.tn; decide +kernel
            apply TL.nil
            with_reducible apply At.np
            with_reducible apply At.next
            apply W.reg
            apply omv; rfl; rfl
            apply omv; rfl; rfl
            apply OL.op; exact Guard.yes rfl rfl; rfl; rfl; apply Pev.move; rfl; exact yes
            apply OL.op; exact Guard.yes rfl rfl; rfl; rfl; apply Pev.not; rfl; exact fun h => h
            apply OL.op; exact Guard.none; rfl; rfl; apply Pev.pick_and; rfl; exact yes; rfl; exact fun h => h
            apply omv; rfl; rfl
            apply OL.op; exact Guard.yes rfl rfl; rfl; rfl; apply Pev.move; rfl; exact yes
            apply OL.op; exact Guard.yes rfl rfl; rfl; rfl; apply Pev.not; rfl; exact fun h => h
            apply OL.op; exact Guard.none; rfl; rfl; apply Pev.pick_and; rfl; exact yes; rfl; exact fun h => h
            apply oas; rfl; rfl
            apply OL.nil
            refine At.joinedx ⟨y.q, y.c, y.O, some ⟨g1, 0, none⟩, cap1, O1⟩ trivial (by repeat (first | exact Sub.nil | apply Sub.cons rfl | (refine Sub.cons_eq rfl (congrArg Value.bool hv) ?_))) (fun w' hw' => ?_)
            have eo2 : cat tc (out ++ [tk 6 t] ++ [tk 7 t]) = cat tc out ++ tc (tk 6 t) ++ tc (tk 7 t) := by rw [cat_append, cat_one, cat_append, cat_one]
            simp only [RI, List.length_cons, List.length_append, List.length_nil, Nat.zero_add, eo2]
            exact Cls.in4 (i := blk bt 51 (tc t)) (hw'.thin (by (repeat (first | exact Thin.nil | exact Thin.same | apply Thin.keep | (refine Thin.blk (by assumption) ?_) | (refine Thin.blk (by simp only [AllLe, and_true]; omega) ?_)))))
          · exfalso
            rw [Bool.and_eq_false_iff] at h4
            rcases h4 with h4 | h4
            · change (!isT t 5 ⟨#[123]⟩) = false at h4
              rw [h2'] at h4
              cases h4
            · refine e3 ⟨?_, ?_⟩ <;> (simp at h4; first | exact h4.1 | exact h4.2)
      · have h2' : isT t 5 ⟨#[123]⟩ = true := by
          change (!isT t 5 ⟨#[123]⟩) = false at h2
          rw [Bool.not_eq_false'] at h2
          exact h2
        have hO : openS (prv l i) t (s, out) = (s, out) := by unfold openS; rw [if_neg e1', if_pos h2']
        rw [hO]
        apply W.skip
        with_reducible apply At.next
        apply W.seq
        apply W.seq
        apply W.reg
        apply omv; rfl; rfl
        apply OL.op; exact Guard.none; rfl; rfl; apply Pev.not; rfl; exact yes
        apply omv; rfl; rfl
        apply OL.op; exact Guard.yes rfl rfl; rfl; rfl; apply Pev.move; rfl; exact yes
        apply OL.op; exact Guard.none; rfl; rfl; apply Pev.pick_and; rfl; exact yes; rfl; exact fun h => h
        apply OL.nil
        with_reducible apply At.next
        refine W.cond rfl (fun h3 => ?_) (fun h3 => ?_)
        · exfalso
          rw [Bool.and_eq_true] at h3
          have h4 : (!isT t 5 ⟨#[123]⟩) = true := h3.1
          rw [h2'] at h4
          cases h4
        apply W.skip
        with_reducible apply At.next
        apply W.seq
        apply W.seq
        apply W.reg
        apply omv; rfl; rfl
        apply OL.op; exact Guard.none; rfl; rfl; apply Pev.not; rfl; exact yes
        apply omv; rfl; rfl
        apply OL.op; exact Guard.yes rfl rfl; rfl; rfl; apply Pev.move; rfl; exact yes
        apply OL.op; exact Guard.yes rfl rfl; rfl; rfl; apply Pev.not; rfl; exact fun h => h
        apply OL.op; exact Guard.none; rfl; rfl; apply Pev.pick_and; rfl; exact yes; rfl; exact fun h => h
        apply OL.nil
        with_reducible apply At.next
        refine W.cond rfl (fun h3 => ?_) (fun h3 => ?_)
        · exfalso
          rw [Bool.and_eq_true] at h3
          have h4 : (!isT t 5 ⟨#[123]⟩) = true := h3.1
          rw [h2'] at h4
          cases h4
        apply W.skip
        with_reducible apply At.next
        apply W.reg
        apply omv; rfl; rfl
        apply omv; rfl; rfl
        apply OL.op; exact Guard.yes rfl rfl; rfl; rfl; apply Pev.move; rfl; exact yes
        apply OL.op; exact Guard.yes rfl rfl; rfl; rfl; apply Pev.not; rfl; exact fun h => h
        apply OL.op; exact Guard.none; rfl; rfl; apply Pev.pick_and; rfl; exact yes; rfl; exact fun h => h
        apply omv; rfl; rfl
        apply OL.op; exact Guard.yes rfl rfl; rfl; rfl; apply Pev.move; rfl; exact yes
        apply OL.op; exact Guard.yes rfl rfl; rfl; rfl; apply Pev.not; rfl; exact fun h => h
        apply OL.op; exact Guard.none; rfl; rfl; apply Pev.pick_and; rfl; exact yes; rfl; exact fun h => h
        apply oas; rfl; rfl
        apply OL.nil
        exact At.joinedx y trivial (by repeat (first | exact Sub.nil | apply Sub.cons rfl | (refine Sub.cons_eq rfl (congrArg Value.bool hv) ?_))) (fun w' hw' => Cls.in4 hw')
    · have e1' : opd (prv l i) = false := h1
      have hO : openS (prv l i) t (s, out) = (s, out) := by unfold openS; rw [if_pos e1']
      have hF : firstB (prv l i) t s = newln (prv l i) t := by unfold firstB; rw [if_pos e1']
      rw [hO, hF]
      apply W.skip
      exact At.joinedx y trivial (by (repeat (first | exact Sub.nil | apply Sub.cons rfl | (refine Sub.cons_eq rfl (congrArg (Value.int .i64) (by first | omega | (simp only; omega))) ?_)))) (fun w' hw' => Cls.in4 hw')
  intro y1 _
  have hz1 := openS_sz (prev := prv l i) (t := t) (x := (s, out))
  have hp1 := openS_pos (prev := prv l i) g2 hpos
  unfold szS at hz1
  simp only at hz1
  revert hrest hz1 hp1
  generalize hx1 : openS (prv l i) t (s, out) = x1
  obtain ⟨s1, out1⟩ := x1
  intro hrest hz1 hp1
  simp only at hz1 hp1 hrest
  clear hcellI hct
  apply W.seq
  apply W.seq
  apply W.reg
  apply ofa; rfl; rfl; rfl
  apply old; rfl; rfl; apply List.Mem.tail; apply List.Mem.tail; exact .tail _ (.tail _ (.head _)); rfl; rfl
  apply obn; rfl; rfl; rfl; apply Bin.eql
  apply OL.nil
  with_reducible apply At.next
  (refine W.cond rfl (fun h9 => ?_) (fun h9 => ?_)) <;> (try (simp only [Bool.and_eq_true, Bool.or_eq_true, Bool.not_eq_true', Bool.and_eq_false_iff, Bool.or_eq_false_iff, Bool.not_eq_false', decide_eq_true_eq, decide_eq_false_iff_not, Int.not_lt, Int.not_le] at h9)) <;> (try (exfalso; first | omega | exact h9 trivial | contradiction))
  · rw [if_pos h9] at hrest
    apply W.seq
    apply W.reg
    apply oas; rfl; rfl
    apply OL.nil
    with_reducible apply At.next
    apply W.seq
    apply W.seq
    apply W.reg
    apply old; rfl; rfl; exact .tail _ (.head _); rfl; rfl
    apply OL.op; exact Guard.none; rfl; rfl; apply Pev.len_slice; rfl; exact yes; rfl
    apply omv; rfl; rfl
    apply OL.nil
    with_reducible apply At.next
    apply W.block
    refine W.loop (G := Nat) (fun k => k ≤ s1.length) (fun k => s1.length - k)
      (fun k => [(3, true, .pointer (some ⟨ob, 0, none⟩)), (7, true, .pointer (some ⟨bt, 0, none⟩)), (11, true, .int .i64 ((((s1.reverse.take k).filter posX).length : Nat) : Int)), (116, true, .slice y1.q s1.length y1.c), (117, true, .int .i64 (s1.length : Int)), (118, true, .int .i64 (k : Int))])
      (fun k => Cls (RI w.heap.size ob pb s1 out1 y1 [blk bt 51 (tc t)]) [w]) 0 (Nat.zero_le _) (by (repeat (first | exact Sub.nil | apply Sub.cons rfl | (refine Sub.cons_eq rfl (congrArg (Value.int .i64) (by first | omega | (simp only; omega))) ?_)))) (fun w' hw' => hw') ?_
    intro k hk
    have hfle : ((s1.reverse.take k).filter posX).length ≤ s1.length := by
      have h1 := List.length_filter_le posX (s1.reverse.take k)
      rw [List.length_take, List.length_reverse] at h1
      omega
    apply W.seq
    apply W.reg
    apply obn; rfl; rfl; rfl; apply Bin.lss
    apply OL.nil
    with_reducible apply At.next
    apply W.seq
    (refine W.cond rfl (fun hk2 => ?_) (fun hk2 => ?_)) <;> (try (simp only [Bool.and_eq_true, Bool.or_eq_true, Bool.not_eq_true', Bool.and_eq_false_iff, Bool.or_eq_false_iff, Bool.not_eq_false', decide_eq_true_eq, decide_eq_false_iff_not, Int.not_lt, Int.not_le] at hk2)) <;> (try (exfalso; first | omega | exact hk2 trivial | contradiction))
    · have hk3 : k < s1.length := by omega
      obtain ⟨yq, yc, yO, yq2, yc2, yO2⟩ := y1
      simp only [RI]
      refine W.fact (φ := ∃ g0, yq = some ⟨g0, 0, none⟩) (fun w' hw' => row_some (hw'.item (.tail _ (.tail _ (.head _)))) (by omega)) ?_
      rintro ⟨g0, rfl⟩
      obtain ⟨c, hL⟩ : ∃ c, s1.reverse[k]? = some c := ⟨_, List.getElem?_eq_getElem (by rw [List.length_reverse]; exact hk3)⟩
      have ht1 : s1.reverse.take (k + 1) = s1.reverse.take k ++ [c] := by rw [List.take_add_one, hL]; rfl
      apply W.skip
      with_reducible apply At.next
      apply W.seq
      apply W.block
      apply W.seq
      apply W.reg
      apply OL.op; exact Guard.none; rfl; rfl; apply Pev.idxB; rfl; exact yes; rfl; exact yes; rfl; intro hcond; omega; rfl
      apply OL.op; exact Guard.none; rfl; rfl; apply Pev.load_rowE; rfl; exact yes; exact .tail _ (.tail _ (.head _)); rfl; exact fun _ => rfl; (intro hcond; assumption); (intro hcond; omega)
      apply OL.alloc; rfl; rfl; exact CellsL.agg; (intro bk hbk; simp only [AllLe, and_true] at hbk)
      apply OL.storeB; rfl; rfl; exact CellsL.agg; rfl; rfl; rfl; apply Swap.z; apply Put.here; apply Over.cons; apply Over.cons; apply Over.nil
      apply OL.nil
      with_reducible apply At.next
      apply W.seq
      apply W.reg
      apply ofa; rfl; rfl; rfl
      apply old; rfl; rfl; exact .head _; rfl; rfl
      apply obn; rfl; rfl; rfl; apply Bin.gtr
      apply OL.nil
      with_reducible apply At.next
      (refine W.cond rfl (fun hc => ?_) (fun hc => ?_)) <;> (try (simp only [Bool.and_eq_true, Bool.or_eq_true, Bool.not_eq_true', Bool.and_eq_false_iff, Bool.or_eq_false_iff, Bool.not_eq_false', decide_eq_true_eq, decide_eq_false_iff_not, Int.not_lt, Int.not_le] at hc)) <;> (try (exfalso; first | omega | exact hc trivial | contradiction))
      · have hf : ((s1.reverse.take (k + 1)).filter posX).length = ((s1.reverse.take k).filter posX).length + 1 := by rw [ht1, List.filter_append, List.filter_cons_of_pos (show posX c = true from decide_eq_true hc)]; simp
        apply W.reg
        apply omv; rfl; rfl
        apply obn; rfl; rfl; rfl; apply Bin.add_in; omega
        apply oas; rfl; rfl
        apply OL.nil
        with_reducible apply At.in_normal
        with_reducible apply At.next
        apply W.reg
        apply obn; rfl; rfl; rfl; apply Bin.add_in; omega
        apply omv; rfl; rfl
        apply OL.nil
        exact At.again (k + 1) (by omega) (by omega) (by (repeat (first | exact Sub.nil | apply Sub.cons rfl | (refine Sub.cons_eq rfl (congrArg (Value.int .i64) (by first | omega | (simp only; omega))) ?_)))) (fun w' hw' => hw'.thin (by (repeat (first | exact Thin.nil | exact Thin.same | apply Thin.keep | (refine Thin.blk (by assumption) ?_) | (refine Thin.blk (by simp only [AllLe, and_true]; omega) ?_)))))
      · have hf : ((s1.reverse.take (k + 1)).filter posX).length = ((s1.reverse.take k).filter posX).length := by rw [ht1, List.filter_append, List.filter_cons_of_neg (show ¬ posX c = true from fun h => by have := of_decide_eq_true h; omega)]; simp
        apply W.skip
        with_reducible apply At.in_normal
        with_reducible apply At.next
        apply W.reg
        apply obn; rfl; rfl; rfl; apply Bin.add_in; omega
        apply omv; rfl; rfl
        apply OL.nil
        exact At.again (k + 1) (by omega) (by omega) (by (repeat (first | exact Sub.nil | apply Sub.cons rfl | (refine Sub.cons_eq rfl (congrArg (Value.int .i64) (by first | omega | (simp only; omega))) ?_)))) (fun w' hw' => hw'.thin (by (repeat (first | exact Thin.nil | exact Thin.same | apply Thin.keep | (refine Thin.blk (by assumption) ?_) | (refine Thin.blk (by simp only [AllLe, and_true]; omega) ?_)))))
    · have hfl : ((s1.reverse.take k).filter posX).length = (s1.filter posX).length := by
        rw [List.take_of_length_le (by rw [List.length_reverse]; omega), List.filter_reverse, List.length_reverse]
      rw [hfl] at hfle
      rw [hfl]
      apply W.exit
      with_reducible apply At.then_exit
      with_reducible apply At.then_exit
      with_reducible apply At.in_exit
      with_reducible apply At.next
      apply W.seq
      apply W.block
      refine W.loop (G := Nat × MY) (fun g => g.1 ≤ (s1.filter posX).length) (fun g => (s1.filter posX).length - g.1)
        (fun g => [(3, true, .pointer (some ⟨ob, 0, none⟩)), (7, true, .pointer (some ⟨bt, 0, none⟩)), (11, true, .int .i64 (((s1.filter posX).length : Int) - g.1))])
        (fun g => Cls (RI w.heap.size ob pb s1 (out1 ++ List.replicate g.1 (tk 7 t)) g.2 [blk bt 51 (tc t)]) [w]) (0, y1) (Nat.zero_le _) (by (repeat (first | exact Sub.nil | apply Sub.cons rfl | (refine Sub.cons_eq rfl (congrArg (Value.int .i64) (by first | omega | (simp only; omega))) ?_)))) (fun w' hw' => by simpa using hw') ?_
      rintro ⟨j, y2⟩ hj
      simp only at hj ⊢
      have hlo : (out1 ++ List.replicate j (tk 7 t)).length = out1.length + j := by simp
      simp only [RI]
      apply W.seq
      apply W.seq
      apply W.reg
      apply omv; rfl; rfl
      apply obn; rfl; rfl; rfl; apply Bin.gtr
      apply OL.nil
      with_reducible apply At.next
      (refine W.cond rfl (fun hj2 => ?_) (fun hj2 => ?_)) <;> (try (simp only [Bool.and_eq_true, Bool.or_eq_true, Bool.not_eq_true', Bool.and_eq_false_iff, Bool.or_eq_false_iff, Bool.not_eq_false', decide_eq_true_eq, decide_eq_false_iff_not, Int.not_lt, Int.not_le] at hj2)) <;> (try (exfalso; first | omega | exact hj2 trivial | contradiction))
      · apply W.skip
        with_reducible apply At.next
        apply W.seq
        apply W.block
        apply W.regz; apply ZSplit.pure rfl; apply ZSplit.pure rfl; apply ZSplit.tail; apply ZSplit.tail; apply ZSplit.tail; apply ZSplit.tail; exact ZSplit.nil; kernel_rfl; decide +kernel; exact fun w hw => hw.drew
        apply ZL.ld rfl; exact Guard.none; rfl; rfl; apply Pev.load_blk; rfl; exact yes; exact .head _; rfl; rfl
        apply ZL.ld rfl; exact Guard.none; rfl; rfl; apply Pev.load_blkA; rfl; exact yes; apply List.Mem.tail; apply List.Mem.tail; exact .tail _ (.tail _ (.head _)); rfl; apply Take.succ; apply Take.succ; apply Take.succ; apply Take.succ; apply Take.succ; apply Take.zero
        apply ZL.nil
        apply TL.one rfl
        (((first | (with_reducible apply OL.op) | (with_reducible apply QL.op)); ((first | exact Guard.none | exact Guard.yes rfl rfl | exact Guard.no rfl rfl | exact Guard.cyes rfl rfl | exact Guard.cno rfl rfl)); rfl; rfl); (exact Pev.call rfl (by (repeat (first | exact Args.nil | (apply Args.cons rfl; ((first | exact fun _ => rfl | exact fun h => h | (intro h; simp_all; done))))))) (fun _ w2 hw2 => (virtual_calls 7 t w2).mono (fun e w3 h => ⟨h.1, hw2.ext h.2⟩))))
        apply OL.nil
        with_reducible apply At.tk; exact fun w hw => hw
        apply TL.one rfl
        apply OL.buildSlice; rfl; rfl; rfl; apply Elems.cons rfl; exact CellsL.agg; rfl; apply Elems.nil; apply App.cons; apply App.cons; apply App.cons; apply App.cons; apply App.cons; apply App.nil; rfl; rfl; (intro bk hbk; simp only [AllLe, and_true] at hbk)
        apply OL.nil
        refine At.tk (fun w hw => hw.thin ?_) ?_; refine Thin.blk (by simp only [AllLe, and_true]; omega) ?_; exact Thin.same
        apply TL.one rfl
        apply OL.append; rfl; rfl; rfl; rfl; apply Hole.s; apply Hole.s; apply Hole.s; apply Hole.s; apply Hole.z; exact .head _; apply Take.succ; apply Take.succ; apply Take.succ; apply Take.succ; apply Take.succ; apply Take.zero; rfl; rfl; exact ⟨_, .head _, Nat.le_refl _⟩; omega; intro O1 g1 cap1
        apply OL.nil
        with_reducible apply At.tn; decide +kernel
        apply TL.one rfl
        apply OL.storeB; rfl; rfl; exact CellsL.one rfl; rfl; rfl; rfl; apply Swap.s; apply Swap.z; apply Put.here; apply Over.cons; apply Over.nil
        apply OL.nil
        with_reducible apply At.tn; decide +kernel
        apply TL.nil
        with_reducible apply At.np
        with_reducible apply At.in_normal
        with_reducible apply At.next
        apply W.reg
        apply omv; rfl; rfl
        apply obn; rfl; rfl; rfl; apply Bin.sub_in; omega
        apply oas; rfl; rfl
        apply OL.nil
        refine At.again (j + 1, ⟨y2.q, y2.c, y2.O, some ⟨g1, 0, none⟩, cap1, O1⟩) (by simp only; omega) (by simp only; omega) (by (repeat (first | exact Sub.nil | apply Sub.cons rfl | (refine Sub.cons_eq rfl (congrArg (Value.int .i64) (by first | omega | (simp only; omega))) ?_)))) (fun w' hw' => ?_)
        have e : cat tc (out1 ++ List.replicate (j + 1) (tk 7 t)) = cat tc (out1 ++ List.replicate j (tk 7 t)) ++ tc (tk 7 t) := by rw [← rep_succ, cat_append, cat_one]
        have e2 : (out1 ++ List.replicate (j + 1) (tk 7 t)).length = (out1 ++ List.replicate j (tk 7 t)).length + 1 := by simp only [List.length_append, List.length_replicate]; omega
        simp only [RI, e, e2]
        exact hw'.thin (by (repeat (first | exact Thin.nil | exact Thin.same | apply Thin.keep | (refine Thin.blk (by assumption) ?_) | (refine Thin.blk (by simp only [AllLe, and_true]; omega) ?_))))
      · obtain rfl : j = (s1.filter posX).length := by omega
        apply W.exit
        with_reducible apply At.then_exit
        with_reducible apply At.then_exit
        with_reducible apply At.in_exit
        with_reducible apply At.next
        apply W.seq
        apply W.reg
        apply old; rfl; rfl; exact .head _; rfl; rfl
        apply OL.op; exact Guard.none; rfl; rfl; apply Pev.load_blkA; rfl; exact yes; apply List.Mem.tail; apply List.Mem.tail; exact .tail _ (.tail _ (.head _)); rfl; apply Take.succ; apply Take.succ; apply Take.succ; apply Take.succ; apply Take.succ; apply Take.zero
        apply OL.buildSlice; rfl; rfl; rfl; apply Elems.cons rfl; exact CellsL.agg; rfl; apply Elems.nil; apply App.cons; apply App.cons; apply App.cons; apply App.cons; apply App.cons; apply App.nil; rfl; rfl; (intro bk hbk; simp only [AllLe, and_true] at hbk)
        apply OL.append; rfl; rfl; rfl; rfl; apply Hole.s; apply Hole.s; apply Hole.s; apply Hole.s; apply Hole.z; exact .head _; apply Take.succ; apply Take.succ; apply Take.succ; apply Take.succ; apply Take.succ; apply Take.zero; rfl; rfl; exact ⟨_, .head _, Nat.le_refl _⟩; omega; intro O1 g1 cap1
        apply oas; rfl; rfl
        apply OL.nil
        with_reducible apply At.next
        apply W.ret
        with_reducible apply At.then_ret
        with_reducible apply At.in_ret
        with_reducible apply At.then_ret
        with_reducible apply At.then_ret
        with_reducible apply At.in_ret
        with_reducible apply At.then_ret
        rw [← hrest]
        refine At.fin1 rfl rfl (fun w' hw' => ⟨(some ⟨g1, 0, none⟩, cap1), ?_, ?_, ?_⟩)
        · simp only [List.length_append, List.length_cons, List.length_nil, Nat.zero_add]
        · have hrow := SlAt.of_row (hw'.item (i := row w.heap.size O1 (some ⟨g1, 0, none⟩) ((out1 ++ List.replicate (s1.filter posX).length (tk 7 t)).length + 1) cap1 51 5 (cat tc (out1 ++ List.replicate (s1.filter posX).length (tk 7 t)) ++ tc t)) (by (repeat (first | exact List.Mem.head _ | apply List.Mem.tail))))
          rw [cat_append, cat_one]
          exact hrow
        · (exact hw'.toExt (by (repeat (first | exact List.Mem.head _ | apply List.Mem.tail))) (fun k hk => by (focus ((try simp only [add_block]); (repeat (first | exact NotOwned.nil | exact hno _ (by omega) | refine NotOwned.nothing ?_ | refine NotOwned.nds (hlow _ (by omega)) ?_ | refine NotOwned.mapS (by omega) ?_ | apply NotOwned.bif | refine NotOwned.blk (by omega) ?_ | refine NotOwned.row (by omega) ?_ | refine NotOwned.grid (by assumption) (by omega) ?_)); done))))
  · rw [if_neg h9] at hrest
    have hi1 : i + 1 < l.length := by
      have : ¬ i + 1 = l.length := fun e => h9 (g3.2 e)
      omega
    apply W.skip
    with_reducible apply At.next
    apply W.seq
    apply W.seq
    apply W.reg
    apply omv; rfl; rfl
    apply OL.nil
    with_reducible apply At.next
    have hS1 := stepS_sz (prev := prv l i) (t := t) (x := (s, out))
    have hS2 := stepS_pos (prev := prv l i) g2 hpos
    unfold stepS at hrest hS1 hS2
    simp only [hx1] at hrest hS1 hS2
    refine W.joinx (G := MY) (fun _ => True)
      (fun g => [(0, true, .slice (some a) l.length cap), (3, true, .pointer (some ⟨ob, 0, none⟩)), (4, true, .pointer (some ⟨pb, 0, none⟩)), (5, true, .func (.func 38) #[] #[.pointer (some ⟨ob, 0, none⟩), .pointer (some ⟨pb, 0, none⟩)]), (7, true, .pointer (some ⟨bt, 0, none⟩)), (21, true, .slice (some a) l.length cap), (22, true, .int .i64 (l.length : Int)), (23, true, .int .i64 (i : Int))])
      (fun g => Cls (RI w.heap.size ob pb (if firstB (prv l i) t s = true then lineS t (s1, out1) else (s1, out1)).1 (if firstB (prv l i) t s = true then lineS t (s1, out1) else (s1, out1)).2 g [blk bt 51 (tc t)]) [w]) ?_ ?_
    · refine W.cond rfl (fun h1 => ?_) (fun h1 => ?_)
      · rw [h1]
        simp only [if_true]
        have hnl := lineN_le t s1
        apply W.seq
        apply W.reg
        apply oas; rfl; rfl
        apply OL.nil
        with_reducible apply At.next
        apply W.seq
        apply W.seq
        apply W.reg
        apply old; rfl; rfl; exact .tail _ (.head _); rfl; rfl
        refine OL.callE (α := BG × Nat) (fun x => .slice x.1.q (inn s1).length x.1.c) (fun x => w.heap.size ≤ x.2) (fun x => Cls (row x.2 x.1.O x.1.q (inn s1).length x.1.c 87 2 (cat cc (inn s1)) :: RI w.heap.size ob pb s1 out1 y1 [blk bt 51 (tc t)]) [w]) rfl rfl (by (repeat (first | exact Args.nil | (apply Args.cons rfl; ((first | exact fun _ => rfl | exact fun h => h | (intro h; simp_all; done))))))) (fun w2 hw2 => (blocks_calls y1.q y1.c s1 w2 (by omega) (SlAt.of_row (hw2.item (i := row w.heap.size y1.O y1.q s1.length y1.c 87 2 (cat cc s1.reverse)) (by (repeat (first | exact List.Mem.head _ | apply List.Mem.tail)))))).mono fun e w3 ⟨x, h1, _, h2⟩ => ⟨(x, w2.heap.size), h1, (hw2.kp w (.head _)).size, Cls.plus hw2 h2 (fun k hk => hk.1)⟩) ?_
        rintro ⟨⟨_, bq, bc, bO⟩, B9⟩ hB9
        simp only at hB9 ⊢
        apply OL.op; exact Guard.none; rfl; rfl; apply Pev.len_slice; rfl; exact yes; rfl
        apply omv; rfl; rfl
        apply OL.nil
        with_reducible apply At.next
        refine W.joinx (G := Unit) (fun _ => True)
          (fun _ => [(0, true, .slice (some a) l.length cap), (3, true, .pointer (some ⟨ob, 0, none⟩)), (4, true, .pointer (some ⟨pb, 0, none⟩)), (5, true, .func (.func 38) #[] #[.pointer (some ⟨ob, 0, none⟩), .pointer (some ⟨pb, 0, none⟩)]), (7, true, .pointer (some ⟨bt, 0, none⟩)), (21, true, .slice (some a) l.length cap), (22, true, .int .i64 (l.length : Int)), (23, true, .int .i64 (i : Int)), (14, true, .int .i64 ((lineN t s1 : Nat) : Int))])
          (fun _ => Cls (RI w.heap.size ob pb s1 out1 y1 [blk bt 51 (tc t)]) [w]) ?_ ?_
        · apply W.block
          refine W.loop (G := Nat) (fun k => k ≤ lineN t s1 ∧ k ≤ (inn s1).length) (fun k => (inn s1).length - k)
            (fun k => [(0, true, .slice (some a) l.length cap), (3, true, .pointer (some ⟨ob, 0, none⟩)), (4, true, .pointer (some ⟨pb, 0, none⟩)), (5, true, .func (.func 38) #[] #[.pointer (some ⟨ob, 0, none⟩), .pointer (some ⟨pb, 0, none⟩)]), (7, true, .pointer (some ⟨bt, 0, none⟩)), (21, true, .slice (some a) l.length cap), (22, true, .int .i64 (l.length : Int)), (23, true, .int .i64 (i : Int)), (14, true, .int .i64 (k : Int)), (143, true, .slice bq (inn s1).length bc), (144, true, .int .i64 ((inn s1).length : Int)), (145, true, .int .i64 (k : Int))])
            (fun k => Cls (row B9 bO bq (inn s1).length bc 87 2 (cat cc (inn s1)) :: RI w.heap.size ob pb s1 out1 y1 [blk bt 51 (tc t)]) [w]) 0 ⟨Nat.zero_le _, Nat.zero_le _⟩ (by (repeat (first | exact Sub.nil | apply Sub.cons rfl | (refine Sub.cons_eq rfl (congrArg (Value.int .i64) (by first | omega | (simp only; omega))) ?_)))) (fun w' hw' => hw') ?_
          rintro k ⟨hk, hk1⟩
          apply W.seq
          apply W.reg
          apply obn; rfl; rfl; rfl; apply Bin.lss
          apply OL.nil
          with_reducible apply At.next
          apply W.seq
          (refine W.cond rfl (fun hk2 => ?_) (fun hk2 => ?_)) <;> (try (simp only [Bool.and_eq_true, Bool.or_eq_true, Bool.not_eq_true', Bool.and_eq_false_iff, Bool.or_eq_false_iff, Bool.not_eq_false', decide_eq_true_eq, decide_eq_false_iff_not, Int.not_lt, Int.not_le] at hk2)) <;> (try (exfalso; first | omega | exact hk2 trivial | contradiction))
          · have hk3 : k < (inn s1).length := by omega
            obtain ⟨c, hL, hL2, _⟩ := inn_get hk3
            refine W.fact (φ := ∃ g0, bq = some ⟨g0, 0, none⟩) (fun w' hw' => row_some (hw'.item (.head _)) (by omega)) ?_
            rintro ⟨g0, rfl⟩
            apply W.skip
            with_reducible apply At.next
            apply W.seq
            apply W.block
            apply W.seq
            apply W.reg
            apply OL.op; exact Guard.none; rfl; rfl; apply Pev.idxB; rfl; exact yes; rfl; exact yes; rfl; intro hcond; omega; rfl
            apply OL.op; exact Guard.none; rfl; rfl; apply Pev.load_rowE; rfl; exact yes; exact .head _; rfl; exact fun _ => rfl; (intro hcond; assumption); (intro hcond; omega)
            apply OL.alloc; rfl; rfl; exact CellsL.agg; (intro bk hbk; simp only [AllLe, and_true] at hbk)
            apply OL.storeB; rfl; rfl; exact CellsL.agg; rfl; rfl; rfl; apply Swap.z; apply Put.here; apply Over.cons; apply Over.cons; apply Over.nil
            apply OL.nil
            with_reducible apply At.next
            apply W.seq
            apply W.seq
            apply W.reg
            apply ofa; rfl; rfl; rfl
            apply old; rfl; rfl; exact .head _; rfl; rfl
            apply ofa; rfl; rfl; rfl
            apply old; rfl; rfl; apply List.Mem.tail; apply List.Mem.tail; apply List.Mem.tail; apply List.Mem.tail; exact .tail _ (.tail _ (.head _)); rfl; rfl
            apply obn; rfl; rfl; rfl; apply Bin.leq
            apply OL.nil
            with_reducible apply At.next
            (refine W.cond rfl (fun hc => ?_) (fun hc => ?_)) <;> (try (simp only [Bool.and_eq_true, Bool.or_eq_true, Bool.not_eq_true', Bool.and_eq_false_iff, Bool.or_eq_false_iff, Bool.not_eq_false', decide_eq_true_eq, decide_eq_false_iff_not, Int.not_lt, Int.not_le] at hc)) <;> (try (exfalso; first | omega | exact hc trivial | contradiction))
            · have he := lineN_stop hk hL2 hc
              apply W.exit
              with_reducible apply At.then_exit
              apply At.in_other; rfl
              with_reducible apply At.then_exit
              with_reducible apply At.then_exit
              with_reducible apply At.in_exit
              refine At.joinedx () trivial (by rw [← he]; (repeat (first | exact Sub.nil | apply Sub.cons rfl | (refine Sub.cons_eq rfl (congrArg (Value.int .i64) (by first | omega | (simp only; omega))) ?_)))) (fun w' hw' => ?_)
              exact hw'.thin (Thin.blk (by simp only [AllLe, and_true]; omega) (Thin.row (by simp only [AllLe, and_true]; omega) Thin.same))
            · have hgo := lineN_go hk hL2 (by omega)
              apply W.skip
              with_reducible apply At.next
              apply W.reg
              apply omv; rfl; rfl
              apply obn; rfl; rfl; rfl; apply Bin.add_in; omega
              apply oas; rfl; rfl
              apply OL.nil
              with_reducible apply At.in_normal
              with_reducible apply At.next
              apply W.reg
              apply obn; rfl; rfl; rfl; apply Bin.add_in; omega
              apply omv; rfl; rfl
              apply OL.nil
              exact At.again (k + 1) ⟨hgo, by omega⟩ (by omega) (by (repeat (first | exact Sub.nil | apply Sub.cons rfl | (refine Sub.cons_eq rfl (congrArg (Value.int .i64) (by first | omega | (simp only; omega))) ?_)))) (fun w' hw' => hw'.thin (by (repeat (first | exact Thin.nil | exact Thin.same | apply Thin.keep | (refine Thin.blk (by assumption) ?_) | (refine Thin.blk (by simp only [AllLe, and_true]; omega) ?_)))))
          · have he := lineN_end g2 hk (by omega)
            apply W.exit
            with_reducible apply At.then_exit
            with_reducible apply At.then_exit
            with_reducible apply At.in_exit
            refine At.joinedx () trivial (by rw [← he]; (repeat (first | exact Sub.nil | apply Sub.cons rfl | (refine Sub.cons_eq rfl (congrArg (Value.int .i64) (by first | omega | (simp only; omega))) ?_)))) (fun w' hw' => ?_)
            exact hw'.thin (Thin.row (by simp only [AllLe, and_true]; omega) Thin.same)
        intro _ _
        apply W.seq
        apply W.reg
        apply omv; rfl; rfl
        apply omv; rfl; rfl
        apply OL.op; exact Guard.none; rfl; rfl; apply Pev.load_blkA; rfl; exact yes; apply List.Mem.tail; apply List.Mem.tail; exact .tail _ (.tail _ (.head _)); rfl; apply Take.succ; apply Take.succ; apply Take.succ; apply Take.succ; apply Take.succ; apply Take.zero
        refine OL.callvE (α := MY) (first := []) (cap := [.pointer (some ⟨ob, 0, none⟩), .pointer (some ⟨pb, 0, none⟩)]) (vs := [.int .i64 (((lineN t s1) : Nat) : Int), .agg (tc t).toArray]) (fun _ => .tuple #[]) (fun _ => True) (fun y3 => Cls (RI w.heap.size ob pb (shutN (lineN t s1) t (s1, out1)).1 (shutN (lineN t s1) t (s1, out1)).2 y3 [blk bt 51 (tc t)]) [w]) rfl rfl rfl (by (repeat (first | exact Args.nil | (apply Args.cons rfl; ((first | exact fun _ => rfl | exact fun h => h | (intro h; simp_all; done))))))) (fun w2 hw2 => rshut_calls w.heap.size ob pb s1 out1 y1 ((lineN t s1)) t _ [w] w2 (hnl) (by omega) ⟨w, .head _, Nat.le_refl _⟩ hw2) ?_
        intro y2 _
        have hd1 : (shutN (lineN t s1) t (s1, out1)).1 = s1.drop (lineN t s1) := rfl
        have hd2 : (shutN (lineN t s1) t (s1, out1)).2 = out1 ++ List.replicate (lineN t s1) (tk 7 t) := rfl
        have hdl : (s1.drop (lineN t s1)).length = s1.length - lineN t s1 := List.length_drop
        have hlo : (out1 ++ List.replicate (lineN t s1) (tk 7 t)).length = out1.length + lineN t s1 := by simp
        unfold lineS
        rw [hd1, hd2]
        generalize s1.drop (lineN t s1) = s2 at hdl ⊢
        generalize out1 ++ List.replicate (lineN t s1) (tk 7 t) = out2 at hlo ⊢
        simp only
        apply OL.nil
        with_reducible apply At.next
        apply W.seq
        apply W.reg
        apply old; rfl; rfl; exact .tail _ (.head _); rfl; rfl
        refine OL.callE (α := BG × Nat) (fun x => .slice x.1.q (inn s2).length x.1.c) (fun x => w.heap.size ≤ x.2) (fun x => Cls (row x.2 x.1.O x.1.q (inn s2).length x.1.c 87 2 (cat cc (inn s2)) :: RI w.heap.size ob pb s2 out2 y2 [blk bt 51 (tc t)]) [w]) rfl rfl (by (repeat (first | exact Args.nil | (apply Args.cons rfl; ((first | exact fun _ => rfl | exact fun h => h | (intro h; simp_all; done))))))) (fun w2 hw2 => (blocks_calls y2.q y2.c s2 w2 (by omega) (SlAt.of_row (hw2.item (i := row w.heap.size y2.O y2.q s2.length y2.c 87 2 (cat cc s2.reverse)) (by (repeat (first | exact List.Mem.head _ | apply List.Mem.tail)))))).mono fun e w3 ⟨x, h1, _, h2⟩ => ⟨(x, w2.heap.size), h1, (hw2.kp w (.head _)).size, Cls.plus hw2 h2 (fun k hk => hk.1)⟩) ?_
        rintro ⟨⟨_, bq, bc, bO⟩, B9⟩ hB9
        simp only at hB9 ⊢
        have fin : ∀ (y3 : MY), (topX s2).col ≠ t.col → ∀ w', Cls (row B9 bO bq (inn s2).length bc 87 2 (cat cc (inn s2)) :: RI w.heap.size ob pb s2 out2 y3 [blk bt 51 (tc t)]) [w] w' → Cls (RI w.heap.size ob pb s2 (out2 ++ if (topX s2).col = t.col then [tk 8 t] else []) y3 [blk bt 51 (tc t)]) [w] w' := fun y3 hne w' hw' => by
          rw [if_neg hne, List.append_nil]
          exact hw'.thin (Thin.row (by simp only [AllLe, and_true]; omega) Thin.same)
        cases hin : inn s2 with
        | nil =>
          have hne : (topX s2).col ≠ t.col := by
            cases s2 with
            | nil => show (0 : Int) ≠ t.col; omega
            | cons c r =>
              have : ¬ 0 < c.col := inn_end (s := c :: r) (r := r) (by rw [hin]; rfl)
              show c.col ≠ t.col
              omega
          rw [hin] at fin
          simp only [List.length_nil] at fin ⊢
          apply oas; rfl; rfl
          apply OL.nil
          with_reducible apply At.next
          apply W.seq
          apply W.regd0; decide +kernel; kernel_rfl; decide +kernel; exact fun w hw => hw.drew
          apply qmv; rfl; rfl
          apply QL.op; exact Guard.none; rfl; rfl; apply Pev.len_slice; rfl; exact yes; rfl
          apply qbn; rfl; rfl; rfl; apply Bin.gtr
          apply qmv; rfl; rfl
          apply QL.op; exact Guard.yes rfl rfl; rfl; rfl; apply Pev.move; rfl; exact yes
          apply QL.gateOff; exact Guard.yes rfl rfl; rfl; rfl
          apply QL.gateOff; exact Guard.yes rfl rfl; rfl; rfl
          apply QL.gateOff; exact Guard.yes rfl rfl; rfl; rfl
          apply QL.op; exact Guard.yes rfl rfl; rfl; rfl; apply Pev.fld; rfl; exact yes; rfl
          apply QL.op; exact Guard.yes rfl rfl; rfl; rfl; apply Pev.load_blk; rfl; exact fun h => h; apply List.Mem.tail; apply List.Mem.tail; apply List.Mem.tail; exact .tail _ (.tail _ (.head _)); rfl; rfl
          apply QL.gateOff; exact Guard.yes rfl rfl; rfl; rfl
          apply QL.op; exact Guard.none; rfl; rfl; apply Pev.pick_off; rfl; exact yes; (intro hcond; rfl); rfl; exact yes
          apply QL.nil
          with_reducible apply At.next
          refine W.cond rfl (fun h => by cases h) (fun _ => ?_)
          apply W.skip
          exact At.joinedx y2 trivial (by (repeat (first | exact Sub.nil | apply Sub.cons rfl | (refine Sub.cons_eq rfl (congrArg (Value.int .i64) (by first | omega | (simp only; omega))) ?_)))) (fun w' hw' => fin y2 hne w' hw')
        | cons c r =>
          have hL : (c :: r)[0]? = some c := rfl
          have htop : topX s2 = c := by
            cases s2 with
            | nil => cases hin
            | cons c' r' =>
              unfold inn at hin
              rw [List.takeWhile_cons] at hin
              split at hin
              · exact (List.cons.inj hin).1
              · cases hin
          rw [htop] at fin ⊢
          rw [hin] at fin
          simp only [List.length_cons, RI] at fin ⊢
          refine OL.fact (φ := ∃ g0, bq = some ⟨g0, 0, none⟩) (fun w' hw' => row_some (hw'.item (.head _)) (by omega)) ?_
          rintro ⟨g0, rfl⟩
          apply oas; rfl; rfl
          apply OL.nil
          with_reducible apply At.next
          apply W.seq
          apply W.regd0; decide +kernel; kernel_rfl; decide +kernel; exact fun w hw => hw.drew
          apply qmv; rfl; rfl
          apply QL.op; exact Guard.none; rfl; rfl; apply Pev.len_slice; rfl; exact yes; rfl
          apply qbn; rfl; rfl; rfl; apply Bin.gtr
          apply qmv; rfl; rfl
          apply QL.op; exact Guard.yes rfl rfl; rfl; rfl; apply Pev.move; rfl; exact yes
          apply QL.op; exact Guard.yes rfl rfl; rfl; rfl; apply Pev.idxB; rfl; exact fun h => h; rfl; exact yes; rfl; intro hcond; omega; rfl
          apply QL.op; exact Guard.yes rfl rfl; rfl; rfl; apply Pev.fld; rfl; exact fun h => h; rfl
          apply QL.op; exact Guard.yes rfl rfl; rfl; rfl; apply Pev.load_rowC; rfl; exact fun h => h; exact .head _; rfl; exact fun _ => rfl; (intro hcond; assumption); rfl; (intro hcond; omega)
          apply QL.op; exact Guard.yes rfl rfl; rfl; rfl; apply Pev.fld; rfl; exact yes; rfl
          apply QL.op; exact Guard.yes rfl rfl; rfl; rfl; apply Pev.load_blk; rfl; exact fun h => h; apply List.Mem.tail; apply List.Mem.tail; apply List.Mem.tail; exact .tail _ (.tail _ (.head _)); rfl; rfl
          apply QL.op; exact Guard.yes rfl rfl; rfl; rfl; apply Pev.bin; rfl; exact fun h => h; rfl; exact fun h => h; intro hcond; apply Bin.eql
          apply QL.op; exact Guard.none; rfl; rfl; apply Pev.pick_and; rfl; exact yes; rfl; exact fun h => h
          apply QL.nil
          with_reducible apply At.next
          refine W.cond rfl (fun h2 => ?_) (fun h2 => ?_)
          · have h3 : c.col = t.col := by
              rw [Bool.and_eq_true] at h2
              exact of_decide_eq_true h2.2
            rw [if_pos h3]
            apply W.regz; apply ZSplit.pure rfl; apply ZSplit.pure rfl; apply ZSplit.tail; apply ZSplit.tail; apply ZSplit.tail; apply ZSplit.tail; exact ZSplit.nil; kernel_rfl; decide +kernel; exact fun w hw => hw.drew
            apply ZL.ld rfl; exact Guard.none; rfl; rfl; apply Pev.load_blk; rfl; exact yes; exact .tail _ (.head _); rfl; rfl
            apply ZL.ld rfl; exact Guard.none; rfl; rfl; apply Pev.load_blkA; rfl; exact yes; apply List.Mem.tail; apply List.Mem.tail; apply List.Mem.tail; exact .tail _ (.tail _ (.head _)); rfl; apply Take.succ; apply Take.succ; apply Take.succ; apply Take.succ; apply Take.succ; apply Take.zero
            apply ZL.nil
            apply TL.one rfl
            (((first | (with_reducible apply OL.op) | (with_reducible apply QL.op)); ((first | exact Guard.none | exact Guard.yes rfl rfl | exact Guard.no rfl rfl | exact Guard.cyes rfl rfl | exact Guard.cno rfl rfl)); rfl; rfl); (exact Pev.call rfl (by (repeat (first | exact Args.nil | (apply Args.cons rfl; ((first | exact fun _ => rfl | exact fun h => h | (intro h; simp_all; done))))))) (fun _ w2 hw2 => (virtual_calls 8 t w2).mono (fun e w3 h => ⟨h.1, hw2.ext h.2⟩))))
            apply OL.nil
            with_reducible apply At.tk; exact fun w hw => hw
            apply TL.one rfl
            apply OL.buildSlice; rfl; rfl; rfl; apply Elems.cons rfl; exact CellsL.agg; rfl; apply Elems.nil; apply App.cons; apply App.cons; apply App.cons; apply App.cons; apply App.cons; apply App.nil; rfl; rfl; (intro bk hbk; simp only [AllLe, and_true] at hbk)
            apply OL.nil
            refine At.tk (fun w hw => hw.thin ?_) ?_; refine Thin.blk (by simp only [AllLe, and_true]; omega) ?_; exact Thin.same
            apply TL.one rfl
            apply OL.append; rfl; rfl; rfl; rfl; apply Hole.s; apply Hole.s; apply Hole.s; apply Hole.s; apply Hole.s; apply Hole.z; exact .head _; apply Take.succ; apply Take.succ; apply Take.succ; apply Take.succ; apply Take.succ; apply Take.zero; rfl; rfl; exact ⟨_, .head _, Nat.le_refl _⟩; omega; intro O1 g1 cap1
            apply OL.nil
            with_reducible apply At.tn; decide +kernel
            apply TL.one rfl
            apply OL.storeB; rfl; rfl; exact CellsL.one rfl; rfl; rfl; rfl; apply Swap.s; apply Swap.s; apply Swap.z; apply Put.here; apply Over.cons; apply Over.nil
            apply OL.nil
            with_reducible apply At.tn; decide +kernel
            apply TL.nil
            with_reducible apply At.np
            refine At.joinedx ⟨y2.q, y2.c, y2.O, some ⟨g1, 0, none⟩, cap1, O1⟩ trivial (by (repeat (first | exact Sub.nil | apply Sub.cons rfl | (refine Sub.cons_eq rfl (congrArg (Value.int .i64) (by first | omega | (simp only; omega))) ?_)))) (fun w' hw' => ?_)
            have eo : cat tc (out2 ++ [tk 8 t]) = cat tc out2 ++ tc (tk 8 t) := by rw [cat_append, cat_one]
            simp only [RI, List.length_append, List.length_cons, List.length_nil, Nat.zero_add, eo]
            exact hw'.thin (Thin.blk (by simp only [AllLe, and_true]; omega) (Thin.row (by simp only [AllLe, and_true]; omega) Thin.same))
          · have h3 : c.col ≠ t.col := fun h => by
              rw [Bool.and_eq_false_iff] at h2
              rcases h2 with h2 | h2
              · simp at h2
                try omega
              · exact of_decide_eq_false h2 h
            apply W.skip
            exact At.joinedx y2 trivial (by (repeat (first | exact Sub.nil | apply Sub.cons rfl | (refine Sub.cons_eq rfl (congrArg (Value.int .i64) (by first | omega | (simp only; omega))) ?_)))) (fun w' hw' => fin y2 h3 w' hw')
      · rw [h1]
        simp only [Bool.false_eq_true, if_false]
        apply W.skip
        exact At.joinedx y1 trivial (by (repeat (first | exact Sub.nil | apply Sub.cons rfl | (refine Sub.cons_eq rfl (congrArg (Value.int .i64) (by first | omega | (simp only; omega))) ?_)))) (fun w' hw' => hw')
    intro y2 _
    have hz2 : szS (if firstB (prv l i) t s = true then lineS t (s1, out1) else (s1, out1)) ≤ 60000 := by
      have := lineS_sz (t := t) (x := (s1, out1))
      unfold szS at this ⊢
      simp only at this
      split
      · omega
      · simp only; omega
    revert hrest hS1 hS2 hz2
    generalize (if firstB (prv l i) t s = true then lineS t (s1, out1) else (s1, out1)) = x2
    obtain ⟨s2, out2⟩ := x2
    intro hrest hS1 hS2 hz2
    unfold szS at hz2
    simp only at hz2
    have hel := ends_le s2 t
    simp only [RI]
    have hends := fun w2 (hw2 : Cls (RI w.heap.size ob pb s2 out2 y2 [blk bt 51 (tc t)]) [w] w2) => Ends_calls y2.q y2.c s2 t w2 (by omega) (SlAt.of_row (hw2.item (i := row w.heap.size y2.O y2.q s2.length y2.c 87 2 (cat cc s2.reverse)) (by (repeat (first | exact List.Mem.head _ | apply List.Mem.tail)))))
    apply W.seq
    apply W.reg
    apply old; rfl; rfl; exact .tail _ (.head _); rfl; rfl
    apply OL.op; exact Guard.none; rfl; rfl; apply Pev.load_blkA; rfl; exact yes; apply List.Mem.tail; apply List.Mem.tail; exact .tail _ (.tail _ (.head _)); rfl; apply Take.succ; apply Take.succ; apply Take.succ; apply Take.succ; apply Take.succ; apply Take.zero
    (((first | (with_reducible apply OL.op) | (with_reducible apply QL.op)); ((first | exact Guard.none | exact Guard.yes rfl rfl | exact Guard.no rfl rfl | exact Guard.cyes rfl rfl | exact Guard.cno rfl rfl)); rfl; rfl); (exact Pev.call rfl (by (repeat (first | exact Args.nil | (apply Args.cons rfl; ((first | exact fun _ => rfl | exact fun h => h | (intro h; simp_all; done))))))) (fun _ w2 hw2 => (hends w2 hw2).mono (fun e w3 h => ⟨h.1, hw2.ext h.2⟩))))
    apply omv; rfl; rfl
    apply oex; rfl; rfl; rfl
    apply oex; rfl; rfl; rfl
    apply oas; rfl; rfl
    apply oas; rfl; rfl
    apply OL.nil
    with_reducible apply At.next
    apply W.seq
    apply W.reg
    apply omv; rfl; rfl
    apply omv; rfl; rfl
    apply OL.op; exact Guard.none; rfl; rfl; apply Pev.load_blkA; rfl; exact yes; apply List.Mem.tail; apply List.Mem.tail; exact .tail _ (.tail _ (.head _)); rfl; apply Take.succ; apply Take.succ; apply Take.succ; apply Take.succ; apply Take.succ; apply Take.zero
    refine OL.callvE (α := MY) (first := []) (cap := [.pointer (some ⟨ob, 0, none⟩), .pointer (some ⟨pb, 0, none⟩)]) (vs := [.int .i64 (((ends s2 t).1 : Nat) : Int), .agg (tc t).toArray]) (fun _ => .tuple #[]) (fun _ => True) (fun y3 => Cls (RI w.heap.size ob pb (shutN (ends s2 t).1 t (s2, out2)).1 (shutN (ends s2 t).1 t (s2, out2)).2 y3 [blk bt 51 (tc t)]) [w]) rfl rfl rfl (by (repeat (first | exact Args.nil | (apply Args.cons rfl; ((first | exact fun _ => rfl | exact fun h => h | (intro h; simp_all; done))))))) (fun w2 hw2 => rshut_calls w.heap.size ob pb s2 out2 y2 ((ends s2 t).1) t _ [w] w2 (hel) (by omega) ⟨w, .head _, Nat.le_refl _⟩ hw2) ?_
    intro y3 _
    have hd1 : (shutN (ends s2 t).1 t (s2, out2)).1 = s2.drop (ends s2 t).1 := rfl
    have hd2 : (shutN (ends s2 t).1 t (s2, out2)).2 = out2 ++ List.replicate (ends s2 t).1 (tk 7 t) := rfl
    have hdl : (s2.drop (ends s2 t).1).length = s2.length - (ends s2 t).1 := List.length_drop
    have hlo : (out2 ++ List.replicate (ends s2 t).1 (tk 7 t)).length = out2.length + (ends s2 t).1 := by simp
    have hbr := ends_br s2 t
    unfold endsS at hrest hS1 hS2
    simp only at hrest hS1 hS2
    rw [hd1, hd2]
    generalize s2.drop (ends s2 t).1 = s3 at hrest hS1 hS2 hdl ⊢
    generalize out2 ++ List.replicate (ends s2 t).1 (tk 7 t) = out3 at hrest hS1 hS2 hlo ⊢
    generalize (ends s2 t).2 = br at hrest hS1 hS2 hbr ⊢
    simp only [RI]
    apply OL.nil
    with_reducible apply At.next
    apply W.seq
    apply W.seq
    apply W.reg
    apply omv; rfl; rfl
    apply OL.nil
    with_reducible apply At.next
    refine W.joinx (G := MY) (fun _ => True)
      (fun g => [(0, true, .slice (some a) l.length cap), (3, true, .pointer (some ⟨ob, 0, none⟩)), (4, true, .pointer (some ⟨pb, 0, none⟩)), (5, true, .func (.func 38) #[] #[.pointer (some ⟨ob, 0, none⟩), .pointer (some ⟨pb, 0, none⟩)]), (7, true, .pointer (some ⟨bt, 0, none⟩)), (21, true, .slice (some a) l.length cap), (22, true, .int .i64 (l.length : Int)), (23, true, .int .i64 (i : Int))])
      (fun g => Cls (RI w.heap.size ob pb (if br = true then s3.drop 1 else s3) out3 g [blk bt 51 (tc t)]) [w]) ?_ ?_
    · refine W.cond rfl (fun h1 => ?_) (fun h1 => ?_)
      · subst h1
        have := hbr rfl
        cases s3 with
        | nil => simp only [List.length_nil] at hdl; omega
        | cons c r =>
          simp only [if_true, List.drop_succ_cons, List.drop_zero, List.length_cons]
          simp only [List.length_cons] at hdl
          refine W.fact (φ := r.length + 1 ≤ y3.c) (fun w' hw' => row_cap (hw'.item (.tail _ (.tail _ (.head _))))) (fun hcap => ?_)
          apply W.reg
          apply old; rfl; rfl; exact .tail _ (.head _); rfl; rfl
          apply old; rfl; rfl; exact .tail _ (.head _); rfl; rfl
          apply OL.op; exact Guard.none; rfl; rfl; apply Pev.len_slice; rfl; exact yes; rfl
          apply obn; rfl; rfl; rfl; apply Bin.sub_in; omega
          apply OL.op; exact Guard.none; rfl; rfl; apply Pev.slice_hi; rfl; exact yes; rfl; exact yes; rfl; (first | exact (Int.toNat_of_nonneg (by omega)).symm | omega); intro hcond; omega
          apply OL.storeB; rfl; rfl; exact CellsL.one rfl; rfl; rfl; rfl; apply Swap.s; apply Swap.z; apply Put.here; apply Over.cons; apply Over.nil
          apply OL.nil
          refine At.joinedx y3 trivial (by (repeat (first | exact Sub.nil | apply Sub.cons rfl | (refine Sub.cons_eq rfl (congrArg (Value.int .i64) (by first | omega | (simp only; omega))) ?_)))) (fun w' hw' => ?_)
          rw [show ((r.length + 1 : Nat) : Int) - 1 = (r.length : Nat) by omega, Int.toNat_natCast] at hw'
          exact Cls.rowPop (p := 2) r.length (cat cc r.reverse) (.s (.s .z)) (by omega) (by rw [List.reverse_cons, cat_append, ← List.length_reverse, ← cat_length clen, List.take_left]) hw'
      · subst h1
        simp only [Bool.false_eq_true, if_false]
        apply W.skip
        exact At.joinedx y3 trivial (by (repeat (first | exact Sub.nil | apply Sub.cons rfl | (refine Sub.cons_eq rfl (congrArg (Value.int .i64) (by first | omega | (simp only; omega))) ?_)))) (fun w' hw' => hw')
    intro y4 _
    have hl4 : (if br = true then s3.drop 1 else s3).length ≤ s3.length := by
      split
      · rw [List.length_drop]; omega
      · omega
    generalize (if br = true then s3.drop 1 else s3) = s4 at hl4 hrest hS1 hS2 ⊢
    simp only [RI]
    apply W.seq
    apply W.reg
    apply old; rfl; rfl; exact .head _; rfl; rfl
    apply OL.op; exact Guard.none; rfl; rfl; apply Pev.load_blkA; rfl; exact yes; apply List.Mem.tail; apply List.Mem.tail; exact .tail _ (.tail _ (.head _)); rfl; apply Take.succ; apply Take.succ; apply Take.succ; apply Take.succ; apply Take.succ; apply Take.zero
    apply OL.buildSlice; rfl; rfl; rfl; apply Elems.cons rfl; exact CellsL.agg; rfl; apply Elems.nil; apply App.cons; apply App.cons; apply App.cons; apply App.cons; apply App.cons; apply App.nil; rfl; rfl; (intro bk hbk; simp only [AllLe, and_true] at hbk)
    apply OL.append; rfl; rfl; rfl; rfl; apply Hole.s; apply Hole.s; apply Hole.s; apply Hole.s; apply Hole.z; exact .head _; apply Take.succ; apply Take.succ; apply Take.succ; apply Take.succ; apply Take.succ; apply Take.zero; rfl; rfl; exact ⟨_, .head _, Nat.le_refl _⟩; omega; intro O1 g1 cap1
    apply OL.storeB; rfl; rfl; exact CellsL.one rfl; rfl; rfl; rfl; apply Swap.s; apply Swap.z; apply Put.here; apply Over.cons; apply Over.nil
    apply OL.nil
    with_reducible apply At.next
    apply W.seq
    apply W.reg
    apply ofa; rfl; rfl; rfl
    apply old; rfl; rfl; apply List.Mem.tail; apply List.Mem.tail; apply List.Mem.tail; exact .tail _ (.tail _ (.head _)); rfl; rfl
    apply obn; rfl; rfl; rfl; apply Bin.eql
    apply omv; rfl; rfl
    apply OL.op; exact Guard.yes rfl rfl; rfl; rfl; apply Pev.fld; rfl; exact yes; rfl
    apply OL.op; exact Guard.yes rfl rfl; rfl; rfl; apply Pev.load_blk; rfl; exact fun h => h; apply List.Mem.tail; apply List.Mem.tail; apply List.Mem.tail; exact .tail _ (.tail _ (.head _)); rfl; rfl
    apply OL.op; exact Guard.yes rfl rfl; rfl; rfl; apply Pev.bin; rfl; exact fun h => h; rfl; exact yes; intro hcond; apply Bin.str_eql
    apply OL.op; exact Guard.yes rfl rfl; rfl; rfl; apply Pev.move; rfl; exact fun h => h
    apply OL.op; exact Guard.cno rfl rfl; rfl; rfl; apply Pev.fld; rfl; exact yes; rfl
    apply OL.op; exact Guard.cno rfl rfl; rfl; rfl; apply Pev.load_blk; rfl; exact fun h => h; apply List.Mem.tail; apply List.Mem.tail; apply List.Mem.tail; exact .tail _ (.tail _ (.head _)); rfl; rfl
    apply OL.op; exact Guard.cno rfl rfl; rfl; rfl; apply Pev.bin; rfl; exact fun h => h; rfl; exact yes; intro hcond; apply Bin.str_eql
    apply OL.op; exact Guard.yes rfl rfl; rfl; rfl; apply Pev.pick_or; rfl; exact fun h => h; rfl; exact fun h => h
    apply OL.op; exact Guard.none; rfl; rfl; apply Pev.pick_and; rfl; exact yes; rfl; exact fun h => h
    apply OL.nil
    with_reducible apply At.next
    revert O1 g1 cap1
    intro O0 g0 c0
    have e5 : cat tc (out3 ++ [t]) = cat tc out3 ++ tc t := by rw [cat_append, cat_one]
    rw [isT_or]
    refine W.cond rfl (fun h1 => ?_) (fun h1 => ?_)
    · have hb : brk t (s4, out3 ++ [t]) = (⟨0, ⟨#[]⟩⟩ :: s4, out3 ++ [t]) := by unfold brk; rw [if_pos h1]
      rw [hb] at hrest hS1 hS2
      apply W.reg
      apply old; rfl; rfl; exact .tail _ (.tail _ (.head _)); rfl; rfl
      apply OL.op; exact Guard.none; rfl; rfl; apply Pev.build; rfl; exact CellsL.agg; rfl; apply Fill.nil; rfl
      apply OL.buildSlice; rfl; rfl; rfl; apply Elems.cons rfl; exact CellsL.agg; rfl; apply Elems.nil; apply App.cons; apply App.cons; apply App.nil; rfl; rfl; (intro bk hbk; simp only [AllLe, and_true] at hbk)
      apply OL.append; rfl; rfl; rfl; rfl; apply Hole.s; apply Hole.s; apply Hole.s; apply Hole.s; apply Hole.z; exact .head _; apply Take.succ; apply Take.succ; apply Take.zero; rfl; rfl; exact ⟨_, .head _, Nat.le_refl _⟩; omega; intro O1 g1 cap1
      apply OL.storeB; rfl; rfl; exact CellsL.one rfl; rfl; rfl; rfl; apply Swap.s; apply Swap.s; apply Swap.s; apply Swap.z; apply Put.here; apply Over.cons; apply Over.nil
      apply OL.nil
      with_reducible apply At.in_normal
      with_reducible apply At.next
      apply W.reg
      apply obn; rfl; rfl; rfl; apply Bin.add_in; omega
      apply omv; rfl; rfl
      apply OL.nil
      refine At.again ⟨i + 1, (⟨0, ⟨#[]⟩⟩ :: s4, out3 ++ [t]), ⟨some ⟨g1, 0, none⟩, cap1, O1, some ⟨g0, 0, none⟩, c0, O0⟩⟩ ⟨hi1, by rw [prv_succ ht]; exact hrest, hS2, ?_⟩ (by simp only; omega) (by (repeat (first | exact Sub.nil | apply Sub.cons rfl | (refine Sub.cons_eq rfl (congrArg (Value.int .i64) (by first | omega | (simp only; omega))) ?_)))) (fun w' hw' => ?_)
      · unfold szS at hS1 ⊢; simp only at hS1 ⊢; omega
      · have e6 : cat cc (⟨0, ⟨#[]⟩⟩ :: s4).reverse = cat cc s4.reverse ++ [.int .i64 0, .string ⟨#[]⟩] := by rw [List.reverse_cons, cat_append, cat_one]; rfl
        simp only [RI, List.length_append, List.length_cons, List.length_nil, Nat.zero_add, e5, e6]
        exact hw'.thin (by (repeat (first | exact Thin.nil | exact Thin.same | apply Thin.keep | (refine Thin.blk (by assumption) ?_) | (refine Thin.blk (by simp only [AllLe, and_true]; omega) ?_))))
    · have hb : brk t (s4, out3 ++ [t]) = (s4, out3 ++ [t]) := by unfold brk; rw [if_neg (by rw [h1]; simp)]
      rw [hb] at hrest hS1 hS2
      apply W.skip
      with_reducible apply At.in_normal
      with_reducible apply At.next
      apply W.reg
      apply obn; rfl; rfl; rfl; apply Bin.add_in; omega
      apply omv; rfl; rfl
      apply OL.nil
      refine At.again ⟨i + 1, (s4, out3 ++ [t]), ⟨y4.q, y4.c, y4.O, some ⟨g0, 0, none⟩, c0, O0⟩⟩ ⟨hi1, by rw [prv_succ ht]; exact hrest, hS2, ?_⟩ (by simp only; omega) (by (repeat (first | exact Sub.nil | apply Sub.cons rfl | (refine Sub.cons_eq rfl (congrArg (Value.int .i64) (by first | omega | (simp only; omega))) ?_)))) (fun w' hw' => ?_)
      · unfold szS at hS1 ⊢; simp only at hS1 ⊢; omega
      · simp only [RI, List.length_append, List.length_cons, List.length_nil, Nat.zero_add, e5]
        exact hw'.thin (by (repeat (first | exact Thin.nil | exact Thin.same | apply Thin.keep | (refine Thin.blk (by assumption) ?_) | (refine Thin.blk (by simp only [AllLe, and_true]; omega) ?_))))
end Go.Proofs.Ytlcclcakdfmgkaa.ly
