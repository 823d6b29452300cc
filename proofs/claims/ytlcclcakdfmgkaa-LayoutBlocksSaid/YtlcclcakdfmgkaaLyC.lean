/- The walks of the marker's inner and before. Conditions: none. -/
import Derived.Test.YtlcclcakdfmgkaaLyB
namespace Go.Proofs.Ytlcclcakdfmgkaa.ly
open Go.RowKit Go.Eng Go.Ly
set_option linter.unusedVariables false
set_option linter.unusedSimpArgs false
set_option maxRecDepth 100000

theorem inner_calls (B mb : Nat) (s : List Cx) (out : List Tok) (y : MY) (H : List Eng.Item) (S : List World) (w : World) (hlen : s.length ≤ 1000000) (hc : Cls (MI B mb s out y H) S w) :
    Calls Try.prog 52 #[.pointer (some ⟨mb, 0, none⟩)] w fun e w' => e = .returned (.slice (cutq y.q y.c (s.length - (inn s).length) 2) (inn s).length (y.c - (s.length - (inn s).length))) ∧ Cls (MI B mb s out y H) S w' := by
  have hle : (inn s).length ≤ s.length := (List.takeWhile_sublist _).length_le
  have hcap := row_cap (hc.item (.tail _ (.head _)))
  refine enter Try.func52 rfl Try.ntmps52 rfl hc ?_
  (simp only [argEnv, Nat.zero_add, Nat.reduceAdd])
  apply W.seq
  apply W.reg
  apply oas; rfl; rfl
  apply OL.nil
  with_reducible apply At.next
  apply W.seq
  apply W.reg
  apply omv; rfl; rfl
  apply OL.op; exact Guard.none; rfl; rfl; apply Pev.nil_ptr; rfl; exact yes
  apply ofa; rfl; rfl; rfl
  apply old; rfl; rfl; exact .head _; rfl; rfl
  apply OL.op; exact Guard.none; rfl; rfl; apply Pev.len_slice; rfl; exact yes; rfl
  apply oas; rfl; rfl
  apply OL.nil
  with_reducible apply At.next
  apply W.seq
  apply W.block
  refine W.loop (G := Nat) (fun i => i ≤ (inn s).length) (fun i => (inn s).length - i)
    (fun i => [(0, true, .pointer (some ⟨mb, 0, none⟩)), (3, true, .int .i64 ((s.length : Int) - i))])
    (fun i => Cls (MI B mb s out y H) S) 0 (Nat.zero_le _) (by (repeat (first | exact Sub.nil | apply Sub.cons rfl | (refine Sub.cons_eq rfl (congrArg (Value.int .i64) (by omega)) ?_)))) (fun w' hw' => hw') ?_
  intro i hi
  rcases Nat.lt_or_ge i s.length with hil | hil
  · obtain ⟨q, cq, O, q2, c2, O2⟩ := y
    refine W.fact (φ := ∃ g0, q = some ⟨g0, 0, none⟩) (fun w' hw' => row_some (hw'.item (.tail _ (.head _))) (by omega)) ?_
    rintro ⟨g0, rfl⟩
    obtain ⟨c, hc0⟩ : ∃ c, s[i]? = some c := ⟨_, List.getElem?_eq_getElem hil⟩
    have hL : s.reverse[s.length - 1 - i]? = some c := by rw [List.getElem?_reverse (by omega), show s.length - 1 - (s.length - 1 - i) = i by omega]; exact hc0
    simp only [MI]
    apply W.seq
    apply W.seq
    apply W.reg
    apply omv; rfl; rfl
    apply obn; rfl; rfl; rfl; apply Bin.gtr
    apply omv; rfl; rfl
    apply OL.op; exact Guard.yes rfl rfl; rfl; rfl; apply Pev.move; rfl; exact yes
    apply OL.op; exact Guard.yes rfl rfl; rfl; rfl; apply Pev.nil_ptr; rfl; exact fun h => h
    apply OL.op; exact Guard.yes rfl rfl; rfl; rfl; apply Pev.fld; rfl; exact fun h => h; rfl
    apply OL.op; exact Guard.yes rfl rfl; rfl; rfl; apply Pev.load_blk; rfl; exact fun h => h; exact .head _; rfl; rfl
    apply OL.op; exact Guard.yes rfl rfl; rfl; rfl; apply Pev.move; rfl; exact yes
    apply OL.op; exact Guard.yes rfl rfl; rfl; rfl; apply Pev.bin; rfl; exact fun h => h; rfl; exact yes; intro hcond; apply Bin.sub_in; omega
    apply OL.op; exact Guard.yes rfl rfl; rfl; rfl; apply Pev.idxB; rfl; exact fun h => h; rfl; exact fun h => h; rfl; intro hcond; omega; rfl
    apply OL.op; exact Guard.yes rfl rfl; rfl; rfl; apply Pev.fld; rfl; exact fun h => h; rfl
    apply OL.op; exact Guard.yes rfl rfl; rfl; rfl; apply Pev.load_rowC; rfl; exact fun h => h; exact .tail _ (.head _); rfl; exact fun _ => rfl; (intro hcond; assumption); rfl; (intro hcond; omega)
    apply OL.op; exact Guard.yes rfl rfl; rfl; rfl; apply Pev.bin; rfl; exact fun h => h; rfl; exact yes; intro hcond; apply Bin.gtr
    apply OL.op; exact Guard.none; rfl; rfl; apply Pev.pick_and; rfl; exact yes; rfl; exact fun h => h
    apply OL.nil
    with_reducible apply At.next
    refine W.cond rfl (fun hb => ?_) (fun hb => ?_)
    · simp only [Bool.and_eq_true, decide_eq_true_eq] at hb
      have hlt := tw_yes (p := posX) hi (r := s.drop (i + 1)) (by rw [List.getElem?_eq_getElem hil] at hc0; rw [List.drop_eq_getElem_cons hil, Option.some.inj hc0]) (decide_eq_true hb.2)
      apply W.skip
      with_reducible apply At.next
      apply W.block
      apply W.reg
      apply omv; rfl; rfl
      apply obn; rfl; rfl; rfl; apply Bin.sub_in; omega
      apply oas; rfl; rfl
      apply OL.nil
      with_reducible apply At.in_normal
      exact At.again (i + 1) hlt (by unfold inn; omega) (by (repeat (first | exact Sub.nil | apply Sub.cons rfl | (refine Sub.cons_eq rfl (congrArg (Value.int .i64) (by omega)) ?_)))) (fun w' hw' => hw')
    · have he := tw_no (p := posX) hi (fun c' r hd => by
        rw [List.drop_eq_getElem_cons hil] at hd
        rw [List.getElem?_eq_getElem hil] at hc0
        rw [Option.some.inj hc0] at hd
        rw [← (List.cons.inj hd).1]
        refine decide_eq_false fun hc2 => ?_
        simp only [Bool.and_eq_false_iff, decide_eq_false_iff_not] at hb
        rcases hb with hb | hb
        · omega
        · exact hb hc2)
      apply W.exit
      with_reducible apply At.then_exit
      with_reducible apply At.then_exit
      with_reducible apply At.in_exit
      with_reducible apply At.next
      apply W.seq
      apply W.reg
      apply omv; rfl; rfl
      apply OL.op; exact Guard.none; rfl; rfl; apply Pev.nil_ptr; rfl; exact yes
      apply ofa; rfl; rfl; rfl
      apply old; rfl; rfl; exact .head _; rfl; rfl
      apply omv; rfl; rfl
      apply OL.op; exact Guard.none; rfl; rfl; apply Pev.slice_lo; rfl; exact yes; rfl; exact yes; rfl; (first | exact (Int.toNat_of_nonneg (by omega)).symm | omega); intro hcond; omega
      apply oas; rfl; rfl
      apply OL.nil
      with_reducible apply At.next
      apply W.ret
      ((with_reducible apply At.fin1); rfl; rfl; intro w' hw')
      subst he
      refine ⟨?_, hw'⟩
      rw [Int.toNat_sub]
      unfold inn at hle ⊢
      rw [show s.length - (s.length - (List.takeWhile posX s).length) = (List.takeWhile posX s).length by omega]
  · apply W.seq
    apply W.seq
    apply W.reg
    apply omv; rfl; rfl
    apply obn; rfl; rfl; rfl; apply Bin.gtr
    apply omv; rfl; rfl
    apply OL.op; exact Guard.yes rfl rfl; rfl; rfl; apply Pev.move; rfl; exact yes
    apply OL.op; exact Guard.yes rfl rfl; rfl; rfl; apply Pev.nil_ptr; rfl; exact fun h => h
    apply OL.op; exact Guard.yes rfl rfl; rfl; rfl; apply Pev.fld; rfl; exact fun h => h; rfl
    apply OL.op; exact Guard.yes rfl rfl; rfl; rfl; apply Pev.load_blk; rfl; exact fun h => h; exact .head _; rfl; rfl
    apply OL.op; exact Guard.yes rfl rfl; rfl; rfl; apply Pev.move; rfl; exact yes
    apply OL.op; exact Guard.yes rfl rfl; rfl; rfl; apply Pev.bin; rfl; exact fun h => h; rfl; exact yes; intro hcond; apply Bin.sub_in; omega
    apply OL.gateOff; exact Guard.yes rfl rfl; (simp; omega); rfl
    apply OL.gateOff; exact Guard.yes rfl rfl; (simp; omega); rfl
    apply OL.gateOff; exact Guard.yes rfl rfl; (simp; omega); rfl
    apply OL.gateOff; exact Guard.yes rfl rfl; (simp; omega); rfl
    apply OL.op; exact Guard.none; rfl; rfl; apply Pev.pick_off; rfl; exact yes; (intro hcond; simp; omega); rfl; exact yes
    apply OL.nil
    with_reducible apply At.next
    have he : i = (inn s).length := by omega
    subst he
    skip
    refine W.cond rfl (fun hb => by cases hb) (fun _ => ?_)
    apply W.exit
    with_reducible apply At.then_exit
    with_reducible apply At.then_exit
    with_reducible apply At.in_exit
    with_reducible apply At.next
    apply W.seq
    apply W.reg
    apply omv; rfl; rfl
    apply OL.op; exact Guard.none; rfl; rfl; apply Pev.nil_ptr; rfl; exact yes
    apply ofa; rfl; rfl; rfl
    apply old; rfl; rfl; exact .head _; rfl; rfl
    apply omv; rfl; rfl
    apply OL.op; exact Guard.none; rfl; rfl; apply Pev.slice_lo; rfl; exact yes; rfl; exact yes; rfl; (first | exact (Int.toNat_of_nonneg (by omega)).symm | omega); intro hcond; omega
    apply oas; rfl; rfl
    apply OL.nil
    with_reducible apply At.next
    apply W.ret
    ((with_reducible apply At.fin1); rfl; rfl; intro w' hw')
    refine ⟨?_, hw'⟩
    rw [Int.toNat_sub]
    rw [show s.length - (s.length - (inn s).length) = (inn s).length by omega]

theorem inner_at {B mb : Nat} {s : List Cx} {out : List Tok} {y : MY} {H : List Eng.Item} {S : List World} {w : World} (hc : Cls (MI B mb s out y H) S w) :
    SlAt w w.heap.size (cutq y.q y.c (s.length - (inn s).length) 2) (cat cc (inn s).reverse) := by
  have h := (SlAt.of_row (hc.item (.tail _ (.head _)))).cut (i := s.length - (inn s).length) (sz := 2) (cap := y.c) (by
    have := row_cap (hc.item (.tail _ (.head _)))
    rw [cat_length clen, List.length_reverse]
    omega)
  rw [cat_drop clen] at h
  have e : s.reverse.drop (s.length - (inn s).length) = (inn s).reverse := by
    rw [← List.reverse_take]
    congr 1
    exact (List.prefix_iff_eq_take.1 (List.takeWhile_prefix posX)).symm
  rw [e] at h
  exact h
theorem any_brk {s : List Cx} (h : ∀ c ∈ s, 0 ≤ c.col) : s.reverse.any (fun c => decide (c.col = 0)) = decide ((inn s).length < s.length) := by
  rw [List.any_reverse]
  unfold inn
  induction s with
  | nil => rfl
  | cons c s ih =>
    have h1 := ih fun x hx => h x (.tail _ hx)
    have h2 := h c (.head _)
    rw [List.any_cons, h1, List.takeWhile_cons]
    by_cases hc : 0 < c.col
    · rw [if_pos (show posX c = true from decide_eq_true hc), show decide (c.col = 0) = false from decide_eq_false (by omega), Bool.false_or, decide_eq_decide]
      simp only [List.length_cons]; omega
    · rw [if_neg (show ¬ (posX c = true) from fun h => hc (of_decide_eq_true h)), show decide (c.col = 0) = true from decide_eq_true (by omega), Bool.true_or]
      simp

theorem uptoLet_le : ∀ (s : List Cx), s.any isLet = true → uptoLet s ≤ s.length ∧ 1 ≤ uptoLet s
  | [], h => by cases h
  | c :: r, h => by
    rw [uptoLet]
    cases hc : isLet c with
    | true => simp
    | false =>
      rw [List.any_cons, hc, Bool.false_or] at h
      have := uptoLet_le r h
      simp only [Bool.false_eq_true, if_false, List.length_cons]
      omega
theorem upto_get : ∀ (l : List Cx) (i : Nat), i < uptoLet l → l.any isLet = true → ∃ c, l[i]? = some c ∧ isLet c = decide (i + 1 = uptoLet l)
  | [], i, _, h => by cases h
  | c :: r, 0, hi, h => by
    refine ⟨c, rfl, ?_⟩
    rw [uptoLet]
    cases hc : isLet c with
    | true => simp
    | false =>
      rw [List.any_cons, hc, Bool.false_or] at h
      have := (uptoLet_le r h).2
      simp only [Bool.false_eq_true, if_false]
      exact (decide_eq_false (by omega)).symm
  | c :: r, i + 1, hi, h => by
    rw [uptoLet] at hi ⊢
    cases hc : isLet c with
    | true => rw [hc] at hi; simp at hi
    | false =>
      rw [List.any_cons, hc, Bool.false_or] at h
      rw [hc] at hi
      simp only [Bool.false_eq_true, if_false] at hi ⊢
      obtain ⟨d, h1, h2⟩ := upto_get r i (by omega) h
      refine ⟨d, by rw [List.getElem?_cons_succ]; exact h1, ?_⟩
      rw [h2, decide_eq_decide]
      omega
/-- how many blocks 'in' ends -/
def letN (s : List Cx) : Nat := if (inn s).any isLet then uptoLet (inn s) else 0
theorem letN_le (s : List Cx) : letN s ≤ s.length := by
  unfold letN
  split
  · rename_i h
    have h1 := (uptoLet_le _ h).1
    have h2 : (inn s).length ≤ s.length := (List.takeWhile_sublist _).length_le
    omega
  · omega
theorem letN_start (s : List Cx) : (!(inn s).any isLet) = decide (0 = letN s) := by
  unfold letN
  cases h : (inn s).any isLet with
  | true => have := (uptoLet_le _ h).2; simp; omega
  | false => simp
theorem letN_get {s : List Cx} {i : Nat} (h : i < letN s) : ∃ c, s[i]? = some c ∧ isLet c = decide (i + 1 = letN s) := by
  unfold letN at h ⊢
  split at h
  · rename_i ha
    rw [if_pos ha]
    obtain ⟨c, h1, h2⟩ := upto_get _ i h ha
    obtain ⟨r, hr⟩ := List.takeWhile_prefix (l := s) posX
    refine ⟨c, ?_, h2⟩
    unfold inn at h1
    rw [← hr, List.getElem?_append_left (List.getElem?_eq_some_iff.1 h1).1]
    exact h1
  · omega
theorem before_calls (B mb : Nat) (s : List Cx) (out : List Tok) (y : MY) (t : Tok) (H : List Eng.Item) (S : List World) (w : World) (hs : ∀ c ∈ s, 0 ≤ c.col) (hlen : s.length + out.length ≤ 900000) (hB : ∃ s ∈ S, B ≤ s.heap.size) (hc : Cls (MI B mb s out y H) S w) :
    Calls Try.prog 35 #[.pointer (some ⟨mb, 0, none⟩), .agg (tc t).toArray] w fun e w' => ∃ y' : MY, e = .returned (.tuple #[]) ∧ True ∧ Cls (MI B mb (endsS t (s, out)).1 (endsS t (s, out)).2 y' H) S w' := by
  refine enter Try.func35 rfl Try.ntmps35 rfl hc ?_
  (simp only [argEnv, Nat.zero_add, Nat.reduceAdd])
  apply W.seq
  apply W.reg
  apply OL.box; rfl; rfl; exact CellsL.agg; intro bk hbk
  apply OL.nil
  with_reducible apply At.next
  apply W.block
  apply W.seq
  apply W.reg
  apply OL.op; exact Guard.none; rfl; rfl; apply Pev.load_blkA; rfl; exact yes; exact .head _; rfl; apply Take.succ; apply Take.succ; apply Take.succ; apply Take.succ; apply Take.succ; apply Take.zero
  revert bk
  intro bt hbt
  refine OL.cls (C' := Cls (MI B mb s out y (blk bt 51 (tc t) :: H)) S) (fun w' hw' => Cls.in3 hw') ?_
  skip
  (((first | (with_reducible apply OL.op) | (with_reducible apply QL.op)); ((first | exact Guard.none | exact Guard.yes rfl rfl | exact Guard.no rfl rfl | exact Guard.cyes rfl rfl | exact Guard.cno rfl rfl)); rfl; rfl); (exact Pev.call rfl (by (repeat (first | exact Args.nil | (apply Args.cons rfl; ((first | exact fun _ => rfl | exact fun h => h | (intro h; simp_all; done))))))) (fun _ w2 hw2 => (is_calls t _ _ w2).mono (fun e w3 h => ⟨h.1, hw2.ext h.2⟩))))
  apply omv; rfl; rfl
  apply OL.op; exact Guard.no rfl rfl; rfl; rfl; apply Pev.load_blkA; rfl; exact yes; apply List.Mem.tail; exact .tail _ (.tail _ (.head _)); rfl; apply Take.succ; apply Take.succ; apply Take.succ; apply Take.succ; apply Take.succ; apply Take.zero
  (((first | (with_reducible apply OL.op) | (with_reducible apply QL.op)); ((first | exact Guard.none | exact Guard.yes rfl rfl | exact Guard.no rfl rfl | exact Guard.cyes rfl rfl | exact Guard.cno rfl rfl)); rfl; rfl); (exact Pev.call rfl (by (repeat (first | exact Args.nil | (apply Args.cons rfl; ((first | exact fun _ => rfl | exact fun h => h | (intro h; simp_all; done))))))) (fun _ w2 hw2 => (is_calls t _ _ w2).mono (fun e w3 h => ⟨h.1, hw2.ext h.2⟩))))
  apply OL.op; exact Guard.none; rfl; rfl; apply Pev.pick_or; rfl; exact yes; rfl; exact fun h => h
  apply oas; rfl; rfl
  apply OL.nil
  with_reducible apply At.next
  have hle : (inn s).length ≤ s.length := (List.takeWhile_sublist _).length_le
  refine W.cond rfl (fun h1 => ?_) (fun h1 => ?_)
  · have he : ends s t = ((inn s).length, decide ((inn s).length < s.length)) := by unfold ends; rw [if_pos h1]
    unfold endsS
    rw [he]
    simp only
    apply W.seq
    apply W.reg
    apply omv; rfl; rfl
    apply OL.op; exact Guard.none; rfl; rfl; apply Pev.load_blkA; rfl; exact yes; apply List.Mem.tail; exact .tail _ (.tail _ (.head _)); rfl; apply Take.succ; apply Take.succ; apply Take.succ; apply Take.succ; apply Take.succ; apply Take.zero
    refine OL.callE (α := MY) (fun _ => .tuple #[]) (fun _ => True) (fun y2 => Cls (MI B mb (s.drop (inn s).length) (out ++ List.replicate (inn s).length (tk 7 t)) y2 (blk bt 51 (tc t) :: H)) S) rfl rfl (by (repeat (first | exact Args.nil | (apply Args.cons rfl; ((first | exact fun _ => rfl | exact fun h => h | (intro h; simp_all; done))))))) (fun w2 hw2 => shut_calls B mb _ _ y t _ S w2 (by omega) hB hw2) ?_
    intro y2 _
    apply OL.nil
    with_reducible apply At.next
    apply W.seq
    apply W.reg
    apply omv; rfl; rfl
    apply OL.op; exact Guard.none; rfl; rfl; apply Pev.nil_ptr; rfl; exact yes
    apply ofa; rfl; rfl; rfl
    apply old; rfl; rfl; exact .head _; rfl; rfl
    apply OL.op; exact Guard.none; rfl; rfl; apply Pev.len_slice; rfl; exact yes; rfl
    apply obn; rfl; rfl; rfl; apply Bin.gtr
    apply OL.nil
    with_reducible apply At.next
    have hdl : (s.drop (inn s).length).length = s.length - (inn s).length := List.length_drop
    cases hd : s.drop (inn s).length with
    | nil =>
      rw [hd] at hdl
      rw [List.length_nil] at hdl
      rw [if_neg (by simp; omega)]
      (refine W.cond rfl (fun hb => ?_) (fun hb => ?_)) <;> (try (simp only [Bool.and_eq_true, Bool.or_eq_true, Bool.not_eq_true', Bool.and_eq_false_iff, Bool.or_eq_false_iff, Bool.not_eq_false', decide_eq_true_eq, decide_eq_false_iff_not, Int.not_lt, Int.not_le] at hb)) <;> (try (exfalso; first | omega | exact hb trivial | contradiction))
      apply W.skip
      with_reducible apply At.in_normal
      refine At.end_ (At.fin0 rfl (fun w' hw' => ⟨y2, rfl, trivial, ?_⟩))
      exact (Cls.out3 hw').thin (Thin.blk (by assumption) Thin.same)
    | cons c r =>
      rw [hd] at hdl
      rw [List.length_cons] at hdl
      rw [if_pos (by simp; omega)]
      refine W.cond rfl (fun hb => ?_) (fun hb => by simp only [decide_eq_false_iff_not, List.length_cons] at hb; omega)
      apply W.reg
      apply omv; rfl; rfl
      refine OL.callE (α := Unit) (fun _ => .tuple #[]) (fun _ => True) (fun _ => Cls (MI B mb r (out ++ List.replicate (inn s).length (tk 7 t)) y2 (blk bt 51 (tc t) :: H)) S) rfl rfl (by (repeat (first | exact Args.nil | (apply Args.cons rfl; ((first | exact fun _ => rfl | exact fun h => h | (intro h; simp_all; done))))))) (fun w2 hw2 => (pop_calls B mb c r _ y2 _ S w2 (by omega) hw2).mono fun _ w' h => ⟨(), h.1, trivial, h.2⟩) ?_
      intro _ _
      apply OL.nil
      with_reducible apply At.in_normal
      refine At.end_ (At.fin0 rfl (fun w' hw' => ⟨y2, rfl, trivial, ?_⟩))
      exact (Cls.out3 hw').thin (Thin.blk (by assumption) Thin.same)
  have e1 : ¬ ((isT t 5 ⟨#[41]⟩ || isT t 5 ⟨#[125]⟩) = true) := by rw [Bool.not_eq_true]; exact h1
  apply W.seq
  apply W.reg
  apply OL.op; exact Guard.none; rfl; rfl; apply Pev.load_blkA; rfl; exact yes; apply List.Mem.tail; exact .tail _ (.tail _ (.head _)); rfl; apply Take.succ; apply Take.succ; apply Take.succ; apply Take.succ; apply Take.succ; apply Take.zero
  (((first | (with_reducible apply OL.op) | (with_reducible apply QL.op)); ((first | exact Guard.none | exact Guard.yes rfl rfl | exact Guard.no rfl rfl | exact Guard.cyes rfl rfl | exact Guard.cno rfl rfl)); rfl; rfl); (exact Pev.call rfl (by (repeat (first | exact Args.nil | (apply Args.cons rfl; ((first | exact fun _ => rfl | exact fun h => h | (intro h; simp_all; done))))))) (fun _ w2 hw2 => (is_calls t _ _ w2).mono (fun e w3 h => ⟨h.1, hw2.ext h.2⟩))))
  apply oas; rfl; rfl
  apply OL.nil
  with_reducible apply At.next
  refine W.cond rfl (fun h2 => ?_) (fun h2 => ?_)
  · have he : ends s t = (if (inn s).length < s.length then (inn s).length else 0, false) := by unfold ends; rw [if_neg e1, if_pos h2]
    unfold endsS
    rw [he]
    simp only [Bool.false_eq_true, if_false]
    apply W.seq
    apply W.reg
    apply omv; rfl; rfl
    apply OL.op; exact Guard.none; rfl; rfl; apply Pev.nil_ptr; rfl; exact yes
    apply ofa; rfl; rfl; rfl
    apply old; rfl; rfl; exact .head _; rfl; rfl
    have hcf := fun w2 (hw2 : Cls (MI B mb s out y (blk bt 51 (tc t) :: H)) S w2) => ContainsFunc_calls y.q y.c s.reverse 51 (fun c => decide (c.col = 0)) w2 (by rw [List.length_reverse]; omega) (SlAt.of_row (hw2.item (.tail _ (.head _)))) rfl brk_calls
    rw [List.length_reverse, any_brk hs] at hcf
    (((first | (with_reducible apply OL.op) | (with_reducible apply QL.op)); ((first | exact Guard.none | exact Guard.yes rfl rfl | exact Guard.no rfl rfl | exact Guard.cyes rfl rfl | exact Guard.cno rfl rfl)); rfl; rfl); (exact Pev.call rfl (by (repeat (first | exact Args.nil | (apply Args.cons rfl; ((first | exact fun _ => rfl | exact fun h => h | (intro h; simp_all; done))))))) (fun _ w2 hw2 => (hcf w2 hw2).mono (fun e w3 h => ⟨h.1, hw2.ext h.2⟩))))
    apply OL.nil
    with_reducible apply At.next
    (refine W.cond rfl (fun hb => ?_) (fun hb => ?_)) <;> (try (simp only [Bool.and_eq_true, Bool.or_eq_true, Bool.not_eq_true', Bool.and_eq_false_iff, Bool.or_eq_false_iff, Bool.not_eq_false', decide_eq_true_eq, decide_eq_false_iff_not, Int.not_lt, Int.not_le] at hb)) <;> (try (exfalso; first | omega | exact hb trivial | contradiction))
    · rw [if_pos hb]
      apply W.reg
      apply omv; rfl; rfl
      apply OL.op; exact Guard.none; rfl; rfl; apply Pev.load_blkA; rfl; exact yes; apply List.Mem.tail; exact .tail _ (.tail _ (.head _)); rfl; apply Take.succ; apply Take.succ; apply Take.succ; apply Take.succ; apply Take.succ; apply Take.zero
      refine OL.callE (α := MY) (fun _ => .tuple #[]) (fun _ => True) (fun y2 => Cls (MI B mb (s.drop (inn s).length) (out ++ List.replicate (inn s).length (tk 7 t)) y2 (blk bt 51 (tc t) :: H)) S) rfl rfl (by (repeat (first | exact Args.nil | (apply Args.cons rfl; ((first | exact fun _ => rfl | exact fun h => h | (intro h; simp_all; done))))))) (fun w2 hw2 => shut_calls B mb _ _ y t _ S w2 (by omega) hB hw2) ?_
      intro y2 _
      apply OL.nil
      with_reducible apply At.in_normal
      refine At.end_ (At.fin0 rfl (fun w' hw' => ⟨y2, rfl, trivial, ?_⟩))
      exact (Cls.out3 hw').thin (Thin.blk (by assumption) Thin.same)
    · rw [if_neg (by omega)]
      apply W.skip
      with_reducible apply At.in_normal
      refine At.end_ (At.fin0 rfl (fun w' hw' => ⟨y, rfl, trivial, ?_⟩))
      rw [List.drop_zero, List.replicate_zero, List.append_nil]
      exact (Cls.out3 hw').thin (Thin.blk (by assumption) Thin.same)
  have e2 : ¬ (isT t 5 ⟨#[44]⟩ = true) := by rw [Bool.not_eq_true]; exact h2
  apply W.seq
  apply W.reg
  apply OL.op; exact Guard.none; rfl; rfl; apply Pev.load_blkA; rfl; exact yes; apply List.Mem.tail; exact .tail _ (.tail _ (.head _)); rfl; apply Take.succ; apply Take.succ; apply Take.succ; apply Take.succ; apply Take.succ; apply Take.zero
  (((first | (with_reducible apply OL.op) | (with_reducible apply QL.op)); ((first | exact Guard.none | exact Guard.yes rfl rfl | exact Guard.no rfl rfl | exact Guard.cyes rfl rfl | exact Guard.cno rfl rfl)); rfl; rfl); (exact Pev.call rfl (by (repeat (first | exact Args.nil | (apply Args.cons rfl; ((first | exact fun _ => rfl | exact fun h => h | (intro h; simp_all; done))))))) (fun _ w2 hw2 => (is_calls t _ _ w2).mono (fun e w3 h => ⟨h.1, hw2.ext h.2⟩))))
  apply oas; rfl; rfl
  apply OL.nil
  with_reducible apply At.next
  refine W.cond rfl (fun h3 => ?_) (fun h3 => ?_)
  · have he : ends s t = (letN s, false) := by unfold ends; rw [if_neg e1, if_neg e2, if_pos h3]; rfl
    unfold endsS
    rw [he]
    simp only [Bool.false_eq_true, if_false]
    apply W.seq
    apply W.reg
    apply omv; rfl; rfl
    (((first | (with_reducible apply OL.op) | (with_reducible apply QL.op)); ((first | exact Guard.none | exact Guard.yes rfl rfl | exact Guard.no rfl rfl | exact Guard.cyes rfl rfl | exact Guard.cno rfl rfl)); rfl; rfl); (exact Pev.call rfl (by (repeat (first | exact Args.nil | (apply Args.cons rfl; ((first | exact fun _ => rfl | exact fun h => h | (intro h; simp_all; done))))))) (fun _ w2 hw2 => (inner_calls B mb s out y _ S w2 (by omega) hw2))))
    have hcf := fun w2 (hw2 : Cls (MI B mb s out y (blk bt 51 (tc t) :: H)) S w2) => ContainsFunc_calls _ (y.c - (s.length - (inn s).length)) (inn s).reverse 53 isLet w2 (by rw [List.length_reverse]; omega) (inner_at hw2) rfl let_calls
    rw [List.length_reverse, List.any_reverse] at hcf
    skip
    (((first | (with_reducible apply OL.op) | (with_reducible apply QL.op)); ((first | exact Guard.none | exact Guard.yes rfl rfl | exact Guard.no rfl rfl | exact Guard.cyes rfl rfl | exact Guard.cno rfl rfl)); rfl; rfl); (exact Pev.call rfl (by (repeat (first | exact Args.nil | (apply Args.cons rfl; ((first | exact fun _ => rfl | exact fun h => h | (intro h; simp_all; done))))))) (fun _ w2 hw2 => (hcf w2 hw2).mono (fun e w3 h => ⟨h.1, hw2.ext h.2⟩))))
    apply oas; rfl; rfl
    apply OL.nil
    with_reducible apply At.next
    apply W.seq
    apply W.reg
    apply omv; rfl; rfl
    apply OL.op; exact Guard.none; rfl; rfl; apply Pev.not; rfl; exact yes
    apply oas; rfl; rfl
    apply OL.nil
    with_reducible apply At.next
    apply W.block
    rw [letN_start]
    have hnl := letN_le s
    refine W.loop (G := Nat × MY) (fun g => g.1 ≤ letN s) (fun g => letN s - g.1)
      (fun g => [(0, true, .pointer (some ⟨mb, 0, none⟩)), (3, true, .pointer (some ⟨bt, 0, none⟩)), (5, true, .bool (decide (g.1 = letN s)))])
      (fun g => Cls (MI B mb (s.drop g.1) (out ++ List.replicate g.1 (tk 7 t)) g.2 (blk bt 51 (tc t) :: H)) S) (0, y) (Nat.zero_le _) (by (repeat (first | exact Sub.nil | apply Sub.cons rfl | (refine Sub.cons_eq rfl (congrArg (Value.int .i64) (by omega)) ?_)))) (fun w' hw' => by simpa using hw') ?_
    rintro ⟨i, y1⟩ hi
    simp only at hi ⊢
    apply W.seq
    apply W.seq
    apply W.reg
    apply omv; rfl; rfl
    apply OL.op; exact Guard.none; rfl; rfl; apply Pev.not; rfl; exact yes
    apply OL.nil
    with_reducible apply At.next
    refine W.cond rfl (fun hb => ?_) (fun hb => ?_)
    · have hlt : i < letN s := by
        simp only [Bool.not_eq_true', decide_eq_false_iff_not] at hb
        omega
      obtain ⟨c, hc1, hc2⟩ := letN_get hlt
      obtain ⟨hil, hc3⟩ := List.getElem?_eq_some_iff.1 hc1
      have hd : s.drop i = c :: s.drop (i + 1) := by rw [List.drop_eq_getElem_cons hil, hc3]
      rw [hd]
      apply W.skip
      with_reducible apply At.next
      apply W.block
      apply W.seq
      apply W.reg
      apply omv; rfl; rfl
      (((first | (with_reducible apply OL.op) | (with_reducible apply QL.op)); ((first | exact Guard.none | exact Guard.yes rfl rfl | exact Guard.no rfl rfl | exact Guard.cyes rfl rfl | exact Guard.cno rfl rfl)); rfl; rfl); (exact Pev.call rfl (by (repeat (first | exact Args.nil | (apply Args.cons rfl; ((first | exact fun _ => rfl | exact fun h => h | (intro h; simp_all; done))))))) (fun _ w2 hw2 => (top_calls B mb _ _ y1 _ S w2 (by simp only [List.length_cons, List.length_drop]; omega) hw2))))
      apply OL.op; exact Guard.none; rfl; rfl; apply Pev.field; rfl; exact yes; rfl; rfl
      apply obn; rfl; rfl; rfl; apply Bin.str_eql
      apply oas; rfl; rfl
      apply OL.nil
      with_reducible apply At.next
      apply W.seq
      apply W.reg
      apply omv; rfl; rfl
      apply OL.op; exact Guard.none; rfl; rfl; apply Pev.load_blkA; rfl; exact yes; apply List.Mem.tail; exact .tail _ (.tail _ (.head _)); rfl; apply Take.succ; apply Take.succ; apply Take.succ; apply Take.succ; apply Take.succ; apply Take.zero
      refine OL.callE (α := MY) (fun _ => .tuple #[]) (fun _ => True) (fun y2 => Cls (MI B mb (c :: s.drop (i + 1)) (out ++ List.replicate i (tk 7 t) ++ [tk 7 t]) y2 (blk bt 51 (tc t) :: H)) S) rfl rfl (by (repeat (first | exact Args.nil | (apply Args.cons rfl; ((first | exact fun _ => rfl | exact fun h => h | (intro h; simp_all; done))))))) (fun w2 hw2 => put_calls B mb _ _ y1 7 t _ S w2 (by simp only [List.length_append, List.length_replicate]; omega) hB hw2) ?_
      intro y2 _
      apply OL.nil
      with_reducible apply At.next
      apply W.reg
      apply omv; rfl; rfl
      refine OL.callE (α := Unit) (fun _ => .tuple #[]) (fun _ => True) (fun _ => Cls (MI B mb (s.drop (i + 1)) (out ++ List.replicate i (tk 7 t) ++ [tk 7 t]) y2 (blk bt 51 (tc t) :: H)) S) rfl rfl (by (repeat (first | exact Args.nil | (apply Args.cons rfl; ((first | exact fun _ => rfl | exact fun h => h | (intro h; simp_all; done))))))) (fun w2 hw2 => (pop_calls B mb c _ _ y2 _ S w2 (by rw [List.length_drop]; omega) hw2).mono fun _ w' h => ⟨(), h.1, trivial, h.2⟩) ?_
      intro _ _
      apply OL.nil
      with_reducible apply At.in_normal
      refine At.again (i + 1, y2) hlt (by simp only; omega) (.cons rfl (.cons rfl (.cons_eq rfl (congrArg Value.bool hc2) .nil))) (fun w' hw' => ?_)
      rw [← rep_succ]; exact hw'
    · simp only [Bool.not_eq_false', decide_eq_true_eq] at hb
      subst hb
      apply W.exit
      with_reducible apply At.then_exit
      with_reducible apply At.then_exit
      with_reducible apply At.in_exit
      with_reducible apply At.in_normal
      refine At.end_ (At.fin0 rfl (fun w' hw' => ⟨y1, rfl, trivial, ?_⟩))
      exact (Cls.out3 hw').thin (Thin.blk (by assumption) Thin.same)
  · have he : ends s t = (0, false) := by unfold ends; rw [if_neg e1, if_neg e2, if_neg (by rw [Bool.not_eq_true]; exact h3)]
    unfold endsS
    rw [he]
    simp only [Bool.false_eq_true, if_false]
    rw [List.drop_zero, List.replicate_zero, List.append_nil]
    apply W.skip
    with_reducible apply At.in_normal
    refine At.end_ (At.fin0 rfl (fun w' hw' => ⟨y, rfl, trivial, ?_⟩))
    exact (Cls.out3 hw').thin (Thin.blk (by assumption) Thin.same)
end Go.Proofs.Ytlcclcakdfmgkaa.ly
