/- The walks of the marker's small methods: top, pop, put. Conditions: none. -/
import Derived.Test.YtlcclcakdfmgkaaLyP
import Derived.Test.YtlcclcakdfmgkaaZip
import Derived.Test.YtlcclcakdfmgkaaPop
import Derived.Test.YtlcclcakdfmgkaaRows
namespace Go.Proofs.Ytlcclcakdfmgkaa.ly
open Go.RowKit Go.Eng Go.Ly
set_option linter.unusedVariables false
set_option linter.unusedSimpArgs false
set_option maxRecDepth 100000

/-- where two grown rows lie -/
structure MY where
  q : Option Addr
  c : Nat
  O : Nat → Prop
  q2 : Option Addr
  c2 : Nat
  O2 : Nat → Prop
abbrev MI (B mb : Nat) (s : List Cx) (out : List Tok) (y : MY) (H : List Eng.Item) : List Eng.Item :=
  blk mb 75 [.slice y.q s.length y.c, .slice y.q2 out.length y.c2] :: row B y.O y.q s.length y.c 80 2 (cat cc s.reverse) :: row B y.O2 y.q2 out.length y.c2 51 5 (cat tc out) :: H

theorem put_calls (B mb : Nat) (s : List Cx) (out : List Tok) (y : MY) (k : Int) (t : Tok) (H : List Eng.Item) (S : List World) (w : World) (hlen : out.length ≤ 1000000) (hB : ∃ s ∈ S, B ≤ s.heap.size) (hc : Cls (MI B mb s out y H) S w) :
    Calls Try.prog 33 #[.pointer (some ⟨mb, 0, none⟩), .int .i64 k, .agg (tc t).toArray] w fun e w' => ∃ y' : MY, e = .returned (.tuple #[]) ∧ True ∧ Cls (MI B mb s (out ++ [tk k t]) y' H) S w' := by
  unfold MI at hc
  refine enter Try.func33 rfl Try.ntmps33 rfl hc ?_
  (simp only [argEnv, Nat.zero_add, Nat.reduceAdd])
  apply W.seq
  apply W.reg
  apply OL.box; rfl; rfl; exact CellsL.agg; intro bk hbk
  apply OL.nil
  with_reducible apply At.next
  apply W.regz; apply ZSplit.pure rfl; apply ZSplit.pure rfl; apply ZSplit.pure rfl; apply ZSplit.pure rfl; apply ZSplit.pure rfl; apply ZSplit.pure rfl; apply ZSplit.pure rfl; apply ZSplit.pure rfl; apply ZSplit.pure rfl; apply ZSplit.pure rfl; apply ZSplit.pure rfl; apply ZSplit.tail; apply ZSplit.tail; apply ZSplit.tail; apply ZSplit.tail; apply ZSplit.tail; exact ZSplit.nil; kernel_rfl; decide +kernel; exact fun w hw => hw.drew
  apply ZL.op rfl; exact Guard.none; rfl; rfl; apply Pev.move; rfl; exact yes
  apply ZL.op rfl; exact Guard.none; rfl; rfl; apply Pev.move; rfl; exact yes
  apply ZL.op rfl; exact Guard.none; rfl; rfl; apply Pev.nil_ptr; rfl; exact yes
  apply ZL.op rfl; exact Guard.none; rfl; rfl; apply Pev.fld; rfl; exact yes; rfl
  apply ZL.ld rfl; exact Guard.none; rfl; rfl; apply Pev.load_blk; rfl; exact yes; exact .tail _ (.head _); rfl; rfl
  apply ZL.op rfl; exact Guard.none; rfl; rfl; apply Pev.move; rfl; exact yes
  apply ZL.op rfl; exact Guard.none; rfl; rfl; apply Pev.fld; rfl; exact yes; rfl
  apply ZL.ld rfl; exact Guard.none; rfl; rfl; apply Pev.load_blk; rfl; exact yes; exact .head _; rfl; rfl
  apply ZL.op rfl; exact Guard.none; rfl; rfl; apply Pev.fld; rfl; exact yes; rfl
  apply ZL.ld rfl; exact Guard.none; rfl; rfl; apply Pev.load_blk; rfl; exact yes; exact .head _; rfl; rfl
  apply ZL.op rfl; exact Guard.none; rfl; rfl; apply Pev.build; rfl; exact CellsL.agg; rfl; apply Fill.cons rfl; exact CellsL.one rfl; rfl; rfl; apply Put.here; apply Over.cons; apply Over.nil; apply Fill.cons rfl; exact CellsL.one rfl; rfl; rfl; apply Put.skip; apply Put.skip; apply Put.skip; apply Put.here; apply Over.cons; apply Over.nil; apply Fill.cons rfl; exact CellsL.one rfl; rfl; rfl; apply Put.skip; apply Put.skip; apply Put.skip; apply Put.skip; apply Put.here; apply Over.cons; apply Over.nil; apply Fill.nil; rfl
  apply ZL.nil
  apply TL.one rfl
  apply OL.buildSlice; rfl; rfl; rfl; apply Elems.cons rfl; exact CellsL.agg; rfl; apply Elems.nil; apply App.cons; apply App.cons; apply App.cons; apply App.cons; apply App.cons; apply App.nil; rfl; rfl; intro bk hbk
  apply OL.nil
  with_reducible apply At.tk; exact fun w hw => hw.thin (by repeat (first | exact Thin.nil | exact Thin.same | apply Thin.keep | (refine Thin.blk (by assumption) ?_)))
  apply TL.one rfl
  apply OL.append; rfl; rfl; rfl; rfl; apply Hole.s; apply Hole.s; apply Hole.s; apply Hole.s; apply Hole.z; exact .head _; apply Take.succ; apply Take.succ; apply Take.succ; apply Take.succ; apply Take.succ; apply Take.zero; rfl; rfl; assumption; omega; intro O1 g1 cap1
  apply OL.nil
  with_reducible apply At.tn; decide +kernel
  apply TL.one rfl
  apply OL.op; exact Guard.none; rfl; rfl; apply Pev.nil_ptr; rfl; exact yes
  apply OL.nil
  with_reducible apply At.tn; decide +kernel
  apply TL.one rfl
  apply ofa; rfl; rfl; rfl
  apply OL.nil
  with_reducible apply At.tn; decide +kernel
  apply TL.one rfl
  apply OL.storeB; rfl; rfl; exact CellsL.one rfl; rfl; rfl; rfl; apply Swap.s; apply Swap.s; apply Swap.z; apply Put.skip; apply Put.here; apply Over.cons; apply Over.nil
  apply OL.nil
  with_reducible apply At.tn; decide +kernel
  apply TL.nil
  with_reducible apply At.np
  refine At.end_ (At.fin0 rfl (fun w' hw' => ⟨⟨y.q, y.c, y.O, some ⟨g1, 0, none⟩, cap1, O1⟩, rfl, trivial, ?_⟩))
  have e : cat tc (out ++ [tk k t]) = cat tc out ++ tc (tk k t) := by rw [cat_append, cat_one]
  simp only [MI, List.length_append, List.length_cons, List.length_nil, Nat.zero_add, e]
  exact hw'.thin (by (repeat (first | exact Thin.nil | exact Thin.same | apply Thin.keep | (refine Thin.blk (by assumption) ?_) | (refine Thin.blk (by simp only [AllLe, and_true]; omega) ?_))))

theorem pop_calls (B mb : Nat) (c : Cx) (s : List Cx) (out : List Tok) (y : MY) (H : List Eng.Item) (S : List World) (w : World) (hlen : s.length ≤ 1000000) (hc : Cls (MI B mb (c :: s) out y H) S w) :
    Calls Try.prog 37 #[.pointer (some ⟨mb, 0, none⟩)] w fun e w' => e = .returned (.tuple #[]) ∧ Cls (MI B mb s out y H) S w' := by
  simp only [MI, List.length_cons] at hc
  have hcap := row_cap (hc.item (.tail _ (.head _)))
  refine enter Try.func37 rfl Try.ntmps37 rfl hc ?_
  (simp only [argEnv, Nat.zero_add, Nat.reduceAdd])
  apply W.regq; apply Split.s rfl; apply Split.s rfl; apply Split.s rfl; apply Split.s rfl; apply Split.s rfl; apply Split.s rfl; apply Split.s rfl; apply Split.s rfl; apply Split.s rfl; apply Split.s rfl; apply Split.s rfl; apply Split.s rfl; apply Split.s rfl; apply Split.s rfl; exact Split.z rfl; kernel_rfl; decide +kernel; exact fun w hw => hw.drew
  apply qmv; rfl; rfl
  apply qmv; rfl; rfl
  apply QL.op; exact Guard.none; rfl; rfl; apply Pev.nil_ptr; rfl; exact yes
  apply qfa; rfl; rfl; rfl
  apply qld; rfl; rfl; exact .head _; rfl; rfl
  apply qmv; rfl; rfl
  apply QL.op; exact Guard.none; rfl; rfl; apply Pev.nil_ptr; rfl; exact yes
  apply qfa; rfl; rfl; rfl
  apply qld; rfl; rfl; exact .head _; rfl; rfl
  apply QL.op; exact Guard.none; rfl; rfl; apply Pev.len_slice; rfl; exact yes; rfl
  apply qbn; rfl; rfl; rfl; apply Bin.sub_in; omega
  apply QL.op; exact Guard.none; rfl; rfl; apply Pev.slice_hi; rfl; exact yes; rfl; exact yes; rfl; (first | exact (Int.toNat_of_nonneg (by omega)).symm | omega); intro hcond; omega
  apply QL.op; exact Guard.none; rfl; rfl; apply Pev.nil_ptr; rfl; exact yes
  apply qfa; rfl; rfl; rfl
  with_reducible apply QL.tail
  apply OL.storeB; rfl; rfl; exact CellsL.one rfl; rfl; rfl; rfl; apply Swap.z; apply Put.here; apply Over.cons; apply Over.nil
  apply OL.nil
  refine At.end_ (At.fin0 rfl (fun w' hw' => ⟨rfl, ?_⟩))
  rw [show ((s.length + 1 : Nat) : Int) - 1 = (s.length : Nat) by omega, Int.toNat_natCast] at hw'
  exact Cls.rowPop (p := 1) s.length (cat cc s.reverse) (.s .z) (by omega) (by rw [List.reverse_cons, cat_append, ← List.length_reverse, ← cat_length clen, List.take_left]) hw'

theorem top_calls (B mb : Nat) (s : List Cx) (out : List Tok) (y : MY) (H : List Eng.Item) (S : List World) (w : World) (hlen : s.length ≤ 1000000) (hc : Cls (MI B mb s out y H) S w) :
    Calls Try.prog 36 #[.pointer (some ⟨mb, 0, none⟩)] w fun e w' => e = .returned (.agg (cc (topX s)).toArray) ∧ Cls (MI B mb s out y H) S w' := by
  obtain ⟨q, cq, O, q2, c2, O2⟩ := y
  cases s with
  | nil =>
    simp only [MI] at hc
    refine enter Try.func36 rfl Try.ntmps36 rfl hc ?_
    (simp only [argEnv, Nat.zero_add, Nat.reduceAdd])
    apply W.seq
    apply W.reg
    apply OL.alloc; rfl; rfl; exact CellsL.agg; intro bk hbk
    apply OL.nil
    with_reducible apply At.next
    apply W.seq
    apply W.seq
    apply W.reg
    apply omv; rfl; rfl
    apply OL.op; exact Guard.none; rfl; rfl; apply Pev.nil_ptr; rfl; exact yes
    apply ofa; rfl; rfl; rfl
    apply old; rfl; rfl; exact .tail _ (.head _); rfl; rfl
    apply OL.op; exact Guard.none; rfl; rfl; apply Pev.len_slice; rfl; exact yes; rfl
    apply obn; rfl; rfl; rfl; apply Bin.eql
    apply OL.nil
    with_reducible apply At.next
    (refine W.cond rfl (fun h0 => ?_) (fun h0 => ?_)) <;> (try (simp only [Bool.and_eq_true, Bool.or_eq_true, Bool.not_eq_true', Bool.and_eq_false_iff, Bool.or_eq_false_iff, Bool.not_eq_false', decide_eq_true_eq, decide_eq_false_iff_not, Int.not_lt, Int.not_le] at h0)) <;> (try (exfalso; first | omega | exact h0 trivial | contradiction))
    apply W.seq
    apply W.reg
    apply OL.op; exact Guard.none; rfl; rfl; apply Pev.build; rfl; exact CellsL.agg; rfl; apply Fill.nil; rfl
    apply OL.storeB; rfl; rfl; exact CellsL.agg; rfl; rfl; rfl; apply Swap.z; apply Put.here; apply Over.cons; apply Over.cons; apply Over.nil
    apply OL.nil
    with_reducible apply At.next
    apply W.ret
    with_reducible apply At.then_ret
    refine At.finC (cs := [.int .i64 0, .string ⟨#[]⟩]) rfl rfl (by (repeat (first | exact List.Mem.head _ | apply List.Mem.tail))) rfl rfl (fun w' hw' => ⟨rfl, ?_⟩)
    exact hw'.thin (by (repeat (first | exact Thin.nil | exact Thin.same | apply Thin.keep | (refine Thin.blk (by assumption) ?_) | (refine Thin.blk (by simp only [AllLe, and_true]; omega) ?_))))
  | cons c s =>
    simp only [MI, List.length_cons] at hc hlen
    obtain ⟨g0, rfl⟩ := row_some (hc.item (.tail _ (.head _))) (by omega)
    have hL : (c :: s).reverse[s.length]? = some c := by rw [List.reverse_cons, List.getElem?_append_right (by simp)]; simp
    refine enter Try.func36 rfl Try.ntmps36 rfl hc ?_
    (simp only [argEnv, Nat.zero_add, Nat.reduceAdd])
    apply W.seq
    apply W.reg
    apply OL.alloc; rfl; rfl; exact CellsL.agg; intro bk hbk
    apply OL.nil
    with_reducible apply At.next
    apply W.seq
    apply W.seq
    apply W.reg
    apply omv; rfl; rfl
    apply OL.op; exact Guard.none; rfl; rfl; apply Pev.nil_ptr; rfl; exact yes
    apply ofa; rfl; rfl; rfl
    apply old; rfl; rfl; exact .tail _ (.head _); rfl; rfl
    apply OL.op; exact Guard.none; rfl; rfl; apply Pev.len_slice; rfl; exact yes; rfl
    apply obn; rfl; rfl; rfl; apply Bin.eql
    apply OL.nil
    with_reducible apply At.next
    (refine W.cond rfl (fun h0 => ?_) (fun h0 => ?_)) <;> (try (simp only [Bool.and_eq_true, Bool.or_eq_true, Bool.not_eq_true', Bool.and_eq_false_iff, Bool.or_eq_false_iff, Bool.not_eq_false', decide_eq_true_eq, decide_eq_false_iff_not, Int.not_lt, Int.not_le] at h0)) <;> (try (exfalso; first | omega | exact h0 trivial | contradiction))
    apply W.skip
    with_reducible apply At.next
    apply W.seq
    apply W.regq; apply Split.s rfl; apply Split.s rfl; apply Split.s rfl; apply Split.s rfl; apply Split.s rfl; apply Split.s rfl; apply Split.s rfl; apply Split.s rfl; apply Split.s rfl; apply Split.s rfl; apply Split.s rfl; apply Split.s rfl; exact Split.z rfl; kernel_rfl; decide +kernel; exact fun w hw => hw.drew
    apply qmv; rfl; rfl
    apply QL.op; exact Guard.none; rfl; rfl; apply Pev.nil_ptr; rfl; exact yes
    apply qfa; rfl; rfl; rfl
    apply qld; rfl; rfl; exact .tail _ (.head _); rfl; rfl
    apply qmv; rfl; rfl
    apply QL.op; exact Guard.none; rfl; rfl; apply Pev.nil_ptr; rfl; exact yes
    apply qfa; rfl; rfl; rfl
    apply qld; rfl; rfl; exact .tail _ (.head _); rfl; rfl
    apply QL.op; exact Guard.none; rfl; rfl; apply Pev.len_slice; rfl; exact yes; rfl
    apply qbn; rfl; rfl; rfl; apply Bin.sub_in; omega
    apply QL.op; exact Guard.none; rfl; rfl; apply Pev.idxB; rfl; exact yes; rfl; exact yes; rfl; intro hcond; omega; rfl
    apply QL.op; exact Guard.none; rfl; rfl; apply Pev.load_rowE; rfl; exact yes; exact .tail _ (.tail _ (.head _)); rfl; exact fun _ => rfl; (intro hcond; assumption); (intro hcond; omega)
    with_reducible apply QL.tail
    apply OL.storeB; rfl; rfl; exact CellsL.agg; rfl; rfl; rfl; apply Swap.z; apply Put.here; apply Over.cons; apply Over.cons; apply Over.nil
    apply OL.nil
    with_reducible apply At.next
    apply W.ret
    refine At.finC (b := bk) (cs := cc c) rfl rfl (by (repeat (first | exact List.Mem.head _ | apply List.Mem.tail))) rfl rfl (fun w' hw' => ⟨rfl, ?_⟩)
    exact hw'.thin (by (repeat (first | exact Thin.nil | exact Thin.same | apply Thin.keep | (refine Thin.blk (by assumption) ?_) | (refine Thin.blk (by simp only [AllLe, and_true]; omega) ?_))))

theorem shut_calls (B mb : Nat) (s : List Cx) (out : List Tok) (y : MY) (t : Tok) (H : List Eng.Item) (S : List World) (w : World) (hlen : s.length + out.length ≤ 1000000) (hB : ∃ s ∈ S, B ≤ s.heap.size) (hc : Cls (MI B mb s out y H) S w) :
    Calls Try.prog 49 #[.pointer (some ⟨mb, 0, none⟩), .agg (tc t).toArray] w fun e w' => ∃ y' : MY, e = .returned (.tuple #[]) ∧ True ∧ Cls (MI B mb (shutN (inn s).length t (s, out)).1 (shutN (inn s).length t (s, out)).2 y' H) S w' := by
  refine enter Try.func49 rfl Try.ntmps49 rfl hc ?_
  (simp only [argEnv, Nat.zero_add, Nat.reduceAdd])
  apply W.seq
  apply W.reg
  apply OL.box; rfl; rfl; exact CellsL.agg; intro bk hbk
  apply OL.nil
  with_reducible apply At.next
  apply W.block
  revert bk
  intro bt hbt
  refine W.loop (G := Nat × MY) (fun g => g.1 ≤ (inn s).length) (fun g => (inn s).length - g.1)
    (fun g => [(0, true, .pointer (some ⟨mb, 0, none⟩)), (3, true, .pointer (some ⟨bt, 0, none⟩))])
    (fun g => Cls (MI B mb (s.drop g.1) (out ++ List.replicate g.1 (tk 7 t)) g.2 (blk bt 51 (tc t) :: H)) S) (0, y) (Nat.zero_le _) (by (repeat (first | exact Sub.nil | apply Sub.cons rfl | (refine Sub.cons_eq rfl (congrArg (Value.int .i64) (by omega)) ?_)))) (fun w' hw' => ?_) ?_
  · simpa using Cls.in3 hw'
  rintro ⟨i, y1⟩ hi
  simp only at hi ⊢
  have hle : (inn s).length ≤ s.length := (List.takeWhile_sublist _).length_le
  apply W.seq
  apply W.seq
  apply W.reg
  apply omv; rfl; rfl
  refine OL.callE (α := Unit) (fun _ => .agg (cc (topX (s.drop i))).toArray) (fun _ => True) (fun _ => Cls (MI B mb (s.drop i) (out ++ List.replicate i (tk 7 t)) y1 (blk bt 51 (tc t) :: H)) S) rfl rfl (by (repeat (first | exact Args.nil | (apply Args.cons rfl; ((first | exact fun _ => rfl | exact fun h => h | (intro h; simp_all; done))))))) (fun w2 hw2 => (top_calls B mb _ _ y1 _ S w2 (by rw [List.length_drop]; omega) hw2).mono fun _ w' h => ⟨(), h.1, trivial, h.2⟩) ?_
  intro _ _
  apply OL.op; exact Guard.none; rfl; rfl; apply Pev.field; rfl; exact yes; rfl; rfl
  apply obn; rfl; rfl; rfl; apply Bin.gtr
  apply OL.nil
  with_reducible apply At.next
  (refine W.cond rfl (fun hpos => ?_) (fun hpos => ?_)) <;> (try (simp only [Bool.and_eq_true, Bool.or_eq_true, Bool.not_eq_true', Bool.and_eq_false_iff, Bool.or_eq_false_iff, Bool.not_eq_false', decide_eq_true_eq, decide_eq_false_iff_not, Int.not_lt, Int.not_le] at hpos)) <;> (try (exfalso; first | omega | exact hpos trivial | contradiction))
  · cases hd : s.drop i with
    | nil => exfalso; rw [hd] at hpos; exact absurd hpos (by decide)
    | cons c r =>
      rw [hd] at hpos
      have hlt := tw_yes (p := posX) hi hd (decide_eq_true hpos)
      obtain ⟨hd1, hil⟩ := drop_next hd
      apply W.skip
      with_reducible apply At.next
      apply W.block
      apply W.seq
      apply W.reg
      apply omv; rfl; rfl
      apply OL.op; exact Guard.none; rfl; rfl; apply Pev.load_blkA; rfl; exact yes; apply List.Mem.tail; exact .tail _ (.tail _ (.head _)); rfl; apply Take.succ; apply Take.succ; apply Take.succ; apply Take.succ; apply Take.succ; apply Take.zero
      refine OL.callE (α := MY) (fun _ => .tuple #[]) (fun _ => True) (fun y2 => Cls (MI B mb (c :: r) (out ++ List.replicate i (tk 7 t) ++ [tk 7 t]) y2 (blk bt 51 (tc t) :: H)) S) rfl rfl (by (repeat (first | exact Args.nil | (apply Args.cons rfl; ((first | exact fun _ => rfl | exact fun h => h | (intro h; simp_all; done))))))) (fun w2 hw2 => put_calls B mb _ _ y1 7 t _ S w2 (by simp only [List.length_append, List.length_replicate]; unfold inn at hle; omega) hB hw2) ?_
      intro y2 _
      apply OL.nil
      with_reducible apply At.next
      apply W.reg
      apply omv; rfl; rfl
      refine OL.callE (α := Unit) (fun _ => .tuple #[]) (fun _ => True) (fun _ => Cls (MI B mb r (out ++ List.replicate i (tk 7 t) ++ [tk 7 t]) y2 (blk bt 51 (tc t) :: H)) S) rfl rfl (by (repeat (first | exact Args.nil | (apply Args.cons rfl; ((first | exact fun _ => rfl | exact fun h => h | (intro h; simp_all; done))))))) (fun w2 hw2 => (pop_calls B mb c r _ y2 _ S w2 (by have := congrArg List.length hd1; rw [List.length_drop] at this; omega) hw2).mono fun _ w' h => ⟨(), h.1, trivial, h.2⟩) ?_
      intro _ _
      apply OL.nil
      with_reducible apply At.in_normal
      refine At.again (i + 1, y2) hlt (by unfold inn; simp only; omega) (by (repeat (first | exact Sub.nil | apply Sub.cons rfl | (refine Sub.cons_eq rfl (congrArg (Value.int .i64) (by omega)) ?_)))) (fun w' hw' => ?_)
      rw [hd1, ← rep_succ]; exact hw'
  · have he := tw_no (p := posX) hi (fun c r hd => by rw [hd] at hpos; exact decide_eq_false (by have : ¬ 0 < c.col := Int.not_lt.2 hpos; exact this))
    apply W.exit
    with_reducible apply At.then_exit
    with_reducible apply At.then_exit
    with_reducible apply At.in_exit
    refine At.end_ (At.fin0 rfl (fun w' hw' => ⟨y1, rfl, trivial, ?_⟩))
    rw [he] at hw'
    exact (Cls.out3 hw').thin (Thin.blk (by assumption) Thin.same)
end Go.Proofs.Ytlcclcakdfmgkaa.ly
