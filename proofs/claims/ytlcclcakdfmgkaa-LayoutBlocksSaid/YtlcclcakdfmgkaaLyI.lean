/- The walk of the reference's Layout. Conditions: none. -/
import Derived.Test.YtlcclcakdfmgkaaLyH
namespace Go.Proofs.Ytlcclcakdfmgkaa.ly
open Go.RowKit Go.Eng Go.Ly
set_option linter.unusedVariables false
set_option linter.unusedSimpArgs false
set_option maxRecDepth 100000

abbrev RI (B ob pb : Nat) (s : List Cx) (out : List Tok) (y : MY) (H : List Eng.Item) : List Eng.Item :=
  blk ob 47 [.slice y.q2 out.length y.c2] :: blk pb 83 [.slice y.q s.length y.c] :: row B y.O y.q s.length y.c 87 2 (cat cc s.reverse) :: row B y.O2 y.q2 out.length y.c2 51 5 (cat tc out) :: H

theorem rshut_calls (B ob pb : Nat) (s : List Cx) (out : List Tok) (y : MY) (m : Nat) (t : Tok) (H : List Eng.Item) (S : List World) (w : World) (hm : m ≤ s.length) (hlen : s.length + out.length ≤ 900000) (hB : ∃ s ∈ S, B ≤ s.heap.size) (hc : Cls (RI B ob pb s out y H) S w) :
    Calls Try.prog 38 #[.int .i64 (m : Int), .agg (tc t).toArray, .pointer (some ⟨ob, 0, none⟩), .pointer (some ⟨pb, 0, none⟩)] w fun e w' => ∃ y' : MY, e = .returned (.tuple #[]) ∧ True ∧ Cls (RI B ob pb (shutN m t (s, out)).1 (shutN m t (s, out)).2 y' H) S w' := by
  refine enter Try.func38 rfl Try.ntmps38 rfl hc ?_
  (simp only [argEnv, Nat.zero_add, Nat.reduceAdd])
  apply W.seq
  apply W.reg
  apply OL.box; rfl; rfl; exact CellsL.agg; intro bk hbk
  apply OL.nil
  with_reducible apply At.next
  apply W.block
  revert bk
  intro bt hbt
  refine W.loop (G := Nat × MY) (fun g => g.1 ≤ m) (fun g => m - g.1)
    (fun g => [(0, true, .int .i64 ((m : Int) - g.1)), (2, true, .pointer (some ⟨ob, 0, none⟩)), (3, true, .pointer (some ⟨pb, 0, none⟩)), (5, true, .pointer (some ⟨bt, 0, none⟩))])
    (fun g => Cls (RI B ob pb (s.drop g.1) (out ++ List.replicate g.1 (tk 7 t)) g.2 (blk bt 51 (tc t) :: H)) S) (0, y) (Nat.zero_le _) (by (repeat (first | exact Sub.nil | apply Sub.cons rfl | (refine Sub.cons_eq rfl (congrArg (Value.int .i64) (by first | omega | (simp only; omega))) ?_)))) (fun w' hw' => by simpa using Cls.in4 hw') ?_
  rintro ⟨i, y1⟩ hi
  simp only at hi ⊢
  apply W.seq
  apply W.seq
  apply W.reg
  apply omv; rfl; rfl
  apply obn; rfl; rfl; rfl; apply Bin.gtr
  apply OL.nil
  with_reducible apply At.next
  (refine W.cond rfl (fun hlt => ?_) (fun hlt => ?_)) <;> (try (simp only [Bool.and_eq_true, Bool.or_eq_true, Bool.not_eq_true', Bool.and_eq_false_iff, Bool.or_eq_false_iff, Bool.not_eq_false', decide_eq_true_eq, decide_eq_false_iff_not, Int.not_lt, Int.not_le] at hlt)) <;> (try (exfalso; first | omega | exact hlt trivial | contradiction))
  · have hil : i < s.length := by omega
    obtain ⟨c, hci⟩ : ∃ c, s[i]? = some c := ⟨_, List.getElem?_eq_getElem hil⟩
    have hd := dropc hci
    have hl1 : (s.drop (i + 1)).length = s.length - (i + 1) := List.length_drop
    rw [hd]
    have hlo : (out ++ List.replicate i (tk 7 t)).length = out.length + i := by simp
    simp only [RI, List.length_cons]
    refine W.fact (φ := (s.drop (i + 1)).length + 1 ≤ y1.c) (fun w' hw' => row_cap (hw'.item (.tail _ (.tail _ (.head _))))) (fun hcap => ?_)
    apply W.skip
    with_reducible apply At.next
    apply W.seq
    apply W.block
    apply W.seq
    apply W.regz; apply ZSplit.pure rfl; apply ZSplit.pure rfl; apply ZSplit.tail; apply ZSplit.tail; apply ZSplit.tail; apply ZSplit.tail; exact ZSplit.nil; kernel_rfl; decide +kernel; exact fun w hw => hw.drew
    apply ZL.ld rfl; exact Guard.none; rfl; rfl; apply Pev.load_blk; rfl; exact yes; exact .head _; rfl; rfl
    apply ZL.ld rfl; exact Guard.none; rfl; rfl; apply Pev.load_blkA; rfl; exact yes; apply List.Mem.tail; apply List.Mem.tail; exact .tail _ (.tail _ (.head _)); rfl; apply Take.succ; apply Take.succ; apply Take.succ; apply Take.succ; apply Take.succ; apply Take.zero
    apply ZL.nil
    apply TL.one rfl
    (((first | (with_reducible apply OL.op) | (with_reducible apply QL.op)); ((first | exact Guard.none | exact Guard.yes rfl rfl | exact Guard.no rfl rfl | exact Guard.cyes rfl rfl | exact Guard.cno rfl rfl)); rfl; rfl); (exact Pev.call rfl (by (repeat (first | exact Args.nil | (apply Args.cons rfl; ((first | exact fun _ => rfl | exact fun h => h | (intro h; simp_all; done))))))) (fun _ w2 hw2 => (virtual_calls 7 t w2).mono (fun e w3 h => ⟨h.1, hw2.ext h.2⟩))))
    apply OL.nil
    with_reducible apply At.tk; exact fun w hw => hw
    apply TL.one rfl
    apply OL.buildSlice; rfl; rfl; rfl; apply Elems.cons rfl; exact CellsL.agg; rfl; apply Elems.nil; apply App.cons; apply App.cons; apply App.cons; apply App.cons; apply App.cons; apply App.nil; rfl; rfl; intro bk hbk
    apply OL.nil
    refine At.tk (fun w hw => hw.thin ?_) ?_; refine Thin.blk (by assumption) ?_; exact Thin.same
    apply TL.one rfl
    apply OL.append; rfl; rfl; rfl; rfl; apply Hole.s; apply Hole.s; apply Hole.s; apply Hole.s; apply Hole.z; exact .head _; apply Take.succ; apply Take.succ; apply Take.succ; apply Take.succ; apply Take.succ; apply Take.zero; rfl; rfl; assumption; omega; intro O1 g1 cap1
    apply OL.nil
    with_reducible apply At.tn; decide +kernel
    apply TL.one rfl
    apply OL.storeB; rfl; rfl; exact CellsL.one rfl; rfl; rfl; rfl; apply Swap.s; apply Swap.z; apply Put.here; apply Over.cons; apply Over.nil
    apply OL.nil
    with_reducible apply At.tn; decide +kernel
    apply TL.nil
    with_reducible apply At.np
    with_reducible apply At.next
    apply W.reg
    apply old; rfl; rfl; exact .tail _ (.tail _ (.head _)); rfl; rfl
    apply old; rfl; rfl; exact .tail _ (.tail _ (.head _)); rfl; rfl
    apply OL.op; exact Guard.none; rfl; rfl; apply Pev.len_slice; rfl; exact yes; rfl
    apply obn; rfl; rfl; rfl; apply Bin.sub_in; omega
    apply OL.op; exact Guard.none; rfl; rfl; apply Pev.slice_hi; rfl; exact yes; rfl; exact yes; rfl; (first | exact (Int.toNat_of_nonneg (by omega)).symm | omega); intro hcond; omega
    apply OL.storeB; rfl; rfl; exact CellsL.one rfl; rfl; rfl; rfl; apply Swap.s; apply Swap.s; apply Swap.z; apply Put.here; apply Over.cons; apply Over.nil
    apply OL.nil
    with_reducible apply At.in_normal
    with_reducible apply At.next
    apply W.reg
    apply omv; rfl; rfl
    apply obn; rfl; rfl; rfl; apply Bin.sub_in; omega
    apply oas; rfl; rfl
    apply OL.nil
    refine At.again (i + 1, ⟨y1.q, y1.c, y1.O, some ⟨g1, 0, none⟩, cap1, O1⟩) (by simp only; omega) (by simp only; omega) (by (repeat (first | exact Sub.nil | apply Sub.cons rfl | (refine Sub.cons_eq rfl (congrArg (Value.int .i64) (by first | omega | (simp only; omega))) ?_)))) (fun w' hw' => ?_)
    have e : cat tc (out ++ List.replicate (i + 1) (tk 7 t)) = cat tc (out ++ List.replicate i (tk 7 t)) ++ tc (tk 7 t) := by rw [← rep_succ, cat_append, cat_one]
    have e2 : (out ++ List.replicate (i + 1) (tk 7 t)).length = (out ++ List.replicate i (tk 7 t)).length + 1 := by simp only [List.length_append, List.length_replicate]; omega
    simp only [RI, e, e2]
    rw [show (((s.drop (i + 1)).length + 1 : Nat) : Int) - 1 = ((s.drop (i + 1)).length : Nat) by omega, Int.toNat_natCast] at hw'
    have h2 := hw'.thin (H' := _ :: _ :: _ :: _ :: _ :: H) (Thin.blk (by assumption) Thin.same)
    exact Cls.rowPop (p := 2) (s.drop (i + 1)).length (cat cc (s.drop (i + 1)).reverse) (.s (.s .z)) (by omega) (by rw [List.reverse_cons, cat_append, ← List.length_reverse, ← cat_length clen, List.take_left]) h2
  · obtain rfl : i = m := by omega
    apply W.exit
    with_reducible apply At.then_exit
    with_reducible apply At.then_exit
    with_reducible apply At.in_exit
    refine At.end_ (At.fin0 rfl (fun w' hw' => ⟨y1, rfl, trivial, ?_⟩))
    exact (Cls.out4 hw').thin (Thin.blk (by assumption) Thin.same)
end Go.Proofs.Ytlcclcakdfmgkaa.ly
