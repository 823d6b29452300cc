/- The walks of the store: out, front, drop, New, Used. Conditions: none. -/
import Derived.Test.YtlcclcakdfmgkaaStP
import Derived.Test.YtlcclcakdfmgkaaRows
namespace Go.Proofs.Ytlcclcakdfmgkaa.st
open Go.RowKit Go.Eng Go.St
set_option linter.unusedVariables false
set_option linter.unusedSimpArgs false
set_option maxRecDepth 100000

/-- the store's memory -/
def SI (room r sb mb : Nat) (f : NdT) (m : MP) (u : Int) (H : List Eng.Item) : List Eng.Item :=
  nds 64 f :: blk sb 67 [.int .i64 (room : Int), .int .i64 u, .pointer (some ⟨r, 0, none⟩), .map (some mb)] :: mapS mb m :: H

theorem out_calls (p a b : Nat) (u v : BA) (f : NdT) (H : List Eng.Item) (S : List World) (w : World) (hf : f p = some ⟨u, v, some b, some a⟩) (ha : (f a).isSome = true) (hb : (f b).isSome = true) (hc : Cls (nds 64 f :: H) S w) :
    Calls Try.prog 25 #[.pointer (some ⟨p, 0, none⟩)] w fun e w' => e = .returned (.tuple #[]) ∧ Cls (nds 64 (foutF f a b) :: H) S w' := by
  refine enter Try.func25 rfl Try.ntmps25 rfl hc ?_
  (simp only [argEnv, Nat.zero_add, Nat.reduceAdd])
  apply W.seq
  apply W.regd0; decide +kernel; kernel_rfl; decide +kernel; exact fun w hw => hw.drew
  apply qmv; rfl; rfl
  apply QL.op; exact Guard.none; rfl; rfl; apply Pev.nil_ptr; rfl; exact yes
  apply qfa; rfl; rfl; rfl
  apply QL.op; exact Guard.none; rfl; rfl; apply Pev.load_nd; rfl; exact yes; exact .head _; rfl; assumption; rfl
  apply qmv; rfl; rfl
  apply QL.op; exact Guard.none; rfl; rfl; apply Pev.nil_ptr; rfl; exact yes
  apply qfa; rfl; rfl; rfl
  apply QL.op; exact Guard.none; rfl; rfl; apply Pev.load_nd; rfl; exact yes; exact .head _; rfl; assumption; rfl
  apply qas; rfl; rfl
  apply qas; rfl; rfl
  apply QL.nil
  with_reducible apply At.next
  apply W.seq
  apply W.reg
  apply omv; rfl; rfl
  apply omv; rfl; rfl
  apply OL.op; exact Guard.none; rfl; rfl; apply Pev.nil_ptr; rfl; exact yes
  apply ofa; rfl; rfl; rfl
  apply OL.storePr; rfl; rfl; rfl; apply Hole.z; assumption
  apply OL.nil
  with_reducible apply At.next
  apply W.reg
  apply omv; rfl; rfl
  apply omv; rfl; rfl
  apply OL.op; exact Guard.none; rfl; rfl; apply Pev.nil_ptr; rfl; exact yes
  apply ofa; rfl; rfl; rfl
  apply OL.storeNx; rfl; rfl; rfl; apply Hole.z; (simp only [setNx_some, setPr_some]; assumption)
  apply OL.nil
  refine At.end_ (At.fin0 rfl fun w' hw' => ⟨rfl, hw'⟩)
theorem front_calls (room r sb mb p a : Nat) (x : Nd) (f : NdT) (m : MP) (u : Int) (H : List Eng.Item) (S : List World) (w : World) (hr : f r = some ⟨x.key, x.val, x.nx, some a⟩) (ha : (f a).isSome = true) (hp : (f p).isSome = true) (hc : Cls (SI room r sb mb f m u H) S w) :
    Calls Try.prog 26 #[.pointer (some ⟨sb, 0, none⟩), .pointer (some ⟨p, 0, none⟩)] w fun e w' => e = .returned (.tuple #[]) ∧ Cls (SI room r sb mb (ffrontF f r a p) m u H) S w' := by
  have hrs : (f r).isSome = true := by rw [hr]; rfl
  unfold SI at hc
  refine enter Try.func26 rfl Try.ntmps26 rfl hc ?_
  (simp only [argEnv, Nat.zero_add, Nat.reduceAdd])
  apply W.seq
  apply W.reg
  apply omv; rfl; rfl
  apply OL.op; exact Guard.none; rfl; rfl; apply Pev.nil_ptr; rfl; exact yes
  apply ofa; rfl; rfl; rfl
  apply old; rfl; rfl; exact .tail _ (.head _); rfl; rfl
  apply OL.op; exact Guard.none; rfl; rfl; apply Pev.nil_ptr; rfl; exact yes
  apply ofa; rfl; rfl; rfl
  apply OL.op; exact Guard.none; rfl; rfl; apply Pev.load_nd; rfl; exact yes; exact .head _; rfl; assumption; rfl
  apply oas; rfl; rfl
  apply OL.nil
  with_reducible apply At.next
  apply W.seq
  apply W.reg
  apply omv; rfl; rfl
  apply omv; rfl; rfl
  apply omv; rfl; rfl
  apply OL.op; exact Guard.none; rfl; rfl; apply Pev.nil_ptr; rfl; exact yes
  apply ofa; rfl; rfl; rfl
  apply old; rfl; rfl; exact .tail _ (.head _); rfl; rfl
  apply omv; rfl; rfl
  apply OL.op; exact Guard.none; rfl; rfl; apply Pev.nil_ptr; rfl; exact yes
  apply ofa; rfl; rfl; rfl
  apply OL.storeNx; rfl; rfl; rfl; apply Hole.z; assumption
  apply OL.op; exact Guard.none; rfl; rfl; apply Pev.nil_ptr; rfl; exact yes
  apply ofa; rfl; rfl; rfl
  apply OL.storePr; rfl; rfl; rfl; apply Hole.z; (simp only [setNx_some, setPr_some]; assumption)
  apply OL.nil
  with_reducible apply At.next
  apply W.seq
  apply W.reg
  apply omv; rfl; rfl
  apply omv; rfl; rfl
  apply OL.op; exact Guard.none; rfl; rfl; apply Pev.nil_ptr; rfl; exact yes
  apply ofa; rfl; rfl; rfl
  apply OL.storeNx; rfl; rfl; rfl; apply Hole.z; (simp only [setNx_some, setPr_some]; assumption)
  apply OL.nil
  with_reducible apply At.next
  apply W.reg
  apply omv; rfl; rfl
  apply OL.op; exact Guard.none; rfl; rfl; apply Pev.nil_ptr; rfl; exact yes
  apply ofa; rfl; rfl; rfl
  apply old; rfl; rfl; exact .tail _ (.head _); rfl; rfl
  apply omv; rfl; rfl
  apply OL.op; exact Guard.none; rfl; rfl; apply Pev.nil_ptr; rfl; exact yes
  apply ofa; rfl; rfl; rfl
  apply OL.storePr; rfl; rfl; rfl; apply Hole.z; (simp only [setNx_some, setPr_some]; assumption)
  apply OL.nil
  refine At.end_ (At.fin0 rfl fun w' hw' => ⟨rfl, hw'⟩)
theorem drop_calls (room r sb mb p a b : Nat) (k v : BA) (f : NdT) (m : MP) (u : Int) (H : List Eng.Item) (S : List World) (w : World) (hf : f p = some ⟨k, v, some b, some a⟩) (ha : (f a).isSome = true) (hb : (f b).isSome = true) (hm : (mget m k).isSome = true) (hu : (k.size : Int) + v.size ≤ u ∧ u ≤ 16777216) (hc : Cls (SI room r sb mb f m u H) S w) :
    Calls Try.prog 24 #[.pointer (some ⟨sb, 0, none⟩), .pointer (some ⟨p, 0, none⟩)] w fun e w' => e = .returned (.tuple #[]) ∧ Cls (SI room r sb mb (foutF f a b) (mdel m k) (u - ((k.size : Int) + v.size)) H) S w' := by
  unfold SI at hc
  refine enter Try.func24 rfl Try.ntmps24 rfl hc ?_
  (simp only [argEnv, Nat.zero_add, Nat.reduceAdd])
  apply W.seq
  apply W.regq; apply Split.s rfl; apply Split.s rfl; apply Split.s rfl; apply Split.s rfl; apply Split.s rfl; apply Split.s rfl; apply Split.s rfl; apply Split.s rfl; apply Split.s rfl; apply Split.s rfl; apply Split.s rfl; apply Split.s rfl; apply Split.s rfl; apply Split.s rfl; apply Split.s rfl; apply Split.s rfl; apply Split.s rfl; apply Split.s rfl; exact Split.z rfl; kernel_rfl; decide +kernel; exact fun w hw => hw.drew
  apply qmv; rfl; rfl
  apply QL.op; exact Guard.none; rfl; rfl; apply Pev.nil_ptr; rfl; exact yes
  apply qfa; rfl; rfl; rfl
  apply qld; rfl; rfl; exact .tail _ (.head _); rfl; rfl
  apply qmv; rfl; rfl
  apply QL.op; exact Guard.none; rfl; rfl; apply Pev.nil_ptr; rfl; exact yes
  apply qfa; rfl; rfl; rfl
  apply QL.op; exact Guard.none; rfl; rfl; apply Pev.load_nd; rfl; exact yes; exact .head _; rfl; assumption; rfl
  apply QL.op; exact Guard.none; rfl; rfl; apply Pev.len_str; rfl; exact yes; rfl
  apply qmv; rfl; rfl
  apply QL.op; exact Guard.none; rfl; rfl; apply Pev.nil_ptr; rfl; exact yes
  apply qfa; rfl; rfl; rfl
  apply QL.op; exact Guard.none; rfl; rfl; apply Pev.load_nd; rfl; exact yes; exact .head _; rfl; assumption; rfl
  apply QL.op; exact Guard.none; rfl; rfl; apply Pev.len_str; rfl; exact yes; rfl
  apply qbn; rfl; rfl; rfl; apply Bin.add_in; omega
  apply qbn; rfl; rfl; rfl; apply Bin.sub_in; omega
  apply QL.op; exact Guard.none; rfl; rfl; apply Pev.nil_ptr; rfl; exact yes
  apply qfa; rfl; rfl; rfl
  with_reducible apply QL.tail
  apply OL.storeB; rfl; rfl; exact CellsL.one rfl; rfl; rfl; rfl; apply Swap.s; apply Swap.z; apply Put.skip; apply Put.here; apply Over.cons; apply Over.nil
  apply OL.nil
  with_reducible apply At.next
  apply W.seq
  apply W.regq; apply Split.s rfl; apply Split.s rfl; apply Split.s rfl; apply Split.s rfl; apply Split.s rfl; apply Split.s rfl; apply Split.s rfl; apply Split.s rfl; exact Split.z rfl; kernel_rfl; decide +kernel; exact fun w hw => hw.drew
  apply qmv; rfl; rfl
  apply QL.op; exact Guard.none; rfl; rfl; apply Pev.nil_ptr; rfl; exact yes
  apply qfa; rfl; rfl; rfl
  apply qld; rfl; rfl; exact .tail _ (.head _); rfl; rfl
  apply qmv; rfl; rfl
  apply QL.op; exact Guard.none; rfl; rfl; apply Pev.nil_ptr; rfl; exact yes
  apply qfa; rfl; rfl; rfl
  apply QL.op; exact Guard.none; rfl; rfl; apply Pev.load_nd; rfl; exact yes; exact .head _; rfl; assumption; rfl
  with_reducible apply QL.tail
  apply OL.mapDel; rfl; rfl; rfl; apply Hole.s; apply Hole.s; apply Hole.z; assumption
  apply OL.nil
  with_reducible apply At.next
  apply W.reg
  apply omv; rfl; rfl
  refine OL.callE (α := Unit) (fun _ => .tuple #[]) (fun _ => True) (fun _ => Cls (SI room r sb mb (foutF f a b) (mdel m k) (u - ((k.size : Int) + v.size)) H) S) rfl rfl (by (repeat (first | exact Args.nil | (apply Args.cons rfl; ((first | exact fun _ => rfl | exact fun h => h | (intro h; simp_all; done))))))) (fun w2 hw2 => (out_calls p a b k v f _ _ w2 hf ha hb hw2).mono fun e w' h => ⟨(), h.1, trivial, h.2⟩) ?_
  intro _ _
  apply OL.nil
  refine At.end_ (At.fin0 rfl fun w' hw' => ⟨rfl, hw'⟩)
theorem Used_calls (room r sb mb : Nat) (f : NdT) (m : MP) (u : Int) (H : List Eng.Item) (S : List World) (w : World) (hc : Cls (SI room r sb mb f m u H) S w) :
    Calls Try.prog 7 #[.pointer (some ⟨sb, 0, none⟩)] w fun e w' => e = .returned (.int .i64 u) ∧ Cls (SI room r sb mb f m u H) S w' := by
  unfold SI at hc
  refine enter Try.func7 rfl Try.ntmps7 rfl hc ?_
  (simp only [argEnv, Nat.zero_add, Nat.reduceAdd])
  apply W.seq
  apply W.reg
  apply oas; rfl; rfl
  apply OL.nil
  with_reducible apply At.next
  apply W.seq
  apply W.reg
  apply omv; rfl; rfl
  apply OL.op; exact Guard.none; rfl; rfl; apply Pev.nil_ptr; rfl; exact yes
  apply ofa; rfl; rfl; rfl
  apply old; rfl; rfl; exact .tail _ (.head _); rfl; rfl
  apply oas; rfl; rfl
  apply OL.nil
  with_reducible apply At.next
  apply W.ret
  ((with_reducible apply At.fin1); rfl; rfl; intro w' hw')
  exact ⟨rfl, hw'⟩
theorem New_bad (x : Int) (S : List World) (H : List Eng.Item) (w : World) (hx : x < 0 ∨ 16777216 < x) (hc : Cls H S w) :
    Calls Try.prog 6 #[.int .i64 x] w fun e w' => e = .returned (.tuple #[.pointer none, .int .i64 4]) ∧ Cls H S w' := by
  refine enter Try.func6 rfl Try.ntmps6 rfl hc ?_
  (simp only [argEnv, Nat.zero_add, Nat.reduceAdd])
  apply W.seq
  apply W.reg
  apply oas; rfl; rfl
  apply oas; rfl; rfl
  apply OL.nil
  with_reducible apply At.next
  apply W.seq
  apply W.seq
  apply W.reg
  apply omv; rfl; rfl
  apply obn; rfl; rfl; rfl; apply Bin.lss
  apply omv; rfl; rfl
  apply OL.op; exact Guard.no rfl rfl; rfl; rfl; apply Pev.move; rfl; exact yes
  apply OL.op; exact Guard.no rfl rfl; rfl; rfl; apply Pev.bin; rfl; exact fun h => h; rfl; exact yes; intro hcond; apply Bin.gtr
  apply OL.op; exact Guard.none; rfl; rfl; apply Pev.pick_or; rfl; exact yes; rfl; exact fun h => h
  apply OL.nil
  with_reducible apply At.next
  refine W.cond rfl (fun h => ?_) (fun h => ?_)
  · apply W.seq
    apply W.reg
    apply oas; rfl; rfl
    apply oas; rfl; rfl
    apply OL.nil
    with_reducible apply At.next
    apply W.ret
    with_reducible apply At.then_ret
    ((with_reducible apply At.fin2); rfl; rfl; rfl; intro w' hw')
    exact ⟨rfl, hw'⟩
  · exfalso
    simp only [Bool.and_eq_true, Bool.or_eq_true, Bool.not_eq_true', Bool.and_eq_false_iff, Bool.or_eq_false_iff, Bool.not_eq_false', decide_eq_true_eq, decide_eq_false_iff_not, Int.not_lt, Int.not_le] at h
    omega
theorem New_calls (room : Nat) (S : List World) (H : List Eng.Item) (w : World) (hx : room ≤ 16777216) (hc : Cls H S w) :
    Calls Try.prog 6 #[.int .i64 (room : Int)] w fun e w' => ∃ r sb mb f, w.heap.size ≤ sb ∧ w.heap.size ≤ mb ∧ e = .returned (.tuple #[.pointer (some ⟨sb, 0, none⟩), .int .i64 0]) ∧ SOK w.heap.size room r f [] [] ∧ Cls (SI room r sb mb f [] 0 H) S w' := by
  refine enter Try.func6 rfl Try.ntmps6 rfl hc.note ?_
  (simp only [argEnv, Nat.zero_add, Nat.reduceAdd])
  apply W.seq
  apply W.reg
  apply oas; rfl; rfl
  apply oas; rfl; rfl
  apply OL.nil
  with_reducible apply At.next
  apply W.seq
  apply W.seq
  apply W.reg
  apply omv; rfl; rfl
  apply obn; rfl; rfl; rfl; apply Bin.lss
  apply omv; rfl; rfl
  apply OL.op; exact Guard.no rfl rfl; rfl; rfl; apply Pev.move; rfl; exact yes
  apply OL.op; exact Guard.no rfl rfl; rfl; rfl; apply Pev.bin; rfl; exact yes; rfl; exact yes; intro hcond; apply Bin.gtr
  apply OL.op; exact Guard.none; rfl; rfl; apply Pev.pick_or; rfl; exact yes; rfl; exact yes
  apply OL.nil
  with_reducible apply At.next
  refine W.cond rfl (fun h => ?_) (fun h => ?_)
  · exfalso
    simp only [Bool.and_eq_true, Bool.or_eq_true, Bool.not_eq_true', Bool.and_eq_false_iff, Bool.or_eq_false_iff, Bool.not_eq_false', decide_eq_true_eq, decide_eq_false_iff_not, Int.not_lt, Int.not_le] at h
    omega
  · apply W.skip
    with_reducible apply At.next
    apply W.seq
    apply W.reg
    apply OL.op; exact Guard.none; rfl; rfl; apply Pev.build; rfl; exact CellsL.agg; rfl; apply Fill.nil; rfl
    apply OL.box; rfl; rfl; exact CellsL.agg; (intro bk hbk; simp only [AllLe, and_true] at hbk)
    apply oas; rfl; rfl
    apply OL.nil
    with_reducible apply At.next
    apply W.seq
    apply W.reg
    apply omv; rfl; rfl
    apply omv; rfl; rfl
    apply omv; rfl; rfl
    apply omv; rfl; rfl
    apply OL.op; exact Guard.none; rfl; rfl; apply Pev.nil_ptr; rfl; exact yes
    apply ofa; rfl; rfl; rfl
    apply OL.storeB; rfl; rfl; exact CellsL.one rfl; rfl; rfl; rfl; apply Swap.z; apply Put.skip; apply Put.skip; apply Put.here; apply Over.cons; apply Over.nil
    apply OL.op; exact Guard.none; rfl; rfl; apply Pev.nil_ptr; rfl; exact yes
    apply ofa; rfl; rfl; rfl
    apply OL.storeB; rfl; rfl; exact CellsL.one rfl; rfl; rfl; rfl; apply Swap.z; apply Put.skip; apply Put.skip; apply Put.skip; apply Put.here; apply Over.cons; apply Over.nil
    apply OL.nil
    with_reducible apply At.next
    apply W.seq
    apply W.reg
    apply omv; rfl; rfl
    apply omv; rfl; rfl
    apply OL.makeMap; rfl; rfl; (intro bk hbk; simp only [AllLe, and_true] at hbk)
    apply OL.op; exact Guard.none; rfl; rfl; apply Pev.build; rfl; exact CellsL.agg; rfl; apply Fill.cons rfl; exact CellsL.one rfl; rfl; rfl; apply Put.here; apply Over.cons; apply Over.nil; apply Fill.cons rfl; exact CellsL.one rfl; rfl; rfl; apply Put.skip; apply Put.skip; apply Put.here; apply Over.cons; apply Over.nil; apply Fill.cons rfl; exact CellsL.one rfl; rfl; rfl; apply Put.skip; apply Put.skip; apply Put.skip; apply Put.here; apply Over.cons; apply Over.nil; apply Fill.nil; rfl
    apply OL.box; rfl; rfl; exact CellsL.agg; (intro bk hbk; simp only [AllLe, and_true] at hbk)
    apply oas; rfl; rfl
    apply oas; rfl; rfl
    apply OL.nil
    with_reducible apply At.next
    apply W.ret
    ((with_reducible apply At.fin2); rfl; rfl; rfl; intro w' hw')
    rename_i r hr mb hmb
    have hr' := hr.1
    have hm' := hmb.1
    have hb' := hbk.1
    refine ⟨r, bk, mb, fset (fun _ => none) r ⟨⟨#[]⟩, ⟨#[]⟩, some r, some r⟩, hb', hm', rfl, ⟨⟨?_, ?_, ?_, fun e he => (by cases he)⟩, ⟨List.nodup_nil, fun s v => ⟨fun h => (by cases h), fun ⟨e, he, _⟩ => (by cases he)⟩⟩, List.nodup_nil, Nat.zero_le _, fun k hk => by rw [fset_other (by omega)]⟩, ?_⟩
    · exact ⟨⟨by simp [nxO, fset], by simp [prO, fset]⟩, trivial⟩
    · simp
    · simp [fset]
    · exact Cls.forget (S := w :: S) (h := Cls.nd_new (nd := ⟨⟨#[]⟩, ⟨#[]⟩, some r, some r⟩) (Cls.flip (Cls.nds_zero (hw'.perm (List.perm_append_comm (l₁ := [_, _]) (l₂ := [_]) |>.append_right H))))) (fun s hs => .tail _ hs)
end Go.Proofs.Ytlcclcakdfmgkaa.st
