/- The walks of source.Check, Line, Offset, Place, of the reference's TextError, PlaceOf, OffsetOf, and of the law SourcePlaces. Condition: the variable bytealg.MaxLen holds some int. -/
import Derived.Test.YtikamdddfpjmaaaDoorSpP
import Derived.Test.YtikamdddfpjmaaaDoorCln
import Derived.Test.YtikamdddfpjmaaaDoorTob
import Derived.Test.YtikamdddfpjmaaaDoorZip
import Derived.Test.YtikamdddfpjmaaaDoorGat
import Derived.Test.YtikamdddfpjmaaaDoorSh
import Derived.Shelf.Strings.Split
import Derived.Shelf.Strings.LastIndex
import Derived.Shelf.Strings.Count
import Derived.Shelf.Small.Strs
namespace Go.Proofs.YtikamdddfpjmaaaDoor.sp
open Go.RowKit Go.Eng Go.Sp Go.Shelf
set_option linter.unusedVariables false
set_option linter.unusedSimpArgs false
set_option maxRecDepth 100000

def maxAt (w : World) : Prop := ∃ m, w.cell? ⟨0, 0, none⟩ = some (.int .i64 m)
theorem maxAt_of {w : World} (h : w.ShapedOpen Tryd.prog) : maxAt w := Tryd.laysM146.s1_3 w h
theorem maxAt_ext {w w' : World} (hx : Ext w w') (h : maxAt w) : maxAt w' := h.elim fun m hm => ⟨m, (World.cell?_of_block (hx.below.block _ (cell_lt hm))).trans hm⟩
theorem indexByte_calls (s : ByteArray) (c : Int) (w : World) :
    Calls Tryd.prog 13 #[.string s, .int .u8 c] w fun e w' => e = .returned (.int .i64 (Lib.indexByte s.data.toList c.toNat.toUInt8)) ∧ w' = w := Any.strings_IndexByte Tryd.lays137 s c w
theorem count_calls (s : ByteArray) (w : World) :
    Calls Tryd.prog 10 #[.string s, .string ⟨#[10]⟩] w fun e w' => e = .returned (.int .i64 (s.data.toList.count 10 : Nat)) ∧ w' = w := Any.strings_Count_one Tryd.lays138 s 10 w
theorem last_calls (s : ByteArray) (hs : s.size < 4611686018427387904) (w : World) :
    Calls Tryd.prog 11 #[.string s, .int .u8 10] w fun e w' => e = .returned (.int .i64 (Lib.lastIndexByte s 10)) ∧ w' = w := Any.strings_LastIndexByte Tryd.lays149 s 10 hs w
theorem split_calls (s : ByteArray) (hs : s.size < 4294967281) (w : World) (hm : maxAt w) :
    Calls Tryd.prog 18 #[.string s, .string ⟨#[10]⟩] w fun e w' => e = .returned (.slice (some ⟨w.heap.size, 0, none⟩) (pcs s).length (pcs s).length) ∧ w' = w.alloc (.cells (strs (pcs s)).toArray 9) := by
  obtain ⟨m, hm⟩ := hm
  rw [pcs_len]
  exact Any.strings_Split { Tryd.laysM146 with } Tryd.laysM146.i9 s nl m w hs hm (by decide)

theorem Check_calls (s : ByteArray) (hs : s.size ≤ 9223372036854775807) (w : World) : Calls Tryd.prog 7 #[.string s] w fun e w' => e = .returned (.int .i64 (chk s)) ∧ Ext w w' := by
  refine enter Tryd.func7 rfl Tryd.ntmps7 rfl (Cls.start w) ?_
  (simp only [argEnv, Nat.zero_add, Nat.reduceAdd])
  apply W.seq
  apply W.reg
  apply oas; rfl; rfl
  apply OL.nil
  with_reducible apply At.next
  apply W.seq
  apply W.seq
  apply W.reg
  apply omv; rfl; rfl
  apply OL.op; exact Guard.none; rfl; rfl; apply Pev.len_str; rfl; exact yes; rfl
  apply obn; rfl; rfl; rfl; apply Bin.gtr
  apply OL.nil
  with_reducible apply At.next
  (refine W.cond rfl (fun hl => ?_) (fun hl => ?_)) <;> (try (simp only [Bool.and_eq_true, Bool.or_eq_true, Bool.not_eq_true', Bool.and_eq_false_iff, Bool.or_eq_false_iff, Bool.not_eq_false', decide_eq_true_eq, decide_eq_false_iff_not, Int.not_lt, Int.not_le] at hl)) <;> (try (exfalso; first | omega | exact hl trivial | contradiction))
  · apply W.seq
    apply W.reg
    apply oas; rfl; rfl
    apply OL.nil
    with_reducible apply At.next
    apply W.ret
    with_reducible apply At.then_ret
    ((with_reducible apply At.fin1); rfl; rfl; intro w' hw')
    exact ⟨by unfold chk; rw [if_pos (by omega)], by (exact hw'.toExt (by (repeat (first | exact List.Mem.head _ | apply List.Mem.tail))) (fun k hk => by (focus ((try simp only [add_block]); (repeat (first | exact NotOwned.nil | exact hno _ (by omega) | refine NotOwned.nothing ?_ | refine NotOwned.nds (hlow _ (by omega)) ?_ | refine NotOwned.mapS (by omega) ?_ | apply NotOwned.bif | refine NotOwned.blk (by omega) ?_ | refine NotOwned.row (by omega) ?_ | refine NotOwned.grid (by assumption) (by omega) ?_)); done))))⟩
  have hc : chk s = if badL s.data.toList then 5 else 0 := by unfold chk; rw [if_neg (by omega)]
  rw [hc]
  apply W.skip
  with_reducible apply At.next
  apply W.seq
  apply W.seq
  apply W.reg
  apply omv; rfl; rfl
  apply OL.op; exact Guard.none; rfl; rfl; apply Pev.len_str; rfl; exact yes; rfl
  apply omv; rfl; rfl
  apply OL.nil
  with_reducible apply At.next
  apply W.block
  refine W.loop (G := Nat) (fun i => i ≤ s.size ∧ badL (s.data.toList.drop i) = badL s.data.toList) (fun i => s.size - i)
    (fun i => [(0, true, .string s), (9, true, .int .i64 (s.size : Int)), (10, true, .int .i64 (i : Int))])
    (fun i => Cls [] [w]) 0 ⟨by omega, rfl⟩ (by (repeat (first | exact Sub.nil | apply Sub.cons rfl | (refine Sub.cons_eq rfl (congrArg (Value.int .i64) (by first | omega | (simp only; omega))) ?_)))) (fun w' hw' => hw') ?_
  rintro i ⟨hi, hrest⟩
  apply W.seq
  apply W.reg
  apply obn; rfl; rfl; rfl; apply Bin.lss
  apply OL.nil
  with_reducible apply At.next
  apply W.seq
  (refine W.cond rfl (fun hlt => ?_) (fun hlt => ?_)) <;> (try (simp only [Bool.and_eq_true, Bool.or_eq_true, Bool.not_eq_true', Bool.and_eq_false_iff, Bool.or_eq_false_iff, Bool.not_eq_false', decide_eq_true_eq, decide_eq_false_iff_not, Int.not_lt, Int.not_le] at hlt)) <;> (try (exfalso; first | omega | exact hlt trivial | contradiction))
  · have hil : i < s.size := by omega
    have hbt := bt_lo s i
    rw [badL_step hil] at hrest
    apply W.skip
    with_reducible apply At.next
    apply W.seq
    apply W.block
    apply W.seq
    apply W.reg
    apply omv; rfl; rfl
    apply oas; rfl; rfl
    apply OL.nil
    with_reducible apply At.next
    apply W.seq
    apply W.reg
    apply omv; rfl; rfl
    apply omv; rfl; rfl
    apply OL.op; exact Guard.none; rfl; rfl; apply Pev.index_str; rfl; exact yes; rfl; exact yes; rfl; (intro hcond; refine ⟨rfl, ?_⟩); omega
    apply oas; rfl; rfl
    apply OL.nil
    with_reducible apply At.next
    apply W.seq
    apply W.reg
    apply omv; rfl; rfl
    apply obn; rfl; rfl; rfl; apply Bin.neq
    apply omv; rfl; rfl
    apply OL.op; exact Guard.yes rfl rfl; rfl; rfl; apply Pev.move; rfl; exact yes
    apply OL.op; exact Guard.yes rfl rfl; rfl; rfl; apply Pev.bin; rfl; exact fun h => h; rfl; exact yes; intro hcond; apply Bin.lss
    apply OL.op; exact Guard.yes rfl rfl; rfl; rfl; apply Pev.move; rfl; exact fun h => h
    apply OL.op; exact Guard.cno rfl rfl; rfl; rfl; apply Pev.move; rfl; exact yes
    apply OL.op; exact Guard.cno rfl rfl; rfl; rfl; apply Pev.bin; rfl; exact fun h => h; rfl; exact yes; intro hcond; apply Bin.gtr
    apply OL.op; exact Guard.yes rfl rfl; rfl; rfl; apply Pev.pick_or; rfl; exact fun h => h; rfl; exact fun h => h
    apply OL.op; exact Guard.none; rfl; rfl; apply Pev.pick_and; rfl; exact yes; rfl; exact fun h => h
    apply OL.nil
    with_reducible apply At.next
    refine W.cond rfl (fun hb => ?_) (fun hb => ?_)
    · have hbad : badI (bt s i) = true := hb
      apply W.seq
      apply W.reg
      apply oas; rfl; rfl
      apply OL.nil
      with_reducible apply At.next
      apply W.ret
      with_reducible apply At.in_ret
      with_reducible apply At.then_ret
      with_reducible apply At.then_ret
      with_reducible apply At.in_ret
      with_reducible apply At.then_ret
      ((with_reducible apply At.fin1); rfl; rfl; intro w' hw')
      exact ⟨by rw [← hrest, hbad]; rfl, by (exact hw'.toExt (by (repeat (first | exact List.Mem.head _ | apply List.Mem.tail))) (fun k hk => by (focus ((try simp only [add_block]); (repeat (first | exact NotOwned.nil | exact hno _ (by omega) | refine NotOwned.nothing ?_ | refine NotOwned.nds (hlow _ (by omega)) ?_ | refine NotOwned.mapS (by omega) ?_ | apply NotOwned.bif | refine NotOwned.blk (by omega) ?_ | refine NotOwned.row (by omega) ?_ | refine NotOwned.grid (by assumption) (by omega) ?_)); done))))⟩
    · have hbad : badI (bt s i) = false := hb
      rw [hbad, Bool.false_or] at hrest
      apply W.skip
      with_reducible apply At.in_normal
      with_reducible apply At.next
      apply W.reg
      apply obn; rfl; rfl; rfl; apply Bin.add_in; omega
      apply omv; rfl; rfl
      apply OL.nil
      exact At.again (i + 1) ⟨by omega, hrest⟩ (by omega) (by (repeat (first | exact Sub.nil | apply Sub.cons rfl | (refine Sub.cons_eq rfl (congrArg (Value.int .i64) (by first | omega | (simp only; omega))) ?_)))) (fun w' hw' => hw')
  · rw [badL_end (by omega)] at hrest
    apply W.exit
    with_reducible apply At.then_exit
    with_reducible apply At.then_exit
    with_reducible apply At.in_exit
    with_reducible apply At.next
    apply W.seq
    apply W.reg
    apply oas; rfl; rfl
    apply OL.nil
    with_reducible apply At.next
    apply W.ret
    ((with_reducible apply At.fin1); rfl; rfl; intro w' hw')
    exact ⟨by rw [← hrest]; rfl, by (exact hw'.toExt (by (repeat (first | exact List.Mem.head _ | apply List.Mem.tail))) (fun k hk => by (focus ((try simp only [add_block]); (repeat (first | exact NotOwned.nil | exact hno _ (by omega) | refine NotOwned.nothing ?_ | refine NotOwned.nds (hlow _ (by omega)) ?_ | refine NotOwned.mapS (by omega) ?_ | apply NotOwned.bif | refine NotOwned.blk (by omega) ?_ | refine NotOwned.row (by omega) ?_ | refine NotOwned.grid (by assumption) (by omega) ?_)); done))))⟩
theorem TextError_calls (s : ByteArray) (hs : s.size ≤ 9223372036854775807) (w : World) : Calls Tryd.prog 5 #[.string s] w fun e w' => e = .returned (.int .i64 (chk s)) ∧ Ext w w' := by
  refine enter Tryd.func5 rfl Tryd.ntmps5 rfl (Cls.start w) ?_
  (simp only [argEnv, Nat.zero_add, Nat.reduceAdd])
  apply W.seq
  apply W.reg
  apply oas; rfl; rfl
  apply OL.nil
  with_reducible apply At.next
  apply W.seq
  apply W.seq
  apply W.reg
  apply omv; rfl; rfl
  apply OL.op; exact Guard.none; rfl; rfl; apply Pev.len_str; rfl; exact yes; rfl
  apply obn; rfl; rfl; rfl; apply Bin.gtr
  apply OL.nil
  with_reducible apply At.next
  (refine W.cond rfl (fun hl => ?_) (fun hl => ?_)) <;> (try (simp only [Bool.and_eq_true, Bool.or_eq_true, Bool.not_eq_true', Bool.and_eq_false_iff, Bool.or_eq_false_iff, Bool.not_eq_false', decide_eq_true_eq, decide_eq_false_iff_not, Int.not_lt, Int.not_le] at hl)) <;> (try (exfalso; first | omega | exact hl trivial | contradiction))
  · apply W.seq
    apply W.reg
    apply oas; rfl; rfl
    apply OL.nil
    with_reducible apply At.next
    apply W.ret
    with_reducible apply At.then_ret
    ((with_reducible apply At.fin1); rfl; rfl; intro w' hw')
    exact ⟨by unfold chk; rw [if_pos (by omega)], by (exact hw'.toExt (by (repeat (first | exact List.Mem.head _ | apply List.Mem.tail))) (fun k hk => by (focus ((try simp only [add_block]); (repeat (first | exact NotOwned.nil | exact hno _ (by omega) | refine NotOwned.nothing ?_ | refine NotOwned.nds (hlow _ (by omega)) ?_ | refine NotOwned.mapS (by omega) ?_ | apply NotOwned.bif | refine NotOwned.blk (by omega) ?_ | refine NotOwned.row (by omega) ?_ | refine NotOwned.grid (by assumption) (by omega) ?_)); done))))⟩
  have hc : chk s = if badL s.data.toList then 5 else 0 := by unfold chk; rw [if_neg (by omega)]
  rw [hc]
  apply W.skip
  with_reducible apply At.next
  apply W.seq
  apply W.seq
  apply W.reg
  apply omv; rfl; rfl
  refine OL.toBytes rfl rfl rfl rfl (fun w1 b cap hb hbs => ?_)
  simp only [AllLe, and_true] at hb
  apply OL.op; exact Guard.none; rfl; rfl; apply Pev.len_slice; rfl; exact yes; rfl
  apply omv; rfl; rfl
  apply OL.nil
  with_reducible apply At.next
  apply W.block
  refine W.loop (G := Nat) (fun i => i ≤ s.size ∧ badL (s.data.toList.drop i) = badL s.data.toList) (fun i => s.size - i)
    (fun i => [(9, true, .slice (some ⟨b, 0, none⟩) s.size cap), (10, true, .int .i64 (s.size : Int)), (11, true, .int .i64 (i : Int))])
    (fun i => Cls [] [w1, w]) 0 ⟨by omega, rfl⟩ (by (repeat (first | exact Sub.nil | apply Sub.cons rfl | (refine Sub.cons_eq rfl (congrArg (Value.int .i64) (by first | omega | (simp only; omega))) ?_)))) (fun w' hw' => hw') ?_
  rintro i ⟨hi, hrest⟩
  apply W.seq
  apply W.reg
  apply obn; rfl; rfl; rfl; apply Bin.lss
  apply OL.nil
  with_reducible apply At.next
  apply W.seq
  (refine W.cond rfl (fun hlt => ?_) (fun hlt => ?_)) <;> (try (simp only [Bool.and_eq_true, Bool.or_eq_true, Bool.not_eq_true', Bool.and_eq_false_iff, Bool.or_eq_false_iff, Bool.not_eq_false', decide_eq_true_eq, decide_eq_false_iff_not, Int.not_lt, Int.not_le] at hlt)) <;> (try (exfalso; first | omega | exact hlt trivial | contradiction))
  · have hil : i < s.size := by omega
    have hbt := bt_lo s i
    obtain ⟨a, ea, hab, hcell⟩ := SlAt.byte hbs hil
    cases ea
    rw [badL_step hil] at hrest
    have hblk : b < w1.heap.size := hab
    apply W.skip
    with_reducible apply At.next
    apply W.seq
    apply W.block
    apply W.seq
    apply W.reg
    apply OL.op; exact Guard.none; rfl; rfl; apply Pev.idxB; rfl; exact yes; rfl; exact yes; rfl; intro hcond; omega; rfl
    (((first | (with_reducible apply OL.op) | (with_reducible apply QL.op)); ((first | exact Guard.none | exact Guard.yes rfl rfl | exact Guard.no rfl rfl | exact Guard.cyes rfl rfl | exact Guard.cno rfl rfl)); rfl; rfl); (apply Pev.load_kept); rfl; ((first | exact fun _ => rfl | exact fun h => h | (intro h; simp_all; done))); ((repeat (first | exact List.Mem.head _ | apply List.Mem.tail))); rfl; (intro hcond; rw [add_mid] at hcell; exact hcell); (intro hcond; exact hab); (intro hcond; exact NotOwned.nil))
    apply oas; rfl; rfl
    apply OL.nil
    with_reducible apply At.next
    apply W.seq
    apply W.reg
    apply omv; rfl; rfl
    apply obn; rfl; rfl; rfl; apply Bin.neq
    apply omv; rfl; rfl
    apply OL.op; exact Guard.yes rfl rfl; rfl; rfl; apply Pev.move; rfl; exact yes
    apply OL.op; exact Guard.yes rfl rfl; rfl; rfl; apply Pev.bin; rfl; exact fun h => h; rfl; exact yes; intro hcond; apply Bin.lss
    apply OL.op; exact Guard.yes rfl rfl; rfl; rfl; apply Pev.move; rfl; exact fun h => h
    apply OL.op; exact Guard.cno rfl rfl; rfl; rfl; apply Pev.move; rfl; exact yes
    apply OL.op; exact Guard.cno rfl rfl; rfl; rfl; apply Pev.bin; rfl; exact fun h => h; rfl; exact yes; intro hcond; apply Bin.gtr
    apply OL.op; exact Guard.yes rfl rfl; rfl; rfl; apply Pev.pick_or; rfl; exact fun h => h; rfl; exact fun h => h
    apply OL.op; exact Guard.none; rfl; rfl; apply Pev.pick_and; rfl; exact yes; rfl; exact fun h => h
    apply OL.nil
    with_reducible apply At.next
    refine W.cond rfl (fun hb2 => ?_) (fun hb2 => ?_)
    · have hbad : badI (bt s i) = true := hb2
      apply W.seq
      apply W.reg
      apply oas; rfl; rfl
      apply OL.nil
      with_reducible apply At.next
      apply W.ret
      with_reducible apply At.in_ret
      with_reducible apply At.then_ret
      with_reducible apply At.then_ret
      with_reducible apply At.in_ret
      with_reducible apply At.then_ret
      ((with_reducible apply At.fin1); rfl; rfl; intro w' hw')
      exact ⟨by rw [← hrest, hbad]; rfl, by (exact hw'.toExt (by (repeat (first | exact List.Mem.head _ | apply List.Mem.tail))) (fun k hk => by (focus ((try simp only [add_block]); (repeat (first | exact NotOwned.nil | exact hno _ (by omega) | refine NotOwned.nothing ?_ | refine NotOwned.nds (hlow _ (by omega)) ?_ | refine NotOwned.mapS (by omega) ?_ | apply NotOwned.bif | refine NotOwned.blk (by omega) ?_ | refine NotOwned.row (by omega) ?_ | refine NotOwned.grid (by assumption) (by omega) ?_)); done))))⟩
    · have hbad : badI (bt s i) = false := hb2
      rw [hbad, Bool.false_or] at hrest
      apply W.skip
      with_reducible apply At.in_normal
      with_reducible apply At.next
      apply W.reg
      apply obn; rfl; rfl; rfl; apply Bin.add_in; omega
      apply omv; rfl; rfl
      apply OL.nil
      exact At.again (i + 1) ⟨by omega, hrest⟩ (by omega) (by (repeat (first | exact Sub.nil | apply Sub.cons rfl | (refine Sub.cons_eq rfl (congrArg (Value.int .i64) (by first | omega | (simp only; omega))) ?_)))) (fun w' hw' => hw')
  · rw [badL_end (by omega)] at hrest
    apply W.exit
    with_reducible apply At.then_exit
    with_reducible apply At.then_exit
    with_reducible apply At.in_exit
    with_reducible apply At.next
    apply W.seq
    apply W.reg
    apply oas; rfl; rfl
    apply OL.nil
    with_reducible apply At.next
    apply W.ret
    ((with_reducible apply At.fin1); rfl; rfl; intro w' hw')
    exact ⟨by rw [← hrest]; rfl, by (exact hw'.toExt (by (repeat (first | exact List.Mem.head _ | apply List.Mem.tail))) (fun k hk => by (focus ((try simp only [add_block]); (repeat (first | exact NotOwned.nil | exact hno _ (by omega) | refine NotOwned.nothing ?_ | refine NotOwned.nds (hlow _ (by omega)) ?_ | refine NotOwned.mapS (by omega) ?_ | apply NotOwned.bif | refine NotOwned.blk (by omega) ?_ | refine NotOwned.row (by omega) ?_ | refine NotOwned.grid (by assumption) (by omega) ?_)); done))))⟩
theorem PlaceOf_calls (s : ByteArray) (m : Nat) (hm : m ≤ s.size) (hs : s.size ≤ 8192) (w : World) :
    Calls Tryd.prog 8 #[.string s, .int .i64 (m : Int)] w fun e w' => e = .returned (.tuple #[.int .i64 (pl s m).1, .int .i64 (pl s m).2]) ∧ Ext w w' := by
  refine enter Tryd.func8 rfl Tryd.ntmps8 rfl (Cls.start w) ?_
  (simp only [argEnv, Nat.zero_add, Nat.reduceAdd])
  apply W.seq
  apply W.reg
  apply oas; rfl; rfl
  apply oas; rfl; rfl
  apply OL.nil
  with_reducible apply At.next
  apply W.seq
  apply W.reg
  apply oas; rfl; rfl
  apply oas; rfl; rfl
  apply OL.nil
  with_reducible apply At.next
  apply W.seq
  apply W.seq
  apply W.reg
  apply oas; rfl; rfl
  apply OL.nil
  with_reducible apply At.next
  apply W.block
  refine W.loop (G := Nat) (fun i => i ≤ m) (fun i => m - i)
    (fun i => [(0, true, .string s), (1, true, .int .i64 (m : Int)), (6, true, .int .i64 (pl s i).1), (7, true, .int .i64 (pl s i).2), (8, true, .int .i64 (i : Int))])
    (fun i => Cls [] [w]) 0 (by omega) (by (repeat (first | exact Sub.nil | apply Sub.cons rfl | (refine Sub.cons_eq rfl (congrArg (Value.int .i64) (by first | omega | (simp only; omega))) ?_)))) (fun w' hw' => hw') ?_
  rintro i hi
  have hpb := pl_bound s i
  apply W.seq
  apply W.seq
  apply W.reg
  apply omv; rfl; rfl
  apply omv; rfl; rfl
  apply obn; rfl; rfl; rfl; apply Bin.lss
  apply OL.nil
  with_reducible apply At.next
  (refine W.cond rfl (fun hlt => ?_) (fun hlt => ?_)) <;> (try (simp only [Bool.and_eq_true, Bool.or_eq_true, Bool.not_eq_true', Bool.and_eq_false_iff, Bool.or_eq_false_iff, Bool.not_eq_false', decide_eq_true_eq, decide_eq_false_iff_not, Int.not_lt, Int.not_le] at hlt)) <;> (try (exfalso; first | omega | exact hlt trivial | contradiction))
  · have hil : i < s.size := by omega
    have hst : pl s (i + 1) = if bt s i = 10 then ((pl s i).1 + 1, 1) else ((pl s i).1, (pl s i).2 + 1) := rfl
    apply W.skip
    with_reducible apply At.next
    apply W.seq
    apply W.block
    apply W.seq
    apply W.reg
    apply omv; rfl; rfl
    apply obn; rfl; rfl; rfl; apply Bin.add_in; omega
    apply oas; rfl; rfl
    apply OL.nil
    with_reducible apply At.next
    apply W.seq
    apply W.reg
    apply omv; rfl; rfl
    apply omv; rfl; rfl
    apply OL.op; exact Guard.none; rfl; rfl; apply Pev.index_str; rfl; exact yes; rfl; exact yes; rfl; (intro hcond; refine ⟨rfl, ?_⟩); omega
    apply obn; rfl; rfl; rfl; apply Bin.eql
    apply OL.nil
    with_reducible apply At.next
    refine W.cond rfl (fun hb => ?_) (fun hb => ?_)
    · rw [if_pos (of_decide_eq_true hb)] at hst
      apply W.reg
      apply omv; rfl; rfl
      apply obn; rfl; rfl; rfl; apply Bin.add_in; omega
      apply oas; rfl; rfl
      apply oas; rfl; rfl
      apply OL.nil
      with_reducible apply At.in_normal
      with_reducible apply At.next
      apply W.reg
      apply omv; rfl; rfl
      apply obn; rfl; rfl; rfl; apply Bin.add_in; omega
      apply oas; rfl; rfl
      apply OL.nil
      exact At.again (i + 1) (by omega) (by omega) (by rw [hst]; (repeat (first | exact Sub.nil | apply Sub.cons rfl | (refine Sub.cons_eq rfl (congrArg (Value.int .i64) (by first | omega | (simp only; omega))) ?_)))) (fun w' hw' => hw')
    · rw [if_neg (of_decide_eq_false hb)] at hst
      apply W.skip
      with_reducible apply At.in_normal
      with_reducible apply At.next
      apply W.reg
      apply omv; rfl; rfl
      apply obn; rfl; rfl; rfl; apply Bin.add_in; omega
      apply oas; rfl; rfl
      apply OL.nil
      exact At.again (i + 1) (by omega) (by omega) (by rw [hst]; (repeat (first | exact Sub.nil | apply Sub.cons rfl | (refine Sub.cons_eq rfl (congrArg (Value.int .i64) (by first | omega | (simp only; omega))) ?_)))) (fun w' hw' => hw')
  · obtain rfl : i = m := by omega
    apply W.exit
    with_reducible apply At.then_exit
    with_reducible apply At.then_exit
    with_reducible apply At.in_exit
    with_reducible apply At.next
    apply W.seq
    apply W.reg
    apply omv; rfl; rfl
    apply omv; rfl; rfl
    apply oas; rfl; rfl
    apply oas; rfl; rfl
    apply OL.nil
    with_reducible apply At.next
    apply W.ret
    ((with_reducible apply At.fin2); rfl; rfl; rfl; intro w' hw')
    exact ⟨rfl, by (exact hw'.toExt (by (repeat (first | exact List.Mem.head _ | apply List.Mem.tail))) (fun k hk => by (focus ((try simp only [add_block]); (repeat (first | exact NotOwned.nil | exact hno _ (by omega) | refine NotOwned.nothing ?_ | refine NotOwned.nds (hlow _ (by omega)) ?_ | refine NotOwned.mapS (by omega) ?_ | apply NotOwned.bif | refine NotOwned.blk (by omega) ?_ | refine NotOwned.row (by omega) ?_ | refine NotOwned.grid (by assumption) (by omega) ?_)); done))))⟩
theorem sc_at (ln co : Int) {s : ByteArray} {i : Nat} (h : i < s.size) : sc ln co (s.data.toList.drop i) (pl s i).1 (pl s i).2 i = if (pl s i).1 = ln ∧ (pl s i).2 = co then (i : Int) else sc ln co (s.data.toList.drop (i + 1)) (pl s (i + 1)).1 (pl s (i + 1)).2 ((i + 1 : Nat) : Int) := by
  obtain ⟨c, h1, h2⟩ := bt_get h
  have hl := (List.getElem?_eq_some_iff.1 h1).1
  rw [List.drop_eq_getElem_cons hl]
  rw [List.getElem?_eq_getElem hl] at h1
  rw [Option.some.inj h1]
  have hst : pl s (i + 1) = if bt s i = 10 then ((pl s i).1 + 1, 1) else ((pl s i).1, (pl s i).2 + 1) := rfl
  have h10 : c = 10 ↔ bt s i = 10 := by
    rw [h2]
    constructor
    · rintro rfl; rfl
    · intro e; exact UInt8.toNat_inj.1 (by have : (10 : UInt8).toNat = 10 := rfl; omega)
  rw [sc, hst]
  by_cases hc : c = 10
  · rw [if_pos hc, if_pos (h10.1 hc)]; rfl
  · rw [if_neg hc, if_neg (fun e => hc (h10.2 e))]; rfl
theorem sc_last (ln co : Int) (s : ByteArray) : sc ln co (s.data.toList.drop s.size) (pl s s.size).1 (pl s s.size).2 s.size = if (pl s s.size).1 = ln ∧ (pl s s.size).2 = co then (s.size : Int) else -1 := by
  rw [List.drop_eq_nil_of_le (by rw [Array.length_toList]; exact Nat.le_refl _), sc]
theorem OffsetOf_calls (s : ByteArray) (ln co : Int) (hs : s.size ≤ 8192) (w : World) :
    Calls Tryd.prog 9 #[.string s, .int .i64 ln, .int .i64 co] w fun e w' => e = .returned (.int .i64 (sc ln co s.data.toList 1 1 0)) ∧ Ext w w' := by
  refine enter Tryd.func9 rfl Tryd.ntmps9 rfl (Cls.start w) ?_
  (simp only [argEnv, Nat.zero_add, Nat.reduceAdd])
  apply W.seq
  apply W.reg
  apply oas; rfl; rfl
  apply OL.nil
  with_reducible apply At.next
  apply W.seq
  apply W.seq
  apply W.reg
  apply oas; rfl; rfl
  apply OL.nil
  with_reducible apply At.next
  apply W.block
  refine W.loop (G := Nat) (fun i => i ≤ s.size + 1 ∧ (i ≤ s.size → sc ln co (s.data.toList.drop i) (pl s i).1 (pl s i).2 i = sc ln co s.data.toList 1 1 0) ∧ (i = s.size + 1 → sc ln co s.data.toList 1 1 0 = -1)) (fun i => s.size + 1 - i)
    (fun i => [(0, true, .string s), (1, true, .int .i64 ln), (2, true, .int .i64 co), (7, true, .int .i64 (i : Int))])
    (fun i => Cls [] [w]) 0 ⟨by omega, fun _ => rfl, by omega⟩ (by (repeat (first | exact Sub.nil | apply Sub.cons rfl | (refine Sub.cons_eq rfl (congrArg (Value.int .i64) (by first | omega | (simp only; omega))) ?_)))) (fun w' hw' => hw') ?_
  rintro i ⟨hi, hrest, hend⟩
  apply W.seq
  apply W.seq
  apply W.reg
  apply omv; rfl; rfl
  apply omv; rfl; rfl
  apply OL.op; exact Guard.none; rfl; rfl; apply Pev.len_str; rfl; exact yes; rfl
  apply obn; rfl; rfl; rfl; apply Bin.leq
  apply OL.nil
  with_reducible apply At.next
  (refine W.cond rfl (fun hlt => ?_) (fun hlt => ?_)) <;> (try (simp only [Bool.and_eq_true, Bool.or_eq_true, Bool.not_eq_true', Bool.and_eq_false_iff, Bool.or_eq_false_iff, Bool.not_eq_false', decide_eq_true_eq, decide_eq_false_iff_not, Int.not_lt, Int.not_le] at hlt)) <;> (try (exfalso; first | omega | exact hlt trivial | contradiction))
  · have hil : i ≤ s.size := by omega
    have hr := hrest hil
    apply W.skip
    with_reducible apply At.next
    apply W.seq
    apply W.block
    apply W.seq
    apply W.reg
    apply omv; rfl; rfl
    apply omv; rfl; rfl
    (((first | (with_reducible apply OL.op) | (with_reducible apply QL.op)); ((first | exact Guard.none | exact Guard.yes rfl rfl | exact Guard.no rfl rfl | exact Guard.cyes rfl rfl | exact Guard.cno rfl rfl)); rfl; rfl); (exact Pev.call rfl (by (repeat (first | exact Args.nil | (apply Args.cons rfl; ((first | exact fun _ => rfl | exact fun h => h | (intro h; simp_all; done))))))) (fun _ w2 hw2 => (PlaceOf_calls s i hil hs w2).mono (fun e w3 h => ⟨h.1, hw2.ext h.2⟩))))
    apply omv; rfl; rfl
    apply oex; rfl; rfl; rfl
    apply oex; rfl; rfl; rfl
    apply oas; rfl; rfl
    apply oas; rfl; rfl
    apply OL.nil
    with_reducible apply At.next
    apply W.seq
    apply W.reg
    apply omv; rfl; rfl
    apply omv; rfl; rfl
    apply obn; rfl; rfl; rfl; apply Bin.eql
    apply omv; rfl; rfl
    apply OL.op; exact Guard.yes rfl rfl; rfl; rfl; apply Pev.move; rfl; exact yes
    apply OL.op; exact Guard.yes rfl rfl; rfl; rfl; apply Pev.move; rfl; exact yes
    apply OL.op; exact Guard.yes rfl rfl; rfl; rfl; apply Pev.bin; rfl; exact fun h => h; rfl; exact fun h => h; intro hcond; apply Bin.eql
    apply OL.op; exact Guard.none; rfl; rfl; apply Pev.pick_and; rfl; exact yes; rfl; exact fun h => h
    apply OL.nil
    with_reducible apply At.next
    refine W.cond rfl (fun hb => ?_) (fun hb => ?_)
    · have h2 : (pl s i).1 = ln ∧ (pl s i).2 = co := by simpa using hb
      have h3 : (i : Int) = sc ln co s.data.toList 1 1 0 := by
        rcases Nat.lt_or_ge i s.size with h | h
        · rw [sc_at ln co h, if_pos h2] at hr; exact hr
        · obtain rfl : i = s.size := by omega
          rw [sc_last, if_pos h2] at hr; exact hr
      apply W.seq
      apply W.reg
      apply omv; rfl; rfl
      apply oas; rfl; rfl
      apply OL.nil
      with_reducible apply At.next
      apply W.ret
      with_reducible apply At.in_ret
      with_reducible apply At.then_ret
      with_reducible apply At.then_ret
      with_reducible apply At.in_ret
      with_reducible apply At.then_ret
      ((with_reducible apply At.fin1); rfl; rfl; intro w' hw')
      exact ⟨by rw [h3], by (exact hw'.toExt (by (repeat (first | exact List.Mem.head _ | apply List.Mem.tail))) (fun k hk => by (focus ((try simp only [add_block]); (repeat (first | exact NotOwned.nil | exact hno _ (by omega) | refine NotOwned.nothing ?_ | refine NotOwned.nds (hlow _ (by omega)) ?_ | refine NotOwned.mapS (by omega) ?_ | apply NotOwned.bif | refine NotOwned.blk (by omega) ?_ | refine NotOwned.row (by omega) ?_ | refine NotOwned.grid (by assumption) (by omega) ?_)); done))))⟩
    · have h2 : ¬ ((pl s i).1 = ln ∧ (pl s i).2 = co) := by
        intro e
        rw [e.1, e.2] at hb
        simp at hb
      apply W.skip
      with_reducible apply At.in_normal
      with_reducible apply At.next
      apply W.reg
      apply omv; rfl; rfl
      apply obn; rfl; rfl; rfl; apply Bin.add_in; omega
      apply oas; rfl; rfl
      apply OL.nil
      refine At.again (i + 1) ⟨by omega, fun h => ?_, fun h => ?_⟩ (by omega) (by (repeat (first | exact Sub.nil | apply Sub.cons rfl | (refine Sub.cons_eq rfl (congrArg (Value.int .i64) (by first | omega | (simp only; omega))) ?_)))) (fun w' hw' => hw')
      · rw [sc_at ln co (by omega), if_neg h2] at hr; exact hr
      · obtain rfl : i = s.size := by omega
        rw [sc_last, if_neg h2] at hr; exact hr.symm
  · apply W.exit
    with_reducible apply At.then_exit
    with_reducible apply At.then_exit
    with_reducible apply At.in_exit
    with_reducible apply At.next
    apply W.seq
    apply W.reg
    apply oas; rfl; rfl
    apply OL.nil
    with_reducible apply At.next
    apply W.ret
    ((with_reducible apply At.fin1); rfl; rfl; intro w' hw')
    exact ⟨by rw [hend (by omega)], by (exact hw'.toExt (by (repeat (first | exact List.Mem.head _ | apply List.Mem.tail))) (fun k hk => by (focus ((try simp only [add_block]); (repeat (first | exact NotOwned.nil | exact hno _ (by omega) | refine NotOwned.nothing ?_ | refine NotOwned.nds (hlow _ (by omega)) ?_ | refine NotOwned.mapS (by omega) ?_ | apply NotOwned.bif | refine NotOwned.blk (by omega) ?_ | refine NotOwned.row (by omega) ?_ | refine NotOwned.grid (by assumption) (by omega) ?_)); done))))⟩
/-- what Line gives -/
def lineV (s : ByteArray) (ln : Int) : ByteArray × Int :=
  if chk s ≠ 0 then (⟨#[]⟩, chk s) else if ln < 1 ∨ ((pcs s).length : Int) < ln then (⟨#[]⟩, 4) else ((pcs s).getD (ln - 1).toNat ⟨#[]⟩, 0)
theorem chk_len {s : ByteArray} (h : chk s = 0) : s.size ≤ 8192 := by
  unfold chk at h
  split at h
  · cases h
  · omega
theorem Line_calls (s : ByteArray) (ln : Int) (hs : s.size ≤ 9223372036854775807) (hln : -9223372036854775808 ≤ ln) (w : World) (hm : maxAt w) :
    Calls Tryd.prog 12 #[.string s, .int .i64 ln] w fun e w' => e = .returned (.tuple #[.string (lineV s ln).1, .int .i64 (lineV s ln).2]) ∧ Ext w w' := by
  refine enter Tryd.func12 rfl Tryd.ntmps12 rfl (Cls.start w) ?_
  (simp only [argEnv, Nat.zero_add, Nat.reduceAdd])
  apply W.seq
  apply W.reg
  apply oas; rfl; rfl
  apply oas; rfl; rfl
  apply OL.nil
  with_reducible apply At.next
  apply W.seq
  apply W.seq
  apply W.reg
  apply omv; rfl; rfl
  (((first | (with_reducible apply OL.op) | (with_reducible apply QL.op)); ((first | exact Guard.none | exact Guard.yes rfl rfl | exact Guard.no rfl rfl | exact Guard.cyes rfl rfl | exact Guard.cno rfl rfl)); rfl; rfl); (exact Pev.call rfl (by (repeat (first | exact Args.nil | (apply Args.cons rfl; ((first | exact fun _ => rfl | exact fun h => h | (intro h; simp_all; done))))))) (fun _ w2 hw2 => (Check_calls s hs w2).mono (fun e w3 h => ⟨h.1, hw2.ext h.2⟩))))
  apply oas; rfl; rfl
  apply OL.nil
  with_reducible apply At.next
  apply W.seq
  apply W.reg
  apply omv; rfl; rfl
  apply obn; rfl; rfl; rfl; apply Bin.neq
  apply OL.nil
  with_reducible apply At.next
  refine W.cond rfl (fun hb => ?_) (fun hb => ?_)
  · have h0 : chk s ≠ 0 := by simpa using hb
    have e : lineV s ln = (⟨#[]⟩, chk s) := by unfold lineV; rw [if_pos h0]
    rw [e]
    apply W.seq
    apply W.reg
    apply omv; rfl; rfl
    apply oas; rfl; rfl
    apply oas; rfl; rfl
    apply OL.nil
    with_reducible apply At.next
    apply W.ret
    with_reducible apply At.then_ret
    ((with_reducible apply At.fin2); rfl; rfl; rfl; intro w' hw')
    exact ⟨rfl, by (exact hw'.toExt (by (repeat (first | exact List.Mem.head _ | apply List.Mem.tail))) (fun k hk => by (focus ((try simp only [add_block]); (repeat (first | exact NotOwned.nil | exact hno _ (by omega) | refine NotOwned.nothing ?_ | refine NotOwned.nds (hlow _ (by omega)) ?_ | refine NotOwned.mapS (by omega) ?_ | apply NotOwned.bif | refine NotOwned.blk (by omega) ?_ | refine NotOwned.row (by omega) ?_ | refine NotOwned.grid (by assumption) (by omega) ?_)); done))))⟩
  have h0 : chk s = 0 := by simpa using hb
  have hl := chk_len h0
  have e1 : lineV s ln = if ln < 1 ∨ ((pcs s).length : Int) < ln then (⟨#[]⟩, 4) else ((pcs s).getD (ln - 1).toNat ⟨#[]⟩, 0) := by unfold lineV; rw [if_neg (by simpa using h0)]
  have hpb : (pcs s).length ≤ 8193 := by rw [pcs_len]; have := countB_bound s; omega
  apply W.skip
  with_reducible apply At.next
  apply W.seq
  apply W.reg
  apply omv; rfl; rfl
  refine OL.callE (α := Nat) (fun b => .slice (some ⟨b, 0, none⟩) (pcs s).length (pcs s).length) (fun b => w.heap.size ≤ b) (fun b => Cls [blk b 9 (strs (pcs s))] [w]) rfl rfl (by (repeat (first | exact Args.nil | (apply Args.cons rfl; ((first | exact fun _ => rfl | exact fun h => h | (intro h; simp_all; done))))))) (fun w2 hw2 => ?_) ?_
  · refine (split_calls s (by omega) w2 (maxAt_ext (hw2.toExt (s := w) (by (repeat (first | exact List.Mem.head _ | apply List.Mem.tail))) (fun k hk => .nil)) hm)).mono fun e w3 h => ⟨w2.heap.size, h.1, (hw2.kp w (by (repeat (first | exact List.Mem.head _ | apply List.Mem.tail)))).size, ?_⟩
    rw [h.2]
    exact hw2.alloc _ _
  intro b hbl
  apply oas; rfl; rfl
  apply OL.nil
  with_reducible apply At.next
  apply W.seq
  apply W.seq
  apply W.reg
  apply omv; rfl; rfl
  apply obn; rfl; rfl; rfl; apply Bin.lss
  apply omv; rfl; rfl
  apply OL.op; exact Guard.no rfl rfl; rfl; rfl; apply Pev.move; rfl; exact yes
  apply OL.op; exact Guard.no rfl rfl; rfl; rfl; apply Pev.move; rfl; exact yes
  apply OL.op; exact Guard.no rfl rfl; rfl; rfl; apply Pev.len_slice; rfl; exact fun h => h; rfl
  apply OL.op; exact Guard.no rfl rfl; rfl; rfl; apply Pev.bin; rfl; exact fun h => h; rfl; exact fun h => h; intro hcond; apply Bin.gtr
  apply OL.op; exact Guard.none; rfl; rfl; apply Pev.pick_or; rfl; exact yes; rfl; exact fun h => h
  apply OL.nil
  with_reducible apply At.next
  refine W.cond rfl (fun hb2 => ?_) (fun hb2 => ?_)
  · rw [if_pos (by simpa using hb2)] at e1
    rw [e1]
    apply W.seq
    apply W.reg
    apply oas; rfl; rfl
    apply oas; rfl; rfl
    apply OL.nil
    with_reducible apply At.next
    apply W.ret
    with_reducible apply At.then_ret
    ((with_reducible apply At.fin2); rfl; rfl; rfl; intro w' hw')
    exact ⟨rfl, by (exact hw'.toExt (by (repeat (first | exact List.Mem.head _ | apply List.Mem.tail))) (fun k hk => by (focus ((try simp only [add_block]); (repeat (first | exact NotOwned.nil | exact hno _ (by omega) | refine NotOwned.nothing ?_ | refine NotOwned.nds (hlow _ (by omega)) ?_ | refine NotOwned.mapS (by omega) ?_ | apply NotOwned.bif | refine NotOwned.blk (by omega) ?_ | refine NotOwned.row (by omega) ?_ | refine NotOwned.grid (by assumption) (by omega) ?_)); done))))⟩
  have hlr : ¬ (ln < 1 ∨ ((pcs s).length : Int) < ln) := by simp at hb2; omega
  rw [if_neg hlr] at e1
  obtain ⟨t, ht⟩ : ∃ t, (pcs s)[(ln - 1).toNat]? = some t := ⟨_, List.getElem?_eq_getElem (by omega)⟩
  rw [List.getD_eq_getElem?_getD, ht] at e1
  have hcell : (strs (pcs s))[0 + (ln - 1).toNat * 1]? = some (.string t) := by rw [show 0 + (ln - 1).toNat * 1 = (ln - 1).toNat by omega]; exact strs_get ht
  have hslen : (strs (pcs s)).length = (pcs s).length := strs_length _
  have htl : t.size ≤ s.size := by
    have := piece_le s.data.toList _ _ (lns_at ht)
    rw [Array.length_toList, Array.length_toList] at this
    have h1 : t.data.size = t.size := rfl
    have h2 : s.data.size = s.size := rfl
    omega
  rw [e1]
  apply W.skip
  with_reducible apply At.next
  apply W.seq
  apply W.reg
  apply omv; rfl; rfl
  apply omv; rfl; rfl
  apply obn; rfl; rfl; rfl; apply Bin.sub_in; omega
  apply OL.op; exact Guard.none; rfl; rfl; apply Pev.idxB; rfl; exact yes; rfl; exact yes; rfl; intro hcond; omega; rfl
  apply OL.op; exact Guard.none; rfl; rfl; apply Pev.load_blk; rfl; exact yes; exact .head _; rfl; assumption
  (((first | (with_reducible apply OL.op) | (with_reducible apply QL.op)); ((first | exact Guard.none | exact Guard.yes rfl rfl | exact Guard.no rfl rfl | exact Guard.cyes rfl rfl | exact Guard.cno rfl rfl)); rfl; rfl); (exact Pev.call rfl (by (repeat (first | exact Args.nil | (apply Args.cons rfl; ((first | exact fun _ => rfl | exact fun h => h | (intro h; simp_all; done))))))) (fun _ w2 hw2 => (cln.Clone_calls t _ _ w2 (by omega) hw2).mono (fun e w3 h => h))))
  apply oas; rfl; rfl
  apply oas; rfl; rfl
  apply OL.nil
  with_reducible apply At.next
  apply W.ret
  ((with_reducible apply At.fin2); rfl; rfl; rfl; intro w' hw')
  exact ⟨rfl, by (exact hw'.toExt (by (repeat (first | exact List.Mem.head _ | apply List.Mem.tail))) (fun k hk => by (focus ((try simp only [add_block]); (repeat (first | exact NotOwned.nil | exact hno _ (by omega) | refine NotOwned.nothing ?_ | refine NotOwned.nds (hlow _ (by omega)) ?_ | refine NotOwned.mapS (by omega) ?_ | apply NotOwned.bif | refine NotOwned.blk (by omega) ?_ | refine NotOwned.row (by omega) ?_ | refine NotOwned.grid (by assumption) (by omega) ?_)); done))))⟩
theorem line_ok {s : ByteArray} {ln : Int} (h : (lineV s ln).2 = 0) : chk s = 0 ∧ 1 ≤ ln ∧ ∃ t, (pcs s)[(ln - 1).toNat]? = some t ∧ (lineV s ln).1 = t := by
  unfold lineV at h ⊢
  split at h
  · rename_i h0; exact absurd h h0
  rename_i h0
  split at h
  · cases h
  rename_i h1
  obtain ⟨t, ht⟩ : ∃ t, (pcs s)[(ln - 1).toNat]? = some t := ⟨_, List.getElem?_eq_getElem (by omega)⟩
  refine ⟨by simpa using h0, by omega, t, ht, ?_⟩
  rw [if_neg h0, if_neg h1]
  simp only
  rw [List.getD_eq_getElem?_getD, ht]; rfl
theorem line_bad {s : ByteArray} {ln co : Int} (h : (lineV s ln).2 ≠ 0) : offV s ln co = (0, (lineV s ln).2) := by
  unfold lineV at h ⊢
  unfold offV
  split
  · rfl
  rename_i h0
  rw [if_neg h0] at h
  split at h
  · rename_i h1
    rw [if_pos h1, sc_none h1]; rfl
  · exact absurd rfl h
theorem drop_tail (s : ByteArray) (o : Nat) : (s.extract o s.size).data.toList = s.data.toList.drop o := by
  have h : s.size = s.data.size := rfl
  rw [ByteArray.data_extract, Array.toList_extract, h, ← Array.length_toList, List.extract_eq_take_drop, List.take_of_length_le]
  rw [List.length_drop]
  omega
theorem Offset_calls (s : ByteArray) (ln co : Int) (hs : s.size ≤ 9223372036854775807) (hln : -9223372036854775808 ≤ ln) (w : World) (hm : maxAt w) :
    Calls Tryd.prog 6 #[.string s, .int .i64 ln, .int .i64 co] w fun e w' => e = .returned (.tuple #[.int .i64 (offV s ln co).1, .int .i64 (offV s ln co).2]) ∧ Ext w w' := by
  refine enter Tryd.func6 rfl Tryd.ntmps6 rfl (Cls.start w) ?_
  (simp only [argEnv, Nat.zero_add, Nat.reduceAdd])
  apply W.seq
  apply W.reg
  apply oas; rfl; rfl
  apply oas; rfl; rfl
  apply OL.nil
  with_reducible apply At.next
  apply W.seq
  apply W.reg
  apply omv; rfl; rfl
  apply omv; rfl; rfl
  (((first | (with_reducible apply OL.op) | (with_reducible apply QL.op)); ((first | exact Guard.none | exact Guard.yes rfl rfl | exact Guard.no rfl rfl | exact Guard.cyes rfl rfl | exact Guard.cno rfl rfl)); rfl; rfl); (exact Pev.call rfl (by (repeat (first | exact Args.nil | (apply Args.cons rfl; ((first | exact fun _ => rfl | exact fun h => h | (intro h; simp_all; done))))))) (fun _ w2 hw2 => (Line_calls s ln hs hln w2 (maxAt_ext (hw2.toExt (s := w) (by (repeat (first | exact List.Mem.head _ | apply List.Mem.tail))) (fun k hk => .nil)) hm)).mono (fun e w3 h => ⟨h.1, hw2.ext h.2⟩))))
  apply omv; rfl; rfl
  apply oex; rfl; rfl; rfl
  apply oex; rfl; rfl; rfl
  apply oas; rfl; rfl
  apply oas; rfl; rfl
  apply OL.nil
  with_reducible apply At.next
  apply W.seq
  apply W.block
  apply W.seq
  apply W.reg
  apply omv; rfl; rfl
  apply obn; rfl; rfl; rfl; apply Bin.neq
  apply oas; rfl; rfl
  apply OL.nil
  with_reducible apply At.next
  refine W.cond rfl (fun hb => ?_) (fun hb => ?_)
  · have h0 : (lineV s ln).2 ≠ 0 := by simpa using hb
    rw [line_bad h0]
    apply W.seq
    apply W.reg
    apply omv; rfl; rfl
    apply oas; rfl; rfl
    apply oas; rfl; rfl
    apply OL.nil
    with_reducible apply At.next
    apply W.ret
    with_reducible apply At.in_ret
    with_reducible apply At.then_ret
    ((with_reducible apply At.fin2); rfl; rfl; rfl; intro w' hw')
    exact ⟨rfl, by (exact hw'.toExt (by (repeat (first | exact List.Mem.head _ | apply List.Mem.tail))) (fun k hk => by (focus ((try simp only [add_block]); (repeat (first | exact NotOwned.nil | exact hno _ (by omega) | refine NotOwned.nothing ?_ | refine NotOwned.nds (hlow _ (by omega)) ?_ | refine NotOwned.mapS (by omega) ?_ | apply NotOwned.bif | refine NotOwned.blk (by omega) ?_ | refine NotOwned.row (by omega) ?_ | refine NotOwned.grid (by assumption) (by omega) ?_)); done))))⟩
  have h0 : (lineV s ln).2 = 0 := by simpa using hb
  obtain ⟨hchk, h1, t, ht, et⟩ := line_ok h0
  have hl := chk_len hchk
  have hlen : (ln - 1).toNat < (pcs s).length := (List.getElem?_eq_some_iff.1 ht).1
  have hpb : (pcs s).length ≤ 8193 := by rw [pcs_len]; have := countB_bound s; omega
  have hpl := piece_le s.data.toList _ _ (lns_at ht)
  rw [Array.length_toList, Array.length_toList] at hpl
  have hsz1 : t.data.size = t.size := rfl
  have hsz2 : s.data.size = s.size := rfl
  have eo : offV s ln co = if 1 ≤ co ∧ co ≤ 1 + (t.size : Int) then ((starts s.data.toList (ln - 1).toNat : Int) + (co - 1), 0) else (0, 4) := by
    unfold offV
    rw [if_neg (by simpa using hchk), sc_pieces h1 ht]
    by_cases hc : 1 ≤ co ∧ co ≤ 1 + (t.size : Int)
    · rw [if_pos hc, if_pos hc, if_neg (by omega)]
    · rw [if_neg hc, if_neg hc]; rfl
  rw [et]
  apply W.seq
  apply W.reg
  apply omv; rfl; rfl
  apply obn; rfl; rfl; rfl; apply Bin.lss
  apply omv; rfl; rfl
  apply OL.op; exact Guard.no rfl rfl; rfl; rfl; apply Pev.move; rfl; exact yes
  apply OL.op; exact Guard.no rfl rfl; rfl; rfl; apply Pev.move; rfl; exact yes
  apply OL.op; exact Guard.no rfl rfl; rfl; rfl; apply Pev.len_str; rfl; exact fun h => h; rfl
  apply OL.op; exact Guard.no rfl rfl; rfl; rfl; apply Pev.bin; rfl; exact fun h => h; rfl; exact yes; intro hcond; apply Bin.add_in; omega
  apply OL.op; exact Guard.no rfl rfl; rfl; rfl; apply Pev.bin; rfl; exact fun h => h; rfl; exact fun h => h; intro hcond; apply Bin.gtr
  apply OL.op; exact Guard.none; rfl; rfl; apply Pev.pick_or; rfl; exact yes; rfl; exact fun h => h
  apply oas; rfl; rfl
  apply OL.nil
  with_reducible apply At.next
  refine W.cond rfl (fun hb2 => ?_) (fun hb2 => ?_)
  · rw [if_neg (by simp at hb2; omega)] at eo
    rw [eo]
    apply W.seq
    apply W.reg
    apply oas; rfl; rfl
    apply oas; rfl; rfl
    apply OL.nil
    with_reducible apply At.next
    apply W.ret
    with_reducible apply At.in_ret
    with_reducible apply At.then_ret
    ((with_reducible apply At.fin2); rfl; rfl; rfl; intro w' hw')
    exact ⟨rfl, by (exact hw'.toExt (by (repeat (first | exact List.Mem.head _ | apply List.Mem.tail))) (fun k hk => by (focus ((try simp only [add_block]); (repeat (first | exact NotOwned.nil | exact hno _ (by omega) | refine NotOwned.nothing ?_ | refine NotOwned.nds (hlow _ (by omega)) ?_ | refine NotOwned.mapS (by omega) ?_ | apply NotOwned.bif | refine NotOwned.blk (by omega) ?_ | refine NotOwned.row (by omega) ?_ | refine NotOwned.grid (by assumption) (by omega) ?_)); done))))⟩
  have hco : 1 ≤ co ∧ co ≤ 1 + (t.size : Int) := by simp at hb2; omega
  rw [if_pos hco] at eo
  rw [eo]
  apply W.skip
  with_reducible apply At.in_normal
  with_reducible apply At.next
  apply W.seq
  apply W.reg
  apply oas; rfl; rfl
  apply OL.nil
  with_reducible apply At.next
  apply W.seq
  apply W.seq
  apply W.reg
  apply omv; rfl; rfl
  apply obn; rfl; rfl; rfl; apply Bin.sub_in; omega
  apply omv; rfl; rfl
  apply OL.nil
  with_reducible apply At.next
  apply W.block
  refine W.loop (G := Nat) (fun i => i ≤ (ln - 1).toNat) (fun i => (ln - 1).toNat - i)
    (fun i => [(0, true, .string s), (2, true, .int .i64 co), (10, true, .int .i64 (starts s.data.toList i : Nat)), (32, true, .int .i64 (ln - 1)), (33, true, .int .i64 (i : Int))])
    (fun i => Cls [] [w]) 0 (by omega) ?_ (fun w' hw' => hw') ?_
  · have e0 : starts s.data.toList 0 = 0 := by cases s.data.toList <;> rfl
    rw [e0]
    (repeat (first | exact Sub.nil | apply Sub.cons rfl | (refine Sub.cons_eq rfl (congrArg (Value.int .i64) (by first | omega | (simp only; omega))) ?_)))
  rintro i hi
  have hsl := starts_le s.data.toList i
  rw [Array.length_toList] at hsl
  apply W.seq
  apply W.reg
  apply obn; rfl; rfl; rfl; apply Bin.lss
  apply OL.nil
  with_reducible apply At.next
  apply W.seq
  (refine W.cond rfl (fun hlt => ?_) (fun hlt => ?_)) <;> (try (simp only [Bool.and_eq_true, Bool.or_eq_true, Bool.not_eq_true', Bool.and_eq_false_iff, Bool.or_eq_false_iff, Bool.not_eq_false', decide_eq_true_eq, decide_eq_false_iff_not, Int.not_lt, Int.not_le] at hlt)) <;> (try (exfalso; first | omega | exact hlt trivial | contradiction))
  · have hst := starts_step s.data.toList i (by rw [lns_len]; omega)
    have hsl2 := starts_le s.data.toList (i + 1)
    rw [Array.length_toList] at hsl2
    have hdrop : (s.extract (starts s.data.toList i) s.size).data.toList = s.data.toList.drop (starts s.data.toList i) := by
      exact drop_tail s _
    obtain ⟨ib, hib⟩ : ∃ ib, ib = Lib.indexByte (s.data.toList.drop (starts s.data.toList i)) 10 := ⟨_, rfl⟩
    rw [← hib] at hst
    apply W.skip
    with_reducible apply At.next
    apply W.seq
    apply W.block
    apply W.reg
    apply omv; rfl; rfl
    apply omv; rfl; rfl
    apply omv; rfl; rfl
    apply OL.op; exact Guard.none; rfl; rfl; apply Pev.slice_str_lo; rfl; exact yes; rfl; exact yes; rfl; (intro hcond; refine ⟨rfl, ?_⟩); omega
    (((first | (with_reducible apply OL.op) | (with_reducible apply QL.op)); ((first | exact Guard.none | exact Guard.yes rfl rfl | exact Guard.no rfl rfl | exact Guard.cyes rfl rfl | exact Guard.cno rfl rfl)); rfl; rfl); (refine Pev.call (v := .int .i64 ib) rfl (by (repeat (first | exact Args.nil | (apply Args.cons rfl; ((first | exact fun _ => rfl | exact fun h => h | (intro h; simp_all; done))))))) (fun _ w2 hw2 => (indexByte_calls _ _ w2).mono (fun e w3 h => ⟨by rw [h.1, hdrop, hib]; rfl, by rw [h.2]; exact hw2⟩))))
    apply obn; rfl; rfl; rfl; apply Bin.add_in; omega
    apply obn; rfl; rfl; rfl; apply Bin.add_in; omega
    apply oas; rfl; rfl
    apply OL.nil
    with_reducible apply At.in_normal
    with_reducible apply At.next
    apply W.reg
    apply obn; rfl; rfl; rfl; apply Bin.add_in; omega
    apply omv; rfl; rfl
    apply OL.nil
    exact At.again (i + 1) (by omega) (by omega) (by (repeat (first | exact Sub.nil | apply Sub.cons rfl | (refine Sub.cons_eq rfl (congrArg (Value.int .i64) (by first | omega | (simp only; omega))) ?_)))) (fun w' hw' => hw')
  · obtain rfl : i = (ln - 1).toNat := by omega
    apply W.exit
    with_reducible apply At.then_exit
    with_reducible apply At.then_exit
    with_reducible apply At.in_exit
    with_reducible apply At.next
    apply W.seq
    apply W.reg
    apply omv; rfl; rfl
    apply omv; rfl; rfl
    apply obn; rfl; rfl; rfl; apply Bin.add_in; omega
    apply obn; rfl; rfl; rfl; apply Bin.sub_in; omega
    apply oas; rfl; rfl
    apply oas; rfl; rfl
    apply OL.nil
    with_reducible apply At.next
    apply W.ret
    ((with_reducible apply At.fin2); rfl; rfl; rfl; intro w' hw')
    refine ⟨?_, by (exact hw'.toExt (by (repeat (first | exact List.Mem.head _ | apply List.Mem.tail))) (fun k hk => by (focus ((try simp only [add_block]); (repeat (first | exact NotOwned.nil | exact hno _ (by omega) | refine NotOwned.nothing ?_ | refine NotOwned.nds (hlow _ (by omega)) ?_ | refine NotOwned.mapS (by omega) ?_ | apply NotOwned.bif | refine NotOwned.blk (by omega) ?_ | refine NotOwned.row (by omega) ?_ | refine NotOwned.grid (by assumption) (by omega) ?_)); done))))⟩
    congr 5
    omega
theorem Place_calls (s : ByteArray) (m : Int) (hs : s.size ≤ 9223372036854775807) (w : World) :
    Calls Tryd.prog 4 #[.string s, .int .i64 m] w fun e w' => e = .returned (.tuple #[.int .i64 (placeV s m).1, .int .i64 (placeV s m).2.1, .int .i64 (placeV s m).2.2]) ∧ Ext w w' := by
  refine enter Tryd.func4 rfl Tryd.ntmps4 rfl (Cls.start w) ?_
  (simp only [argEnv, Nat.zero_add, Nat.reduceAdd])
  apply W.seq
  apply W.reg
  apply oas; rfl; rfl
  apply oas; rfl; rfl
  apply oas; rfl; rfl
  apply OL.nil
  with_reducible apply At.next
  apply W.seq
  apply W.reg
  apply omv; rfl; rfl
  (((first | (with_reducible apply OL.op) | (with_reducible apply QL.op)); ((first | exact Guard.none | exact Guard.yes rfl rfl | exact Guard.no rfl rfl | exact Guard.cyes rfl rfl | exact Guard.cno rfl rfl)); rfl; rfl); (exact Pev.call rfl (by (repeat (first | exact Args.nil | (apply Args.cons rfl; ((first | exact fun _ => rfl | exact fun h => h | (intro h; simp_all; done))))))) (fun _ w2 hw2 => (Check_calls s hs w2).mono (fun e w3 h => ⟨h.1, hw2.ext h.2⟩))))
  apply oas; rfl; rfl
  apply OL.nil
  with_reducible apply At.next
  apply W.seq
  apply W.block
  apply W.seq
  apply W.reg
  apply omv; rfl; rfl
  apply obn; rfl; rfl; rfl; apply Bin.neq
  apply oas; rfl; rfl
  apply OL.nil
  with_reducible apply At.next
  refine W.cond rfl (fun hb => ?_) (fun hb => ?_)
  · have h0 : chk s ≠ 0 := by simpa using hb
    have e : placeV s m = (0, 0, chk s) := by unfold placeV; rw [if_pos h0]
    rw [e]
    apply W.seq
    apply W.reg
    apply omv; rfl; rfl
    apply oas; rfl; rfl
    apply oas; rfl; rfl
    apply oas; rfl; rfl
    apply OL.nil
    with_reducible apply At.next
    apply W.ret
    with_reducible apply At.in_ret
    with_reducible apply At.then_ret
    ((with_reducible apply At.fin3); rfl; rfl; rfl; rfl; intro w' hw')
    exact ⟨rfl, by (exact hw'.toExt (by (repeat (first | exact List.Mem.head _ | apply List.Mem.tail))) (fun k hk => by (focus ((try simp only [add_block]); (repeat (first | exact NotOwned.nil | exact hno _ (by omega) | refine NotOwned.nothing ?_ | refine NotOwned.nds (hlow _ (by omega)) ?_ | refine NotOwned.mapS (by omega) ?_ | apply NotOwned.bif | refine NotOwned.blk (by omega) ?_ | refine NotOwned.row (by omega) ?_ | refine NotOwned.grid (by assumption) (by omega) ?_)); done))))⟩
  have h0 : chk s = 0 := by simpa using hb
  have hl := chk_len h0
  have e1 : placeV s m = if m < 0 ∨ (s.size : Int) < m then (0, 0, 4) else ((pl s m.toNat).1, (pl s m.toNat).2, 0) := by unfold placeV; rw [if_neg (by simpa using h0)]
  apply W.seq
  apply W.reg
  apply omv; rfl; rfl
  apply obn; rfl; rfl; rfl; apply Bin.lss
  apply omv; rfl; rfl
  apply OL.op; exact Guard.no rfl rfl; rfl; rfl; apply Pev.move; rfl; exact yes
  apply OL.op; exact Guard.no rfl rfl; rfl; rfl; apply Pev.move; rfl; exact yes
  apply OL.op; exact Guard.no rfl rfl; rfl; rfl; apply Pev.len_str; rfl; exact fun h => h; rfl
  apply OL.op; exact Guard.no rfl rfl; rfl; rfl; apply Pev.bin; rfl; exact fun h => h; rfl; exact fun h => h; intro hcond; apply Bin.gtr
  apply OL.op; exact Guard.none; rfl; rfl; apply Pev.pick_or; rfl; exact yes; rfl; exact fun h => h
  apply oas; rfl; rfl
  apply OL.nil
  with_reducible apply At.next
  refine W.cond rfl (fun hb2 => ?_) (fun hb2 => ?_)
  · rw [if_pos (by simpa using hb2)] at e1
    rw [e1]
    apply W.seq
    apply W.reg
    apply oas; rfl; rfl
    apply oas; rfl; rfl
    apply oas; rfl; rfl
    apply OL.nil
    with_reducible apply At.next
    apply W.ret
    with_reducible apply At.in_ret
    with_reducible apply At.then_ret
    ((with_reducible apply At.fin3); rfl; rfl; rfl; rfl; intro w' hw')
    exact ⟨rfl, by (exact hw'.toExt (by (repeat (first | exact List.Mem.head _ | apply List.Mem.tail))) (fun k hk => by (focus ((try simp only [add_block]); (repeat (first | exact NotOwned.nil | exact hno _ (by omega) | refine NotOwned.nothing ?_ | refine NotOwned.nds (hlow _ (by omega)) ?_ | refine NotOwned.mapS (by omega) ?_ | apply NotOwned.bif | refine NotOwned.blk (by omega) ?_ | refine NotOwned.row (by omega) ?_ | refine NotOwned.grid (by assumption) (by omega) ?_)); done))))⟩
  have hmr : ¬ (m < 0 ∨ (s.size : Int) < m) := by simp at hb2; omega
  rw [if_neg hmr] at e1
  obtain ⟨k, rfl⟩ := Int.eq_ofNat_of_zero_le (show 0 ≤ m by omega)
  have hks : k ≤ s.size := by omega
  rw [Int.toNat_natCast, show pl s k = ((pl s k).1, (pl s k).2) from rfl, pl_line s k hks, pl_col s k hks] at e1
  rw [e1]
  have hsz : (s.extract 0 k).size = k := by rw [ByteArray.size_extract]; omega
  have htk : (s.extract 0 k).data.toList = s.data.toList.take k := by simp [ByteArray.data_extract]
  have hlast : Lib.lastIndexByte (s.extract 0 k) 10 = Lib.lastIdx s 10 k := by unfold Lib.lastIndexByte; rw [hsz]; exact lastIdx_cut s 10 k hks k (Nat.le_refl _)
  have hpb := pl_bound s k
  rw [pl_line s k hks, pl_col s k hks] at hpb
  have hct : (s.extract 0 k).data.toList.count 10 = (s.data.toList.take k).count 10 := by rw [htk]
  generalize Lib.lastIdx s 10 k = la at *
  generalize (s.data.toList.take k).count 10 = ct at *
  apply W.skip
  with_reducible apply At.in_normal
  with_reducible apply At.next
  apply W.seq
  apply W.regd0; decide +kernel; kernel_rfl; decide +kernel; exact fun w hw => hw.drew
  apply qmv; rfl; rfl
  apply qmv; rfl; rfl
  apply QL.op; exact Guard.none; rfl; rfl; apply Pev.slice_str_hi; rfl; exact yes; rfl; exact yes; rfl; (intro hcond; refine ⟨rfl, ?_⟩); omega
  (((first | (with_reducible apply OL.op) | (with_reducible apply QL.op)); ((first | exact Guard.none | exact Guard.yes rfl rfl | exact Guard.no rfl rfl | exact Guard.cyes rfl rfl | exact Guard.cno rfl rfl)); rfl; rfl); (refine Pev.call (v := .int .i64 (ct : Int)) rfl (by (repeat (first | exact Args.nil | (apply Args.cons rfl; ((first | exact fun _ => rfl | exact fun h => h | (intro h; simp_all; done))))))) (fun _ w2 hw2 => (count_calls _ w2).mono (fun e w3 h => ⟨by rw [h.1, hct], by rw [h.2]; exact hw2⟩))))
  apply qbn; rfl; rfl; rfl; apply Bin.add_in; omega
  apply qmv; rfl; rfl
  apply qmv; rfl; rfl
  apply qmv; rfl; rfl
  apply QL.op; exact Guard.none; rfl; rfl; apply Pev.slice_str_hi; rfl; exact yes; rfl; exact yes; rfl; (intro hcond; refine ⟨rfl, ?_⟩); omega
  (((first | (with_reducible apply OL.op) | (with_reducible apply QL.op)); ((first | exact Guard.none | exact Guard.yes rfl rfl | exact Guard.no rfl rfl | exact Guard.cyes rfl rfl | exact Guard.cno rfl rfl)); rfl; rfl); (refine Pev.call (v := .int .i64 la) rfl (by (repeat (first | exact Args.nil | (apply Args.cons rfl; ((first | exact fun _ => rfl | exact fun h => h | (intro h; simp_all; done))))))) (fun _ w2 hw2 => (last_calls _ (by omega) w2).mono (fun e w3 h => ⟨by rw [h.1, hlast], by rw [h.2]; exact hw2⟩))))
  apply qbn; rfl; rfl; rfl; apply Bin.sub_in; omega
  apply qas; rfl; rfl
  apply qas; rfl; rfl
  apply qas; rfl; rfl
  apply QL.nil
  with_reducible apply At.next
  apply W.ret
  ((with_reducible apply At.fin3); rfl; rfl; rfl; rfl; intro w' hw')
  exact ⟨rfl, by (exact hw'.toExt (by (repeat (first | exact List.Mem.head _ | apply List.Mem.tail))) (fun k hk => by (focus ((try simp only [add_block]); (repeat (first | exact NotOwned.nil | exact hno _ (by omega) | refine NotOwned.nothing ?_ | refine NotOwned.nds (hlow _ (by omega)) ?_ | refine NotOwned.mapS (by omega) ?_ | apply NotOwned.bif | refine NotOwned.blk (by omega) ?_ | refine NotOwned.row (by omega) ?_ | refine NotOwned.grid (by assumption) (by omega) ?_)); done))))⟩
theorem law_calls (s : ByteArray) (m ln co : Int) (hs : s.size ≤ 9223372036854775807) (hln : -9223372036854775808 ≤ ln) (w : World) (hm : maxAt w) :
    Calls Tryd.prog 3 #[.string s, .int .i64 m, .int .i64 ln, .int .i64 co] w fun e w' => e = .returned (.bool true) ∧ Ext w w' := by
  refine enter Tryd.func3 rfl Tryd.ntmps3 rfl (Cls.start w) ?_
  (simp only [argEnv, Nat.zero_add, Nat.reduceAdd])
  apply W.seq
  apply W.reg
  apply oas; rfl; rfl
  apply OL.nil
  with_reducible apply At.next
  apply W.seq
  apply W.seq
  apply W.reg
  have hp0 : placeV ⟨#[97, 98, 10, 99, 100]⟩ 4 = (2, 2, 0) := by decide +kernel
  (((first | (with_reducible apply OL.op) | (with_reducible apply QL.op)); ((first | exact Guard.none | exact Guard.yes rfl rfl | exact Guard.no rfl rfl | exact Guard.cyes rfl rfl | exact Guard.cno rfl rfl)); rfl; rfl); (refine Pev.call (v := .tuple #[.int .i64 2, .int .i64 2, .int .i64 0]) rfl (by (repeat (first | exact Args.nil | (apply Args.cons rfl; ((first | exact fun _ => rfl | exact fun h => h | (intro h; simp_all; done))))))) (fun _ w2 hw2 => (Place_calls ⟨#[97, 98, 10, 99, 100]⟩ 4 (by decide) w2).mono (fun e w3 h => ⟨by rw [h.1, hp0], hw2.ext h.2⟩))))
  apply omv; rfl; rfl
  apply oex; rfl; rfl; rfl
  apply oex; rfl; rfl; rfl
  apply oex; rfl; rfl; rfl
  apply oas; rfl; rfl
  apply oas; rfl; rfl
  apply oas; rfl; rfl
  apply OL.nil
  with_reducible apply At.next
  apply W.seq
  apply W.reg
  apply omv; rfl; rfl
  apply obn; rfl; rfl; rfl; apply Bin.neq
  apply omv; rfl; rfl
  apply OL.op; exact Guard.no rfl rfl; rfl; rfl; apply Pev.move; rfl; exact yes
  apply OL.op; exact Guard.no rfl rfl; rfl; rfl; apply Pev.bin; rfl; exact yes; rfl; exact yes; intro hcond; apply Bin.neq
  apply OL.op; exact Guard.none; rfl; rfl; apply Pev.pick_or; rfl; exact yes; rfl; exact yes
  apply omv; rfl; rfl
  apply OL.op; exact Guard.no rfl rfl; rfl; rfl; apply Pev.move; rfl; exact yes
  apply OL.op; exact Guard.no rfl rfl; rfl; rfl; apply Pev.bin; rfl; exact yes; rfl; exact yes; intro hcond; apply Bin.neq
  apply OL.op; exact Guard.none; rfl; rfl; apply Pev.pick_or; rfl; exact yes; rfl; exact yes
  apply OL.nil
  with_reducible apply At.next
  refine W.cond rfl (fun hb => by simp at hb) (fun _ => ?_)
  apply W.skip
  with_reducible apply At.next
  apply W.seq
  apply W.reg
  apply omv; rfl; rfl
  (((first | (with_reducible apply OL.op) | (with_reducible apply QL.op)); ((first | exact Guard.none | exact Guard.yes rfl rfl | exact Guard.no rfl rfl | exact Guard.cyes rfl rfl | exact Guard.cno rfl rfl)); rfl; rfl); (exact Pev.call rfl (by (repeat (first | exact Args.nil | (apply Args.cons rfl; ((first | exact fun _ => rfl | exact fun h => h | (intro h; simp_all; done))))))) (fun _ w2 hw2 => (TextError_calls s hs w2).mono (fun e w3 h => ⟨h.1, hw2.ext h.2⟩))))
  apply oas; rfl; rfl
  apply OL.nil
  with_reducible apply At.next
  apply W.seq
  apply W.reg
  apply omv; rfl; rfl
  apply omv; rfl; rfl
  (((first | (with_reducible apply OL.op) | (with_reducible apply QL.op)); ((first | exact Guard.none | exact Guard.yes rfl rfl | exact Guard.no rfl rfl | exact Guard.cyes rfl rfl | exact Guard.cno rfl rfl)); rfl; rfl); (exact Pev.call rfl (by (repeat (first | exact Args.nil | (apply Args.cons rfl; ((first | exact fun _ => rfl | exact fun h => h | (intro h; simp_all; done))))))) (fun _ w2 hw2 => (Place_calls s m hs w2).mono (fun e w3 h => ⟨h.1, hw2.ext h.2⟩))))
  apply omv; rfl; rfl
  apply oex; rfl; rfl; rfl
  apply oex; rfl; rfl; rfl
  apply oex; rfl; rfl; rfl
  apply oas; rfl; rfl
  apply oas; rfl; rfl
  apply oas; rfl; rfl
  apply OL.nil
  with_reducible apply At.next
  apply W.seq
  apply W.reg
  apply omv; rfl; rfl
  apply omv; rfl; rfl
  apply omv; rfl; rfl
  (((first | (with_reducible apply OL.op) | (with_reducible apply QL.op)); ((first | exact Guard.none | exact Guard.yes rfl rfl | exact Guard.no rfl rfl | exact Guard.cyes rfl rfl | exact Guard.cno rfl rfl)); rfl; rfl); (exact Pev.call rfl (by (repeat (first | exact Args.nil | (apply Args.cons rfl; ((first | exact fun _ => rfl | exact fun h => h | (intro h; simp_all; done))))))) (fun _ w2 hw2 => (Offset_calls s ln co hs hln w2 (maxAt_ext (hw2.toExt (s := w) (by (repeat (first | exact List.Mem.head _ | apply List.Mem.tail))) (fun k hk => .nil)) hm)).mono (fun e w3 h => ⟨h.1, hw2.ext h.2⟩))))
  apply omv; rfl; rfl
  apply oex; rfl; rfl; rfl
  apply oex; rfl; rfl; rfl
  apply oas; rfl; rfl
  apply oas; rfl; rfl
  apply OL.nil
  with_reducible apply At.next
  apply W.seq
  apply W.seq
  apply W.reg
  apply omv; rfl; rfl
  (((first | (with_reducible apply OL.op) | (with_reducible apply QL.op)); ((first | exact Guard.none | exact Guard.yes rfl rfl | exact Guard.no rfl rfl | exact Guard.cyes rfl rfl | exact Guard.cno rfl rfl)); rfl; rfl); (exact Pev.call rfl (by (repeat (first | exact Args.nil | (apply Args.cons rfl; ((first | exact fun _ => rfl | exact fun h => h | (intro h; simp_all; done))))))) (fun _ w2 hw2 => (Check_calls s hs w2).mono (fun e w3 h => ⟨h.1, hw2.ext h.2⟩))))
  apply omv; rfl; rfl
  apply obn; rfl; rfl; rfl; apply Bin.neq
  apply OL.nil
  with_reducible apply At.next
  refine W.cond rfl (fun hb => by simp at hb) (fun _ => ?_)
  apply W.skip
  with_reducible apply At.next
  apply W.seq
  apply W.seq
  apply W.reg
  apply omv; rfl; rfl
  apply obn; rfl; rfl; rfl; apply Bin.neq
  apply OL.nil
  with_reducible apply At.next
  by_cases h0 : chk s = 0
  case neg =>
    have e1 : placeV s m = (0, 0, chk s) := by unfold placeV; rw [if_pos h0]
    have e2 : offV s ln co = (0, chk s) := by unfold offV; rw [if_pos h0]
    rw [e1, e2]
    refine W.cond rfl (fun _ => ?_) (fun hb => by simp [h0] at hb)
    apply W.seq
    apply W.reg
    apply omv; rfl; rfl
    apply omv; rfl; rfl
    apply obn; rfl; rfl; rfl; apply Bin.eql
    apply omv; rfl; rfl
    apply OL.op; exact Guard.yes rfl rfl; rfl; rfl; apply Pev.move; rfl; exact yes
    apply OL.op; exact Guard.yes rfl rfl; rfl; rfl; apply Pev.move; rfl; exact yes
    apply OL.op; exact Guard.yes rfl rfl; rfl; rfl; apply Pev.bin; rfl; exact fun h => h; rfl; exact fun h => h; intro hcond; apply Bin.eql
    apply OL.op; exact Guard.none; rfl; rfl; apply Pev.pick_and; rfl; exact yes; rfl; exact fun h => h
    apply omv; rfl; rfl
    apply OL.op; exact Guard.yes rfl rfl; rfl; rfl; apply Pev.move; rfl; exact yes
    apply OL.op; exact Guard.yes rfl rfl; rfl; rfl; apply Pev.bin; rfl; exact fun h => h; rfl; exact yes; intro hcond; apply Bin.eql
    apply OL.op; exact Guard.none; rfl; rfl; apply Pev.pick_and; rfl; exact yes; rfl; exact fun h => h
    apply omv; rfl; rfl
    apply OL.op; exact Guard.yes rfl rfl; rfl; rfl; apply Pev.move; rfl; exact yes
    apply OL.op; exact Guard.yes rfl rfl; rfl; rfl; apply Pev.bin; rfl; exact fun h => h; rfl; exact yes; intro hcond; apply Bin.eql
    apply OL.op; exact Guard.none; rfl; rfl; apply Pev.pick_and; rfl; exact yes; rfl; exact fun h => h
    apply omv; rfl; rfl
    apply OL.op; exact Guard.yes rfl rfl; rfl; rfl; apply Pev.move; rfl; exact yes
    apply OL.op; exact Guard.yes rfl rfl; rfl; rfl; apply Pev.bin; rfl; exact fun h => h; rfl; exact yes; intro hcond; apply Bin.eql
    apply OL.op; exact Guard.none; rfl; rfl; apply Pev.pick_and; rfl; exact yes; rfl; exact fun h => h
    apply oas; rfl; rfl
    apply OL.nil
    with_reducible apply At.next
    apply W.ret
    with_reducible apply At.then_ret
    ((with_reducible apply At.fin1); rfl; rfl; intro w' hw')
    exact ⟨congrArg (fun b => Ending.returned (Value.bool b)) (by simp), by (exact hw'.toExt (by (repeat (first | exact List.Mem.head _ | apply List.Mem.tail))) (fun k hk => by (focus ((try simp only [add_block]); (repeat (first | exact NotOwned.nil | exact hno _ (by omega) | refine NotOwned.nothing ?_ | refine NotOwned.nds (hlow _ (by omega)) ?_ | refine NotOwned.mapS (by omega) ?_ | apply NotOwned.bif | refine NotOwned.blk (by omega) ?_ | refine NotOwned.row (by omega) ?_ | refine NotOwned.grid (by assumption) (by omega) ?_)); done))))⟩
  have hl := chk_len h0
  have e1 : placeV s m = if m < 0 ∨ (s.size : Int) < m then (0, 0, 4) else ((pl s m.toNat).1, (pl s m.toNat).2, 0) := by unfold placeV; rw [if_neg (by simpa using h0)]
  have e2 : offV s ln co = if sc ln co s.data.toList 1 1 0 < 0 then (0, 4) else (sc ln co s.data.toList 1 1 0, 0) := by unfold offV; rw [if_neg (by simpa using h0)]
  refine W.cond rfl (fun hb => by simp [h0] at hb) (fun _ => ?_)
  apply W.skip
  with_reducible apply At.next
  apply W.seq
  apply W.seq
  apply W.reg
  apply omv; rfl; rfl
  apply obn; rfl; rfl; rfl; apply Bin.lss
  apply omv; rfl; rfl
  apply OL.op; exact Guard.no rfl rfl; rfl; rfl; apply Pev.move; rfl; exact yes
  apply OL.op; exact Guard.no rfl rfl; rfl; rfl; apply Pev.move; rfl; exact yes
  apply OL.op; exact Guard.no rfl rfl; rfl; rfl; apply Pev.len_str; rfl; exact fun h => h; rfl
  apply OL.op; exact Guard.no rfl rfl; rfl; rfl; apply Pev.bin; rfl; exact fun h => h; rfl; exact fun h => h; intro hcond; apply Bin.gtr
  apply OL.op; exact Guard.none; rfl; rfl; apply Pev.pick_or; rfl; exact yes; rfl; exact fun h => h
  apply OL.nil
  with_reducible apply At.next
  refine W.joinc [(0, true, .string s), (2, true, .int .i64 ln), (3, true, .int .i64 co), (16, true, .int .i64 (offV s ln co).1), (17, true, .int .i64 (offV s ln co).2)] (Cls [] [w]) ?_ ?_
  · refine W.cond rfl (fun hb => ?_) (fun hb => ?_)
    · rw [if_pos (by simpa using hb)] at e1
      rw [e1]
      apply W.seq
      apply W.reg
      apply omv; rfl; rfl
      apply obn; rfl; rfl; rfl; apply Bin.neq
      apply OL.nil
      with_reducible apply At.next
      refine W.cond rfl (fun hb => by simp at hb) (fun _ => ?_)
      apply W.skip
      exact At.joined (by (repeat (first | exact Sub.nil | apply Sub.cons rfl | (refine Sub.cons_eq rfl (congrArg (Value.int .i64) (by first | omega | (simp only; omega))) ?_)))) (fun w' hw' => hw')
    · rw [if_neg (by simp at hb; omega)] at e1
      obtain ⟨k, rfl⟩ := Int.eq_ofNat_of_zero_le (show 0 ≤ m by simp at hb; omega)
      rw [Int.toNat_natCast] at e1
      rw [e1]
      apply W.seq
      apply W.reg
      apply omv; rfl; rfl
      apply omv; rfl; rfl
      (((first | (with_reducible apply OL.op) | (with_reducible apply QL.op)); ((first | exact Guard.none | exact Guard.yes rfl rfl | exact Guard.no rfl rfl | exact Guard.cyes rfl rfl | exact Guard.cno rfl rfl)); rfl; rfl); (exact Pev.call rfl (by (repeat (first | exact Args.nil | (apply Args.cons rfl; ((first | exact fun _ => rfl | exact fun h => h | (intro h; simp_all; done))))))) (fun _ w2 hw2 => (PlaceOf_calls s k (by simp at hb; omega) hl w2).mono (fun e w3 h => ⟨h.1, hw2.ext h.2⟩))))
      apply omv; rfl; rfl
      apply oex; rfl; rfl; rfl
      apply oex; rfl; rfl; rfl
      apply oas; rfl; rfl
      apply oas; rfl; rfl
      apply OL.nil
      with_reducible apply At.next
      apply W.seq
      apply W.reg
      apply omv; rfl; rfl
      apply obn; rfl; rfl; rfl; apply Bin.neq
      apply omv; rfl; rfl
      apply OL.op; exact Guard.no rfl rfl; rfl; rfl; apply Pev.move; rfl; exact yes
      apply OL.op; exact Guard.no rfl rfl; rfl; rfl; apply Pev.move; rfl; exact yes
      apply OL.op; exact Guard.no rfl rfl; rfl; rfl; apply Pev.bin; rfl; exact yes; rfl; exact yes; intro hcond; apply Bin.neq
      apply OL.op; exact Guard.none; rfl; rfl; apply Pev.pick_or; rfl; exact yes; rfl; exact yes
      apply omv; rfl; rfl
      apply OL.op; exact Guard.no rfl rfl; rfl; rfl; apply Pev.move; rfl; exact yes
      apply OL.op; exact Guard.no rfl rfl; rfl; rfl; apply Pev.move; rfl; exact yes
      apply OL.op; exact Guard.no rfl rfl; rfl; rfl; apply Pev.bin; rfl; exact fun h => h; rfl; exact fun h => h; intro hcond; apply Bin.neq
      apply OL.op; exact Guard.none; rfl; rfl; apply Pev.pick_or; rfl; exact yes; rfl; exact fun h => h
      apply OL.nil
      with_reducible apply At.next
      refine W.cond rfl (fun hb => by simp at hb) (fun _ => ?_)
      apply W.skip
      exact At.joined (by (repeat (first | exact Sub.nil | apply Sub.cons rfl | (refine Sub.cons_eq rfl (congrArg (Value.int .i64) (by first | omega | (simp only; omega))) ?_)))) (fun w' hw' => hw')
  apply W.seq
  apply W.reg
  apply omv; rfl; rfl
  apply omv; rfl; rfl
  apply omv; rfl; rfl
  (((first | (with_reducible apply OL.op) | (with_reducible apply QL.op)); ((first | exact Guard.none | exact Guard.yes rfl rfl | exact Guard.no rfl rfl | exact Guard.cyes rfl rfl | exact Guard.cno rfl rfl)); rfl; rfl); (exact Pev.call rfl (by (repeat (first | exact Args.nil | (apply Args.cons rfl; ((first | exact fun _ => rfl | exact fun h => h | (intro h; simp_all; done))))))) (fun _ w2 hw2 => (OffsetOf_calls s ln co hl w2).mono (fun e w3 h => ⟨h.1, hw2.ext h.2⟩))))
  apply oas; rfl; rfl
  apply OL.nil
  with_reducible apply At.next
  apply W.seq
  apply W.seq
  apply W.reg
  apply omv; rfl; rfl
  apply obn; rfl; rfl; rfl; apply Bin.lss
  apply OL.nil
  with_reducible apply At.next
  refine W.cond rfl (fun hb => ?_) (fun hb => ?_)
  · rw [if_pos (of_decide_eq_true hb)] at e2
    rw [e2]
    apply W.seq
    apply W.reg
    apply omv; rfl; rfl
    apply obn; rfl; rfl; rfl; apply Bin.eql
    apply omv; rfl; rfl
    apply OL.op; exact Guard.yes rfl rfl; rfl; rfl; apply Pev.move; rfl; exact yes
    apply OL.op; exact Guard.yes rfl rfl; rfl; rfl; apply Pev.bin; rfl; exact yes; rfl; exact yes; intro hcond; apply Bin.eql
    apply OL.op; exact Guard.none; rfl; rfl; apply Pev.pick_and; rfl; exact yes; rfl; exact yes
    apply oas; rfl; rfl
    apply OL.nil
    with_reducible apply At.next
    apply W.ret
    with_reducible apply At.then_ret
    ((with_reducible apply At.fin1); rfl; rfl; intro w' hw')
    exact ⟨rfl, by (exact hw'.toExt (by (repeat (first | exact List.Mem.head _ | apply List.Mem.tail))) (fun k hk => by (focus ((try simp only [add_block]); (repeat (first | exact NotOwned.nil | exact hno _ (by omega) | refine NotOwned.nothing ?_ | refine NotOwned.nds (hlow _ (by omega)) ?_ | refine NotOwned.mapS (by omega) ?_ | apply NotOwned.bif | refine NotOwned.blk (by omega) ?_ | refine NotOwned.row (by omega) ?_ | refine NotOwned.grid (by assumption) (by omega) ?_)); done))))⟩
  · rw [if_neg (of_decide_eq_false hb)] at e2
    rw [e2]
    apply W.skip
    with_reducible apply At.next
    apply W.seq
    apply W.reg
    apply omv; rfl; rfl
    apply obn; rfl; rfl; rfl; apply Bin.eql
    apply omv; rfl; rfl
    apply OL.op; exact Guard.yes rfl rfl; rfl; rfl; apply Pev.move; rfl; exact yes
    apply OL.op; exact Guard.yes rfl rfl; rfl; rfl; apply Pev.move; rfl; exact yes
    apply OL.op; exact Guard.yes rfl rfl; rfl; rfl; apply Pev.bin; rfl; exact yes; rfl; exact yes; intro hcond; apply Bin.eql
    apply OL.op; exact Guard.none; rfl; rfl; apply Pev.pick_and; rfl; exact yes; rfl; exact yes
    apply oas; rfl; rfl
    apply OL.nil
    with_reducible apply At.next
    apply W.ret
    ((with_reducible apply At.fin1); rfl; rfl; intro w' hw')
    exact ⟨congrArg (fun b => Ending.returned (Value.bool b)) (by simp), by (exact hw'.toExt (by (repeat (first | exact List.Mem.head _ | apply List.Mem.tail))) (fun k hk => by (focus ((try simp only [add_block]); (repeat (first | exact NotOwned.nil | exact hno _ (by omega) | refine NotOwned.nothing ?_ | refine NotOwned.nds (hlow _ (by omega)) ?_ | refine NotOwned.mapS (by omega) ?_ | apply NotOwned.bif | refine NotOwned.blk (by omega) ?_ | refine NotOwned.row (by omega) ?_ | refine NotOwned.grid (by assumption) (by omega) ?_)); done))))⟩
end Go.Proofs.YtikamdddfpjmaaaDoor.sp
