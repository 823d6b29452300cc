/- The walks of Keyword, of the reference's Reserved and of the law LexerKeywords. Condition: the variable bytealg.MaxLen holds some int. -/
import Derived.Test.YtmmjkpbpmhaooaaKw
import Derived.Test.YtmmjkpbpmhaooaaLift
import Derived.Lib.IndexAny
import Derived.Test.YtmmjkpbpmhaooaaSh
import Derived.Shelf.Small.Strs
import Derived.Shelf.Strings.Search1
import Derived.Shelf.Strings.Search2
import Derived.Shelf.Strings.Search3
import Derived.Shelf.LaysM
import Derived.Shelf.Strings.Shaped
namespace Go.Proofs.Ytmmjkpbpmhaooaa.lk
open Go.RowKit Go.Eng
set_option linter.unusedVariables false
set_option linter.unusedSimpArgs false
set_option maxRecDepth 100000

theorem kbytes : ([32, 109, 111, 100, 117, 108, 101, 32, 105, 109, 112, 111, 114, 116, 32, 101, 120, 112, 111, 114, 116, 32, 100, 97, 116, 97, 32, 99, 108, 97, 115, 115, 32, 105, 110, 115, 116, 97, 110, 99, 101, 32, 101, 102, 102, 101, 99, 116, 32, 119, 104, 101, 114, 101, 32, 108, 101, 116, 32, 105, 110, 32, 105, 102, 32, 116, 104, 101, 110, 32, 101, 108, 115, 101, 32, 99, 97, 115, 101, 32, 111, 102, 32, 104, 97, 110, 100, 108, 101, 32, 119, 105, 116, 104, 32, 105, 110, 102, 105, 120, 108, 32, 105, 110, 102, 105, 120, 114, 32, 105, 110, 102, 105, 120, 32, 114, 101, 116, 117, 114, 110, 32, 32, 61, 32, 45, 62, 32, 61, 62, 32, 58, 32, 124, 32, 92, 32, 46, 32, 33, 32] : List UInt8) = Kw.kstr := by decide +kernel
theorem rbytes : ([124, 109, 111, 100, 117, 108, 101, 124, 105, 109, 112, 111, 114, 116, 124, 101, 120, 112, 111, 114, 116, 124, 100, 97, 116, 97, 124, 99, 108, 97, 115, 115, 124, 105, 110, 115, 116, 97, 110, 99, 101, 124, 101, 102, 102, 101, 99, 116, 124, 119, 104, 101, 114, 101, 124, 108, 101, 116, 124, 105, 110, 124, 105, 102, 124, 116, 104, 101, 110, 124, 101, 108, 115, 101, 124, 99, 97, 115, 101, 124, 111, 102, 124, 104, 97, 110, 100, 108, 101, 124, 119, 105, 116, 104, 124, 105, 110, 102, 105, 120, 108, 124, 105, 110, 102, 105, 120, 114, 124, 105, 110, 102, 105, 120, 124, 114, 101, 116, 117, 114, 110, 124, 61, 124, 45, 62, 124, 61, 62, 124, 58, 124, 92, 124, 46, 124, 33, 124] : List UInt8) = Kw.rstr := by decide +kernel
def kB : ByteArray := ⟨Kw.kstr.toArray⟩
def rB : ByteArray := ⟨Kw.rstr.toArray⟩
theorem kBl : kB.data.toList = Kw.kstr := rfl
theorem rBl : rB.data.toList = Kw.rstr := rfl
/-- the variable that the library's search reads -/
def maxAt (w : World) : Prop := ∃ m, w.cell? ⟨0, 0, none⟩ = some (.int .i64 m)
theorem maxAt_of {w : World} (h : w.ShapedOpen Try.prog) : maxAt w := Try.laysM144.s1_3 w h
theorem maxAt_keep {s w : World} {H : List Go.Eng.Item} {S : List World} (hw : Cls H S w) (hs : s ∈ S) (hno : NotOwned H 0) (h : maxAt s) : maxAt w :=
  h.elim fun m hm => ⟨m, (hw.cell hs (cell_lt hm) hno).trans hm⟩

theorem contains_calls (s sub : ByteArray) (hs : s.size < 4294967281) (w : World) (hm : maxAt w) :
    Calls Try.prog 23 #[.string s, .string sub] w fun e w' => e = .returned (.bool (Lib.contains s.data.toList sub.data.toList)) ∧ w' = w :=
  hm.elim fun m hm => Any.strings_Contains Try.lays144 s sub m w hs hm
theorem contains_one_calls (s : ByteArray) (c : UInt8) (w : World) :
    Calls Try.prog 23 #[.string s, .string ⟨#[c]⟩] w fun e w' => e = .returned (.bool (decide (0 ≤ Lib.indexByte s.data.toList c))) ∧ w' = w := Any.strings_Contains_one Try.lays144 s c w
theorem indexByte_calls (s : ByteArray) (c : Int) (w : World) :
    Calls Try.prog 24 #[.string s, .int .u8 c] w fun e w' => e = .returned (.int .i64 (Lib.indexByte s.data.toList c.toNat.toUInt8)) ∧ w' = w := Any.strings_IndexByte Try.lays137 s c w

theorem containsK (sub : ByteArray) (w : World) (hm : maxAt w) :
    Calls Try.prog 23 #[.string ⟨#[32, 109, 111, 100, 117, 108, 101, 32, 105, 109, 112, 111, 114, 116, 32, 101, 120, 112, 111, 114, 116, 32, 100, 97, 116, 97, 32, 99, 108, 97, 115, 115, 32, 105, 110, 115, 116, 97, 110, 99, 101, 32, 101, 102, 102, 101, 99, 116, 32, 119, 104, 101, 114, 101, 32, 108, 101, 116, 32, 105, 110, 32, 105, 102, 32, 116, 104, 101, 110, 32, 101, 108, 115, 101, 32, 99, 97, 115, 101, 32, 111, 102, 32, 104, 97, 110, 100, 108, 101, 32, 119, 105, 116, 104, 32, 105, 110, 102, 105, 120, 108, 32, 105, 110, 102, 105, 120, 114, 32, 105, 110, 102, 105, 120, 32, 114, 101, 116, 117, 114, 110, 32, 32, 61, 32, 45, 62, 32, 61, 62, 32, 58, 32, 124, 32, 92, 32, 46, 32, 33, 32]⟩, .string sub] w fun e w' => e = .returned (.bool (Lib.contains Kw.kstr sub.data.toList)) ∧ w' = w := by
  have h := contains_calls ⟨#[32, 109, 111, 100, 117, 108, 101, 32, 105, 109, 112, 111, 114, 116, 32, 101, 120, 112, 111, 114, 116, 32, 100, 97, 116, 97, 32, 99, 108, 97, 115, 115, 32, 105, 110, 115, 116, 97, 110, 99, 101, 32, 101, 102, 102, 101, 99, 116, 32, 119, 104, 101, 114, 101, 32, 108, 101, 116, 32, 105, 110, 32, 105, 102, 32, 116, 104, 101, 110, 32, 101, 108, 115, 101, 32, 99, 97, 115, 101, 32, 111, 102, 32, 104, 97, 110, 100, 108, 101, 32, 119, 105, 116, 104, 32, 105, 110, 102, 105, 120, 108, 32, 105, 110, 102, 105, 120, 114, 32, 105, 110, 102, 105, 120, 32, 114, 101, 116, 117, 114, 110, 32, 32, 61, 32, 45, 62, 32, 61, 62, 32, 58, 32, 124, 32, 92, 32, 46, 32, 33, 32]⟩ sub (by decide +kernel) w hm
  have e : (⟨#[32, 109, 111, 100, 117, 108, 101, 32, 105, 109, 112, 111, 114, 116, 32, 101, 120, 112, 111, 114, 116, 32, 100, 97, 116, 97, 32, 99, 108, 97, 115, 115, 32, 105, 110, 115, 116, 97, 110, 99, 101, 32, 101, 102, 102, 101, 99, 116, 32, 119, 104, 101, 114, 101, 32, 108, 101, 116, 32, 105, 110, 32, 105, 102, 32, 116, 104, 101, 110, 32, 101, 108, 115, 101, 32, 99, 97, 115, 101, 32, 111, 102, 32, 104, 97, 110, 100, 108, 101, 32, 119, 105, 116, 104, 32, 105, 110, 102, 105, 120, 108, 32, 105, 110, 102, 105, 120, 114, 32, 105, 110, 102, 105, 120, 32, 114, 101, 116, 117, 114, 110, 32, 32, 61, 32, 45, 62, 32, 61, 62, 32, 58, 32, 124, 32, 92, 32, 46, 32, 33, 32]⟩ : ByteArray).data.toList = Kw.kstr := kbytes
  rw [e] at h
  exact h
theorem containsR (sub : ByteArray) (w : World) (hm : maxAt w) :
    Calls Try.prog 23 #[.string ⟨#[124, 109, 111, 100, 117, 108, 101, 124, 105, 109, 112, 111, 114, 116, 124, 101, 120, 112, 111, 114, 116, 124, 100, 97, 116, 97, 124, 99, 108, 97, 115, 115, 124, 105, 110, 115, 116, 97, 110, 99, 101, 124, 101, 102, 102, 101, 99, 116, 124, 119, 104, 101, 114, 101, 124, 108, 101, 116, 124, 105, 110, 124, 105, 102, 124, 116, 104, 101, 110, 124, 101, 108, 115, 101, 124, 99, 97, 115, 101, 124, 111, 102, 124, 104, 97, 110, 100, 108, 101, 124, 119, 105, 116, 104, 124, 105, 110, 102, 105, 120, 108, 124, 105, 110, 102, 105, 120, 114, 124, 105, 110, 102, 105, 120, 124, 114, 101, 116, 117, 114, 110, 124, 61, 124, 45, 62, 124, 61, 62, 124, 58, 124, 92, 124, 46, 124, 33, 124]⟩, .string sub] w fun e w' => e = .returned (.bool (Lib.contains Kw.rstr sub.data.toList)) ∧ w' = w := by
  have h := contains_calls ⟨#[124, 109, 111, 100, 117, 108, 101, 124, 105, 109, 112, 111, 114, 116, 124, 101, 120, 112, 111, 114, 116, 124, 100, 97, 116, 97, 124, 99, 108, 97, 115, 115, 124, 105, 110, 115, 116, 97, 110, 99, 101, 124, 101, 102, 102, 101, 99, 116, 124, 119, 104, 101, 114, 101, 124, 108, 101, 116, 124, 105, 110, 124, 105, 102, 124, 116, 104, 101, 110, 124, 101, 108, 115, 101, 124, 99, 97, 115, 101, 124, 111, 102, 124, 104, 97, 110, 100, 108, 101, 124, 119, 105, 116, 104, 124, 105, 110, 102, 105, 120, 108, 124, 105, 110, 102, 105, 120, 114, 124, 105, 110, 102, 105, 120, 124, 114, 101, 116, 117, 114, 110, 124, 61, 124, 45, 62, 124, 61, 62, 124, 58, 124, 92, 124, 46, 124, 33, 124]⟩ sub (by decide +kernel) w hm
  have e : (⟨#[124, 109, 111, 100, 117, 108, 101, 124, 105, 109, 112, 111, 114, 116, 124, 101, 120, 112, 111, 114, 116, 124, 100, 97, 116, 97, 124, 99, 108, 97, 115, 115, 124, 105, 110, 115, 116, 97, 110, 99, 101, 124, 101, 102, 102, 101, 99, 116, 124, 119, 104, 101, 114, 101, 124, 108, 101, 116, 124, 105, 110, 124, 105, 102, 124, 116, 104, 101, 110, 124, 101, 108, 115, 101, 124, 99, 97, 115, 101, 124, 111, 102, 124, 104, 97, 110, 100, 108, 101, 124, 119, 105, 116, 104, 124, 105, 110, 102, 105, 120, 108, 124, 105, 110, 102, 105, 120, 114, 124, 105, 110, 102, 105, 120, 124, 114, 101, 116, 117, 114, 110, 124, 61, 124, 45, 62, 124, 61, 62, 124, 58, 124, 92, 124, 46, 124, 33, 124]⟩ : ByteArray).data.toList = Kw.rstr := rbytes
  rw [e] at h
  exact h
theorem mem_index (l : List UInt8) (c : UInt8) : decide (0 ≤ Lib.indexByte l c) = decide (c ∈ l) := by
  rw [← Lib.contains_iff_indexByte]
  simp
theorem ne_empty (s : ByteArray) : decide (s = ⟨#[]⟩) = decide (s.data.toList = []) := by
  apply decide_eq_decide.2
  constructor
  · intro h; rw [h]
  · intro h; apply ByteArray.ext; apply Array.ext'; exact h

theorem one_eq (s : ByteArray) (c : UInt8) : decide (s = ⟨#[c]⟩) = decide (s.data.toList = [c]) := by
  apply decide_eq_decide.2
  constructor
  · intro h; rw [h]
  · intro h; apply ByteArray.ext; apply Array.ext'; exact h
theorem lt_index (l : List UInt8) (c : UInt8) : decide (Lib.indexByte l c < 0) = !decide (c ∈ l) := by
  rw [← mem_index]
  by_cases h : Lib.indexByte l c < 0
  · simp [h]
  · simp [h]; omega
theorem around (s : ByteArray) (c : UInt8) : ((⟨#[c]⟩ : ByteArray) ++ s ++ ⟨#[c]⟩).data.toList = c :: s.data.toList ++ [c] := by
  simp [ByteArray.data_append]

theorem Keyword_calls (s : ByteArray) (hs : s.size < 4611686018427387904) (w : World) (hm : maxAt w) : Calls Try.prog 11 #[.string s] w fun e w' => e = .returned (.bool (Kw.kw s.data.toList)) ∧ Ext w w' := by
  refine enter Try.func11 rfl Try.ntmps11 rfl (Cls.start w) ?_
  (simp only [argEnv, Nat.zero_add, Nat.reduceAdd])
  apply W.seq
  apply W.reg
  apply oas; rfl; rfl
  apply OL.nil
  with_reducible apply At.next
  apply W.seq
  apply W.reg
  apply omv; rfl; rfl
  apply obn; rfl; rfl; rfl; apply Bin.str_neq
  apply omv; rfl; rfl
  apply OL.op; exact Guard.yes rfl rfl; rfl; rfl; apply Pev.move; rfl; exact yes
  (((first | (with_reducible apply OL.op) | (with_reducible apply QL.op)); ((first | exact Guard.none | exact Guard.yes rfl rfl | exact Guard.no rfl rfl | exact Guard.cyes rfl rfl | exact Guard.cno rfl rfl)); rfl; rfl); (exact Pev.call rfl (by (repeat (first | exact Args.nil | (apply Args.cons rfl; ((first | exact fun _ => rfl | exact fun h => h | (intro h; simp_all; done))))))) (fun _ w2 hw2 => (contains_one_calls s 32 w2).mono (fun e w3 h => ⟨h.1, by rw [h.2]; exact hw2⟩))))
  apply OL.op; exact Guard.yes rfl rfl; rfl; rfl; apply Pev.not; rfl; exact fun h => h
  apply OL.op; exact Guard.none; rfl; rfl; apply Pev.pick_and; rfl; exact yes; rfl; exact fun h => h
  apply omv; rfl; rfl
  apply OL.op; exact Guard.yes rfl rfl; rfl; rfl; apply Pev.move; rfl; exact yes
  (((first | (with_reducible apply OL.op) | (with_reducible apply QL.op)); ((first | exact Guard.none | exact Guard.yes rfl rfl | exact Guard.no rfl rfl | exact Guard.cyes rfl rfl | exact Guard.cno rfl rfl)); rfl; rfl); (apply Pev.bin); rfl; ((first | exact fun _ => rfl | exact fun h => h | (intro h; simp_all; done))); rfl; ((first | exact fun _ => rfl | exact fun h => h | (intro h; simp_all; done))); (intro _; apply Bin.str_add); (show 1 + s.size ≤ _; omega))
  (((first | (with_reducible apply OL.op) | (with_reducible apply QL.op)); ((first | exact Guard.none | exact Guard.yes rfl rfl | exact Guard.no rfl rfl | exact Guard.cyes rfl rfl | exact Guard.cno rfl rfl)); rfl; rfl); (apply Pev.bin); rfl; ((first | exact fun _ => rfl | exact fun h => h | (intro h; simp_all; done))); rfl; ((first | exact fun _ => rfl | exact fun h => h | (intro h; simp_all; done))); (intro _; apply Bin.str_add); (rw [ByteArray.size_append]; show 1 + s.size + 1 ≤ _; omega))
  skip
  (((first | (with_reducible apply OL.op) | (with_reducible apply QL.op)); ((first | exact Guard.none | exact Guard.yes rfl rfl | exact Guard.no rfl rfl | exact Guard.cyes rfl rfl | exact Guard.cno rfl rfl)); rfl; rfl); (exact Pev.call rfl (by (repeat (first | exact Args.nil | (apply Args.cons rfl; ((first | exact fun _ => rfl | exact fun h => h | (intro h; simp_all; done))))))) (fun _ w2 hw2 => (containsK _ w2 (maxAt_keep hw2 (by (repeat (first | exact List.Mem.head _ | apply List.Mem.tail))) NotOwned.nil hm)).mono (fun e w3 h => ⟨h.1, by rw [h.2]; exact hw2⟩))))
  apply OL.op; exact Guard.none; rfl; rfl; apply Pev.pick_and; rfl; exact yes; rfl; exact fun h => h
  apply oas; rfl; rfl
  apply OL.nil
  with_reducible apply At.next
  apply W.ret
  ((with_reducible apply At.fin1); rfl; rfl; intro w' hw')
  refine ⟨?_, by (exact hw'.toExt (by (repeat (first | exact List.Mem.head _ | apply List.Mem.tail))) (fun k hk => by (focus ((try simp only [add_block]); (repeat (first | exact NotOwned.nil | exact hno _ (by omega) | refine NotOwned.nothing ?_ | refine NotOwned.nds (hlow _ (by omega)) ?_ | refine NotOwned.mapS (by omega) ?_ | apply NotOwned.bif | refine NotOwned.blk (by omega) ?_ | refine NotOwned.row (by omega) ?_ | refine NotOwned.grid (by assumption) (by omega) ?_)); done))))⟩
  rw [ne_empty, mem_index, around]
  unfold Kw.kw
  congr 2
  simp [Bool.and_assoc]

theorem Reserved_calls (s : ByteArray) (hs : s.size < 4611686018427387904) (w : World) (hm : maxAt w) : Calls Try.prog 12 #[.string s] w fun e w' => e = .returned (.bool (Kw.rs s.data.toList)) ∧ Ext w w' := by
  refine enter Try.func12 rfl Try.ntmps12 rfl (Cls.start w) ?_
  (simp only [argEnv, Nat.zero_add, Nat.reduceAdd])
  apply W.seq
  apply W.reg
  apply oas; rfl; rfl
  apply OL.nil
  with_reducible apply At.next
  apply W.seq
  apply W.reg
  apply omv; rfl; rfl
  apply obn; rfl; rfl; rfl; apply Bin.str_eql
  apply omv; rfl; rfl
  apply OL.op; exact Guard.no rfl rfl; rfl; rfl; apply Pev.move; rfl; exact yes
  apply OL.op; exact Guard.no rfl rfl; rfl; rfl; apply Pev.bin; rfl; exact fun h => h; rfl; exact yes; intro hcond; apply Bin.str_neq
  apply OL.op; exact Guard.no rfl rfl; rfl; rfl; apply Pev.move; rfl; exact fun h => h
  apply OL.op; exact Guard.cyes rfl rfl; rfl; rfl; apply Pev.move; rfl; exact yes
  (((first | (with_reducible apply OL.op) | (with_reducible apply QL.op)); ((first | exact Guard.none | exact Guard.yes rfl rfl | exact Guard.no rfl rfl | exact Guard.cyes rfl rfl | exact Guard.cno rfl rfl)); rfl; rfl); (exact Pev.call rfl (by (repeat (first | exact Args.nil | (apply Args.cons rfl; ((first | exact fun _ => rfl | exact fun h => h | (intro h; simp_all; done))))))) (fun _ w2 hw2 => (indexByte_calls s 124 w2).mono (fun e w3 h => ⟨h.1, by rw [h.2]; exact hw2⟩))))
  apply OL.op; exact Guard.cyes rfl rfl; rfl; rfl; apply Pev.bin; rfl; exact fun h => h; rfl; exact yes; intro hcond; apply Bin.lss
  apply OL.op; exact Guard.no rfl rfl; rfl; rfl; apply Pev.pick_and; rfl; exact fun h => h; rfl; exact fun h => h
  apply OL.op; exact Guard.no rfl rfl; rfl; rfl; apply Pev.move; rfl; exact fun h => h
  apply OL.op; exact Guard.cyes rfl rfl; rfl; rfl; apply Pev.move; rfl; exact yes
  (((first | (with_reducible apply OL.op) | (with_reducible apply QL.op)); ((first | exact Guard.none | exact Guard.yes rfl rfl | exact Guard.no rfl rfl | exact Guard.cyes rfl rfl | exact Guard.cno rfl rfl)); rfl; rfl); (apply Pev.bin); rfl; ((first | exact fun _ => rfl | exact fun h => h | (intro h; simp_all; done))); rfl; ((first | exact fun _ => rfl | exact fun h => h | (intro h; simp_all; done))); (intro _; apply Bin.str_add); (show 1 + s.size ≤ _; omega))
  (((first | (with_reducible apply OL.op) | (with_reducible apply QL.op)); ((first | exact Guard.none | exact Guard.yes rfl rfl | exact Guard.no rfl rfl | exact Guard.cyes rfl rfl | exact Guard.cno rfl rfl)); rfl; rfl); (apply Pev.bin); rfl; ((first | exact fun _ => rfl | exact fun h => h | (intro h; simp_all; done))); rfl; ((first | exact fun _ => rfl | exact fun h => h | (intro h; simp_all; done))); (intro _; apply Bin.str_add); (rw [ByteArray.size_append]; show 1 + s.size + 1 ≤ _; omega))
  skip
  (((first | (with_reducible apply OL.op) | (with_reducible apply QL.op)); ((first | exact Guard.none | exact Guard.yes rfl rfl | exact Guard.no rfl rfl | exact Guard.cyes rfl rfl | exact Guard.cno rfl rfl)); rfl; rfl); (exact Pev.call rfl (by (repeat (first | exact Args.nil | (apply Args.cons rfl; ((first | exact fun _ => rfl | exact fun h => h | (intro h; simp_all; done))))))) (fun _ w2 hw2 => (containsR _ w2 (maxAt_keep hw2 (by (repeat (first | exact List.Mem.head _ | apply List.Mem.tail))) NotOwned.nil hm)).mono (fun e w3 h => ⟨h.1, by rw [h.2]; exact hw2⟩))))
  apply OL.op; exact Guard.no rfl rfl; rfl; rfl; apply Pev.pick_and; rfl; exact fun h => h; rfl; exact fun h => h
  apply OL.op; exact Guard.none; rfl; rfl; apply Pev.pick_or; rfl; exact yes; rfl; exact fun h => h
  apply oas; rfl; rfl
  apply OL.nil
  with_reducible apply At.next
  apply W.ret
  ((with_reducible apply At.fin1); rfl; rfl; intro w' hw')
  refine ⟨?_, by (exact hw'.toExt (by (repeat (first | exact List.Mem.head _ | apply List.Mem.tail))) (fun k hk => by (focus ((try simp only [add_block]); (repeat (first | exact NotOwned.nil | exact hno _ (by omega) | refine NotOwned.nothing ?_ | refine NotOwned.nds (hlow _ (by omega)) ?_ | refine NotOwned.mapS (by omega) ?_ | apply NotOwned.bif | refine NotOwned.blk (by omega) ?_ | refine NotOwned.row (by omega) ?_ | refine NotOwned.grid (by assumption) (by omega) ?_)); done))))⟩
  rw [ne_empty, one_eq, around, show (Int.toNat 124).toUInt8 = 124 from rfl, lt_index]
  unfold Kw.rs
  congr 2
  simp [Bool.and_assoc]

theorem law (s : ByteArray) (hs : s.size < 4611686018427387904) (w : World) (hm : maxAt w) :
    Calls Try.prog 4 #[.string s] w fun e w' => e = .returned (.bool true) ∧ Ext w w' := by
  refine enter Try.func4 rfl Try.ntmps4 rfl (Cls.start w) ?_
  (simp only [argEnv, Nat.zero_add, Nat.reduceAdd])
  apply W.seq
  apply W.reg
  apply oas; rfl; rfl
  apply OL.nil
  with_reducible apply At.next
  apply W.seq
  apply W.seq
  apply W.reg
  (((first | (with_reducible apply OL.op) | (with_reducible apply QL.op)); ((first | exact Guard.none | exact Guard.yes rfl rfl | exact Guard.no rfl rfl | exact Guard.cyes rfl rfl | exact Guard.cno rfl rfl)); rfl; rfl); (exact Pev.call rfl (by (repeat (first | exact Args.nil | (apply Args.cons rfl; ((first | exact fun _ => rfl | exact fun h => h | (intro h; simp_all; done))))))) (fun _ w2 hw2 => (Keyword_calls ⟨#[119, 104, 101, 114, 101]⟩ (by decide) w2 (maxAt_keep hw2 (by (repeat (first | exact List.Mem.head _ | apply List.Mem.tail))) NotOwned.nil hm)).mono (fun e w3 h => ⟨h.1, hw2.ext h.2⟩))))
  rw [show Kw.kw (⟨#[119, 104, 101, 114, 101]⟩ : ByteArray).data.toList = true by decide +kernel]
  apply OL.op; exact Guard.none; rfl; rfl; apply Pev.not; rfl; exact yes
  apply OL.nil
  with_reducible apply At.next
  (refine W.cond rfl (fun h1 => ?_) (fun h1 => ?_)) <;> (try (simp only [Bool.and_eq_true, Bool.or_eq_true, Bool.not_eq_true', Bool.and_eq_false_iff, Bool.or_eq_false_iff, Bool.not_eq_false', decide_eq_true_eq, decide_eq_false_iff_not, Int.not_lt, Int.not_le] at h1)) <;> (try (exfalso; first | omega | exact h1 trivial | contradiction))
  apply W.skip
  with_reducible apply At.next
  apply W.seq
  apply W.reg
  apply omv; rfl; rfl
  (((first | (with_reducible apply OL.op) | (with_reducible apply QL.op)); ((first | exact Guard.none | exact Guard.yes rfl rfl | exact Guard.no rfl rfl | exact Guard.cyes rfl rfl | exact Guard.cno rfl rfl)); rfl; rfl); (exact Pev.call rfl (by (repeat (first | exact Args.nil | (apply Args.cons rfl; ((first | exact fun _ => rfl | exact fun h => h | (intro h; simp_all; done))))))) (fun _ w2 hw2 => (Keyword_calls s hs w2 (maxAt_keep hw2 (by (repeat (first | exact List.Mem.head _ | apply List.Mem.tail))) NotOwned.nil hm)).mono (fun e w3 h => ⟨h.1, hw2.ext h.2⟩))))
  apply omv; rfl; rfl
  (((first | (with_reducible apply OL.op) | (with_reducible apply QL.op)); ((first | exact Guard.none | exact Guard.yes rfl rfl | exact Guard.no rfl rfl | exact Guard.cyes rfl rfl | exact Guard.cno rfl rfl)); rfl; rfl); (exact Pev.call rfl (by (repeat (first | exact Args.nil | (apply Args.cons rfl; ((first | exact fun _ => rfl | exact fun h => h | (intro h; simp_all; done))))))) (fun _ w2 hw2 => (Reserved_calls s hs w2 (maxAt_keep hw2 (by (repeat (first | exact List.Mem.head _ | apply List.Mem.tail))) NotOwned.nil hm)).mono (fun e w3 h => ⟨h.1, hw2.ext h.2⟩))))
  apply obn; rfl; rfl; rfl; apply Bin.bool_eql; rfl
  apply oas; rfl; rfl
  apply OL.nil
  with_reducible apply At.next
  apply W.ret
  ((with_reducible apply At.fin1); rfl; rfl; intro w' hw')
  exact ⟨by simp [Kw.kw_rs], by (exact hw'.toExt (by (repeat (first | exact List.Mem.head _ | apply List.Mem.tail))) (fun k hk => by (focus ((try simp only [add_block]); (repeat (first | exact NotOwned.nil | exact hno _ (by omega) | refine NotOwned.nothing ?_ | refine NotOwned.nds (hlow _ (by omega)) ?_ | refine NotOwned.mapS (by omega) ?_ | apply NotOwned.bif | refine NotOwned.blk (by omega) ?_ | refine NotOwned.row (by omega) ?_ | refine NotOwned.grid (by assumption) (by omega) ?_)); done))))⟩
end Go.Proofs.Ytmmjkpbpmhaooaa.lk
