/- The walks of Digest, of the reference's Sum and of the law IfaceDigests. Conditions: none. -/
import Derived.Test.YtejnmbgkhomcgaaStr
import Derived.Test.YtejnmbgkhomcgaaLift
import Derived.Test.YtejnmbgkhomcgaaRows
namespace Go.Proofs.Ytejnmbgkhomcgaa.dg
open Go.RowKit Go.Eng
set_option linter.unusedVariables false
set_option maxRecDepth 100000

def hexs : ByteArray := ⟨#[48, 49, 50, 51, 52, 53, 54, 55, 56, 57, 97, 98, 99, 100, 101, 102]⟩
def dmul (h b : Int) : Int := IntKind.u64.wrap (bits .xor .u64 h b * 1099511628211)
def dst (s : ByteArray) : Nat → Int
  | 0 => 14695981039346656037
  | k + 1 => dmul (dst s k) (IntKind.u64.wrap (bt s k))
def dfin (s : ByteArray) : Int := dmul (dst s s.size) (IntKind.u64.wrap s.size)
/-- the digit at place j of a word: 0 is the highest -/
def dg (h : Int) (j : Nat) : UInt8 := hexs.data.toList.getD (h / 2 ^ (60 - 4 * j) % 16).toNat 0
def digs (h : Int) (i : Nat) : List UInt8 := (List.range 16).map fun j => if j < i then dg h j else 0
def low (h : Int) (i : Nat) : List UInt8 := (List.range i).map fun j => dg h (16 - i + j)
def hexOf (h : Int) : ByteArray := ⟨(digs h 16).toArray⟩

theorem wrap_u64 (n : Int) : IntKind.u64.wrap n = n % 18446744073709551616 := by
  simp [IntKind.wrap, IntKind.bits, IntKind.signed]
theorem dmul_in (h b : Int) : 0 ≤ dmul h b ∧ dmul h b < 18446744073709551616 := by unfold dmul; rw [wrap_u64]; omega
theorem split (x : Int) : IntKind.u64.wrap (IntKind.u64.wrap (IntKind.u64.wrap (x * 2 ^ (40 : Int).toNat) + IntKind.u64.wrap (x * 2 ^ (8 : Int).toNat)) + IntKind.u64.wrap (x * 179)) = IntKind.u64.wrap (x * 1099511628211) := by
  simp only [wrap_u64]
  have h1 : (2 : Int) ^ (40 : Int).toNat = 1099511627776 := by decide +kernel
  have h2 : (2 : Int) ^ (8 : Int).toNat = 256 := by decide +kernel
  rw [h1, h2]
  omega
/-- the state ahead of round k of Sum's first loop -/
def sst (s : ByteArray) (k : Nat) : Int := if k ≤ s.size then dst s k else dfin s
theorem sst_lt {s : ByteArray} {k : Nat} (h : k < s.size) : IntKind.u64.wrap (bits .xor .u64 (sst s k) (IntKind.u64.wrap (bt s k)) * 1099511628211) = sst s (k + 1) := by
  unfold sst; rw [if_pos (by omega), if_pos (by omega)]; rfl
theorem sst_eq {s : ByteArray} {k : Nat} (h : k = s.size) : IntKind.u64.wrap (bits .xor .u64 (sst s k) (IntKind.u64.wrap (s.size : Int)) * 1099511628211) = sst s (k + 1) := by
  unfold sst; rw [if_pos (by omega), if_neg (by omega), h]; rfl
theorem sst_gt {s : ByteArray} {k : Nat} (h : s.size < k) : sst s k = dfin s := by unfold sst; rw [if_neg (by omega)]
theorem dfin_in (s : ByteArray) : 0 ≤ dfin s ∧ dfin s < 18446744073709551616 := dmul_in _ _
/-- what is left of a word after i digits from below -/
def shd (h : Int) (i : Nat) : Int := h / 16 ^ i
theorem shd_in {h : Int} (hh : 0 ≤ h ∧ h < 18446744073709551616) (i : Nat) : 0 ≤ shd h i ∧ shd h i < 18446744073709551616 := by
  have hp : (0 : Int) < 16 ^ i := Int.pow_pos (by decide)
  unfold shd
  refine ⟨Int.ediv_nonneg hh.1 (Int.le_of_lt hp), Int.lt_of_le_of_lt ?_ hh.2⟩
  exact Int.ediv_le_self _ hh.1
theorem shd_succ {h : Int} (hh : 0 ≤ h ∧ h < 18446744073709551616) (i : Nat) : IntKind.u64.wrap ((shd h i).tdiv 16) = shd h (i + 1) := by
  have h1 := shd_in hh i
  rw [Int.tdiv_eq_ediv_of_nonneg h1.1, wrap_u64]
  have : shd h (i + 1) = shd h i / 16 := by
    unfold shd
    rw [Int.pow_succ, Int.ediv_ediv_of_nonneg (Int.le_of_lt (Int.pow_pos (by decide)))]
  rw [this]
  omega
theorem and15 (x : Int) : bits .and .u64 x 15 = x % 16 := by
  have h1 : (BitVec.ofInt 64 15).toNat = 2 ^ 4 - 1 := by decide
  have h2 : (BitVec.ofInt 64 x).toNat = (x % 18446744073709551616).toNat := by
    rw [BitVec.toNat_ofInt]; rfl
  show IntKind.u64.wrap ((BitVec.ofInt 64 x &&& BitVec.ofInt 64 15).toNat : Int) = _
  rw [BitVec.toNat_and, h1, Nat.and_two_pow_sub_one_eq_mod, h2, wrap_u64]
  omega
theorem digs_length (h : Int) (i : Nat) : ((digs h i).map byteCell).length = 16 := by simp [digs]
theorem digs_set (h : Int) (i : Nat) (hi : i < 16) : ((digs h i).map byteCell).set i (byteCell (dg h i)) = (digs h (i + 1)).map byteCell := by
  apply List.ext_getElem?
  intro j
  rw [List.getElem?_set]
  simp only [digs, List.map_map, List.length_map, List.length_range, List.getElem?_map]
  by_cases hj : i = j
  · subst hj
    simp [hi]
  · rw [if_neg hj]
    by_cases h16 : j < 16
    · rw [List.getElem?_range h16]
      simp only [Option.map_some, Function.comp_apply]
      congr 2
      by_cases h : j < i
      · rw [if_pos h, if_pos (by omega)]
      · rw [if_neg h, if_neg (by omega)]
    · rw [List.getElem?_eq_none (by simp; omega)]
      rfl
theorem low_all (h : Int) : low h 16 = digs h 16 := by
  unfold low digs
  apply List.map_congr_left
  intro j hj
  rw [List.mem_range] at hj
  rw [if_pos hj]
  simp
theorem low_length (h : Int) (i : Nat) : (low h i).length = i := by simp [low]
theorem low_size (h : Int) (i : Nat) : (ByteArray.mk (low h i).toArray).size = i := by simp [low, ByteArray.size]
theorem low_succ (h : Int) (i : Nat) (hi : i < 16) : (hexs.extract (h / 16 ^ i % 16).toNat ((h / 16 ^ i % 16).toNat + 1)) ++ ByteArray.mk (low h i).toArray = ByteArray.mk (low h (i + 1)).toArray := by
  have hp : (h / 16 ^ i % 16).toNat < 16 := by omega
  have he : ∀ m : Nat, m < 16 → hexs.extract m (m + 1) = ByteArray.mk [hexs.data.toList.getD m 0].toArray := by decide +kernel
  rw [he _ hp]
  have hd : h / 16 ^ i = h / 2 ^ (60 - 4 * (16 - (i + 1) + 0)) := by
    have : (2 : Int) ^ (60 - 4 * (16 - (i + 1) + 0)) = 16 ^ i := by
      rw [show 60 - 4 * (16 - (i + 1) + 0) = 4 * i by omega, Int.pow_mul]; rfl
    rw [this]
  apply ByteArray.ext
  rw [ByteArray.data_append]
  simp only [List.append_toArray]
  congr 1
  simp only [low, List.range_succ_eq_map, List.map_cons, List.map_map, List.singleton_append]
  congr 1
  · unfold dg; rw [hd]
  · apply List.map_congr_left
    intro j hj
    simp only [Function.comp_apply]
    congr 1
    omega

theorem Sum_calls (s : ByteArray) (hs : s.size < 9223372036854775807) (w : World) : Calls Try.prog 12 #[.string s] w fun e w' => e = .returned (.string (hexOf (dfin s))) ∧ Ext w w' := by
  refine enter Try.func12 rfl Try.ntmps12 rfl (Cls.start w) ?_
  (simp only [argEnv, Nat.zero_add, Nat.reduceAdd])
  apply W.seq
  apply W.reg
  apply oas; rfl; rfl
  apply OL.nil
  with_reducible apply At.next
  apply W.seq
  apply W.reg
  apply oas; rfl; rfl
  apply OL.nil
  with_reducible apply At.next
  apply W.seq
  apply W.seq
  apply W.reg
  apply oas; rfl; rfl
  apply OL.nil
  with_reducible apply At.next
  apply W.block
  refine W.loop (G := Nat) (fun k => k ≤ s.size + 1) (fun k => s.size + 1 - k)
    (fun k => [(4, true, .int .i64 (k : Int)), (3, true, .int .u64 (sst s k)), (0, true, .string s)])
    (fun k => Cls [] [w]) 0 (by omega) (by show Sub _ [_, (3, true, .int .u64 (if 0 ≤ s.size then dst s 0 else dfin s)), _]; rw [if_pos (Nat.zero_le _)]; (repeat (first | exact Sub.nil | apply Sub.cons rfl))) (fun w' hw' => hw') ?_
  intro k hk
  apply W.seq
  apply W.seq
  apply W.reg
  apply omv; rfl; rfl
  apply omv; rfl; rfl
  apply OL.op; exact Guard.none; rfl; rfl; apply Pev.len_str; rfl; exact yes; rfl
  apply obn; rfl; rfl; rfl; apply Bin.leq
  apply OL.nil
  with_reducible apply At.next
  (refine W.cond rfl (fun hlt => ?_) (fun hlt => ?_)) <;> (try (simp only [Bool.and_eq_true, Bool.or_eq_true, Bool.not_eq_true', Bool.and_eq_false_iff, Bool.or_eq_false_iff, Bool.not_eq_false', decide_eq_true_eq, decide_eq_false_iff_not, Int.not_lt, Int.not_le] at hlt)) <;> (try (exfalso; first | omega | exact hlt trivial | contradiction))
  · apply W.skip
    with_reducible apply At.next
    apply W.seq
    apply W.block
    apply W.seq
    apply W.reg
    apply omv; rfl; rfl
    apply OL.op; exact Guard.none; rfl; rfl; apply Pev.len_str; rfl; exact yes; rfl
    apply OL.op; exact Guard.none; rfl; rfl; apply Pev.conv_int; rfl; exact yes; rfl; rfl
    apply oas; rfl; rfl
    apply OL.nil
    with_reducible apply At.next
    apply W.seq
    apply W.seq
    apply W.reg
    apply omv; rfl; rfl
    apply omv; rfl; rfl
    apply OL.op; exact Guard.none; rfl; rfl; apply Pev.len_str; rfl; exact yes; rfl
    apply obn; rfl; rfl; rfl; apply Bin.lss
    apply OL.nil
    with_reducible apply At.next
    (refine W.cond rfl (fun hlt2 => ?_) (fun hlt2 => ?_)) <;> (try (simp only [Bool.and_eq_true, Bool.or_eq_true, Bool.not_eq_true', Bool.and_eq_false_iff, Bool.or_eq_false_iff, Bool.not_eq_false', decide_eq_true_eq, decide_eq_false_iff_not, Int.not_lt, Int.not_le] at hlt2)) <;> (try (exfalso; first | omega | exact hlt2 trivial | contradiction))
    · apply W.reg
      apply omv; rfl; rfl
      apply omv; rfl; rfl
      apply OL.op; exact Guard.none; rfl; rfl; apply Pev.index_str; rfl; exact yes; rfl; exact yes; rfl; (intro hcond; refine ⟨rfl, ?_⟩); omega
      apply OL.op; exact Guard.none; rfl; rfl; apply Pev.conv_int; rfl; exact yes; rfl; rfl
      apply oas; rfl; rfl
      apply OL.nil
      with_reducible apply At.next
      apply W.seq
      apply W.reg
      apply omv; rfl; rfl
      apply omv; rfl; rfl
      apply obn; rfl; rfl; rfl; apply Bin.xor
      apply oas; rfl; rfl
      apply OL.nil
      with_reducible apply At.next
      apply W.reg
      apply omv; rfl; rfl
      apply obn; rfl; rfl; rfl; apply Bin.shl; decide
      apply omv; rfl; rfl
      apply obn; rfl; rfl; rfl; apply Bin.shl; decide
      apply obn; rfl; rfl; rfl; apply Bin.add
      apply omv; rfl; rfl
      apply obn; rfl; rfl; rfl; apply Bin.mul
      apply obn; rfl; rfl; rfl; apply Bin.add
      apply oas; rfl; rfl
      apply OL.nil
      with_reducible apply At.in_normal
      with_reducible apply At.next
      apply W.reg
      apply omv; rfl; rfl
      apply obn; rfl; rfl; rfl; apply Bin.add_in; omega
      apply oas; rfl; rfl
      apply OL.nil
      rw [split, sst_lt (by omega)]
      exact At.again (k + 1) (by omega) (by omega) (by (repeat (first | exact Sub.nil | apply Sub.cons rfl))) (fun w' hw' => hw')
    · apply W.skip
      with_reducible apply At.next
      apply W.seq
      apply W.reg
      apply omv; rfl; rfl
      apply omv; rfl; rfl
      apply obn; rfl; rfl; rfl; apply Bin.xor
      apply oas; rfl; rfl
      apply OL.nil
      with_reducible apply At.next
      apply W.reg
      apply omv; rfl; rfl
      apply obn; rfl; rfl; rfl; apply Bin.shl; decide
      apply omv; rfl; rfl
      apply obn; rfl; rfl; rfl; apply Bin.shl; decide
      apply obn; rfl; rfl; rfl; apply Bin.add
      apply omv; rfl; rfl
      apply obn; rfl; rfl; rfl; apply Bin.mul
      apply obn; rfl; rfl; rfl; apply Bin.add
      apply oas; rfl; rfl
      apply OL.nil
      with_reducible apply At.in_normal
      with_reducible apply At.next
      apply W.reg
      apply omv; rfl; rfl
      apply obn; rfl; rfl; rfl; apply Bin.add_in; omega
      apply oas; rfl; rfl
      apply OL.nil
      rw [split, sst_eq (by omega)]
      exact At.again (k + 1) (by omega) (by omega) (by (repeat (first | exact Sub.nil | apply Sub.cons rfl))) (fun w' hw' => hw')
  · apply W.exit
    with_reducible apply At.then_exit
    with_reducible apply At.then_exit
    with_reducible apply At.in_exit
    with_reducible apply At.next
    apply W.seq
    apply W.reg
    apply oas; rfl; rfl
    apply OL.nil
    with_reducible apply At.next
    apply W.seq
    apply W.seq
    apply W.reg
    apply oas; rfl; rfl
    apply OL.nil
    with_reducible apply At.next
    apply W.block
    rw [sst_gt (by omega)]
    have hin := dfin_in s
    refine W.loop (G := Nat) (fun i => i ≤ 16) (fun i => 16 - i)
      (fun i => [(7, true, .int .i64 (i : Int)), (6, true, .string ⟨(low (dfin s) i).toArray⟩), (3, true, .int .u64 (shd (dfin s) i))])
      (fun i => Cls [] [w]) 0 (by omega) (by rw [show shd (dfin s) 0 = dfin s by unfold shd; simp]; (repeat (first | exact Sub.nil | apply Sub.cons rfl))) (fun w' hw' => hw') ?_
    intro i hi
    have hsh := shd_in hin i
    apply W.seq
    apply W.seq
    apply W.reg
    apply omv; rfl; rfl
    apply obn; rfl; rfl; rfl; apply Bin.lss
    apply OL.nil
    with_reducible apply At.next
    (refine W.cond rfl (fun hlt2 => ?_) (fun hlt2 => ?_)) <;> (try (simp only [Bool.and_eq_true, Bool.or_eq_true, Bool.not_eq_true', Bool.and_eq_false_iff, Bool.or_eq_false_iff, Bool.not_eq_false', decide_eq_true_eq, decide_eq_false_iff_not, Int.not_lt, Int.not_le] at hlt2)) <;> (try (exfalso; first | omega | exact hlt2 trivial | contradiction))
    · have hm : 0 ≤ shd (dfin s) i % 16 ∧ shd (dfin s) i % 16 < 16 := by omega
      have hw1 : IntKind.u64.wrap (shd (dfin s) i % 16 + 1) = (((shd (dfin s) i % 16).toNat + 1 : Nat) : Int) := by rw [wrap_u64]; omega
      apply W.skip
      with_reducible apply At.next
      apply W.seq
      apply W.block
      apply W.seq
      apply W.reg
      apply omv; rfl; rfl
      apply obn; rfl; rfl; rfl; apply Bin.rem_in; omega
      apply omv; rfl; rfl
      apply obn; rfl; rfl; rfl; apply Bin.rem_in; omega
      apply obn; rfl; rfl; rfl; apply Bin.add
      (((first | (with_reducible apply OL.op) | (with_reducible apply QL.op)); ((first | exact Guard.none | exact Guard.yes rfl rfl | exact Guard.no rfl rfl | exact Guard.cyes rfl rfl | exact Guard.cno rfl rfl)); rfl; rfl); (apply Pev.slice_str (s := hexs) (shd (dfin s) i % 16).toNat ((shd (dfin s) i % 16).toNat + 1)); rfl; ((first | exact fun _ => rfl | exact fun h => h | (intro h; simp_all; done))); rfl; ((first | exact fun _ => rfl | exact fun h => h | (intro h; simp_all; done))); rfl; ((first | exact fun _ => rfl | exact fun h => h | (intro h; simp_all; done))); rfl; (intro _; refine ⟨by omega, hw1, by omega, ?_⟩); show _ ≤ 16; omega)
      apply omv; rfl; rfl
      (((first | (with_reducible apply OL.op) | (with_reducible apply QL.op)); ((first | exact Guard.none | exact Guard.yes rfl rfl | exact Guard.no rfl rfl | exact Guard.cyes rfl rfl | exact Guard.cno rfl rfl)); rfl; rfl); (apply Pev.bin); rfl; ((first | exact fun _ => rfl | exact fun h => h | (intro h; simp_all; done))); rfl; ((first | exact fun _ => rfl | exact fun h => h | (intro h; simp_all; done))); (intro _; apply Bin.str_add); rw [low_size, ByteArray.size_extract]; omega)
      rw [show hexs.extract (shd (dfin s) i % 16).toNat ((shd (dfin s) i % 16).toNat + 1) ++ ByteArray.mk (low (dfin s) i).toArray = ByteArray.mk (low (dfin s) (i + 1)).toArray from low_succ _ i (by omega)]
      apply oas; rfl; rfl
      apply OL.nil
      with_reducible apply At.next
      apply W.reg
      apply omv; rfl; rfl
      apply obn; rfl; rfl; rfl; apply Bin.quo; omega
      apply oas; rfl; rfl
      apply OL.nil
      with_reducible apply At.in_normal
      with_reducible apply At.next
      apply W.reg
      apply omv; rfl; rfl
      apply obn; rfl; rfl; rfl; apply Bin.add_in; omega
      apply oas; rfl; rfl
      apply OL.nil
      rw [shd_succ hin]
      exact At.again (i + 1) (by omega) (by omega) (by (repeat (first | exact Sub.nil | apply Sub.cons rfl))) (fun w' hw' => hw')
    · apply W.exit
      with_reducible apply At.then_exit
      with_reducible apply At.then_exit
      with_reducible apply At.in_exit
      with_reducible apply At.next
      apply W.seq
      apply W.reg
      apply omv; rfl; rfl
      apply oas; rfl; rfl
      apply OL.nil
      with_reducible apply At.next
      apply W.ret
      ((with_reducible apply At.fin1); rfl; rfl; intro w' hw')
      refine ⟨?_, by (exact hw'.toExt (by (repeat (first | exact List.Mem.head _ | apply List.Mem.tail))) (fun k hk => by (focus ((try simp only [add_block]); (repeat (first | exact NotOwned.nil | refine NotOwned.blk (by omega) ?_)); done))))⟩
      rw [show i = 16 by omega, low_all]; rfl

theorem Digest_calls (s : ByteArray) (hs : s.size ≤ 9223372036854775807) (w : World) : Calls Try.prog 11 #[.string s] w fun e w' => e = .returned (.string (hexOf (dfin s))) ∧ Ext w w' := by
  refine enter Try.func11 rfl Try.ntmps11 rfl (Cls.start w) ?_
  (simp only [argEnv, Nat.zero_add, Nat.reduceAdd])
  apply W.seq
  apply W.reg
  apply oas; rfl; rfl
  apply OL.nil
  with_reducible apply At.next
  apply W.seq
  apply W.reg
  apply oas; rfl; rfl
  apply OL.nil
  with_reducible apply At.next
  apply W.seq
  apply W.seq
  apply W.reg
  apply omv; rfl; rfl
  apply OL.op; exact Guard.none; rfl; rfl; apply Pev.len_str; rfl; exact yes; rfl
  apply omv; rfl; rfl
  apply OL.nil
  with_reducible apply At.next
  apply W.block
  refine W.loop (G := Nat) (fun k => k ≤ s.size) (fun k => s.size - k)
    (fun k => [(9, true, .int .i64 (k : Int)), (8, true, .int .i64 (s.size : Int)), (3, true, .int .u64 (dst s k)), (0, true, .string s)])
    (fun k => Cls [] [w]) 0 (by omega) (by (repeat (first | exact Sub.nil | apply Sub.cons rfl))) (fun w' hw' => hw') ?_
  intro k hk
  apply W.seq
  apply W.reg
  apply obn; rfl; rfl; rfl; apply Bin.lss
  apply OL.nil
  with_reducible apply At.next
  apply W.seq
  (refine W.cond rfl (fun hlt => ?_) (fun hlt => ?_)) <;> (try (simp only [Bool.and_eq_true, Bool.or_eq_true, Bool.not_eq_true', Bool.and_eq_false_iff, Bool.or_eq_false_iff, Bool.not_eq_false', decide_eq_true_eq, decide_eq_false_iff_not, Int.not_lt, Int.not_le] at hlt)) <;> (try (exfalso; first | omega | exact hlt trivial | contradiction))
  · apply W.skip
    with_reducible apply At.next
    apply W.seq
    apply W.block
    apply W.seq
    apply W.reg
    apply omv; rfl; rfl
    apply oas; rfl; rfl
    apply OL.nil
    with_reducible apply At.next
    apply W.reg
    apply omv; rfl; rfl
    apply omv; rfl; rfl
    apply omv; rfl; rfl
    apply OL.op; exact Guard.none; rfl; rfl; apply Pev.index_str; rfl; exact yes; rfl; exact yes; rfl; (intro hcond; refine ⟨rfl, ?_⟩); omega
    apply OL.op; exact Guard.none; rfl; rfl; apply Pev.conv_int; rfl; exact yes; rfl; rfl
    apply obn; rfl; rfl; rfl; apply Bin.xor
    apply obn; rfl; rfl; rfl; apply Bin.mul
    apply oas; rfl; rfl
    apply OL.nil
    with_reducible apply At.in_normal
    with_reducible apply At.next
    apply W.reg
    apply obn; rfl; rfl; rfl; apply Bin.add_in; omega
    apply omv; rfl; rfl
    apply OL.nil
    exact At.again (k + 1) (by omega) (by omega) (by (repeat (first | exact Sub.nil | apply Sub.cons rfl))) (fun w' hw' => hw')
  · obtain rfl : k = s.size := by omega
    apply W.exit
    with_reducible apply At.then_exit
    with_reducible apply At.then_exit
    with_reducible apply At.in_exit
    with_reducible apply At.next
    apply W.seq
    apply W.reg
    apply omv; rfl; rfl
    apply omv; rfl; rfl
    apply OL.op; exact Guard.none; rfl; rfl; apply Pev.len_str; rfl; exact yes; rfl
    apply OL.op; exact Guard.none; rfl; rfl; apply Pev.conv_int; rfl; exact yes; rfl; rfl
    apply obn; rfl; rfl; rfl; apply Bin.xor
    apply obn; rfl; rfl; rfl; apply Bin.mul
    apply oas; rfl; rfl
    apply OL.nil
    with_reducible apply At.next
    apply W.seq
    apply W.reg
    apply OL.alloc; rfl; rfl; exact CellsL.agg; (intro bk hbk; simp only [AllLe, and_true] at hbk)
    apply OL.nil
    with_reducible apply At.next
    apply W.seq
    apply W.seq
    apply W.reg
    apply omv; rfl; rfl
    apply OL.nil
    with_reducible apply At.next
    apply W.block
    have hin := dfin_in s
    refine W.loop (G := Nat) (fun i => i ≤ 16) (fun i => 16 - i)
      (fun i => [(26, true, .int .i64 (i : Int)), (5, true, .pointer (some ⟨bk, 0, none⟩)), (3, true, .int .u64 (dfin s))])
      (fun i => Cls [blk bk 35 ((digs (dfin s) i).map byteCell)] [w]) 0 (by omega) (by (repeat (first | exact Sub.nil | apply Sub.cons rfl))) (fun w' hw' => hw') ?_
    intro i hi
    apply W.seq
    apply W.reg
    apply obn; rfl; rfl; rfl; apply Bin.lss
    apply OL.nil
    with_reducible apply At.next
    apply W.seq
    (refine W.cond rfl (fun hlt2 => ?_) (fun hlt2 => ?_)) <;> (try (simp only [Bool.and_eq_true, Bool.or_eq_true, Bool.not_eq_true', Bool.and_eq_false_iff, Bool.or_eq_false_iff, Bool.not_eq_false', decide_eq_true_eq, decide_eq_false_iff_not, Int.not_lt, Int.not_le] at hlt2)) <;> (try (exfalso; first | omega | exact hlt2 trivial | contradiction))
    · have hi16 : i < 16 := by omega
      have he : ((60 : Int) - 4 * (i : Int)).toNat = 60 - 4 * i := by omega
      apply W.skip
      with_reducible apply At.next
      apply W.seq
      apply W.block
      apply W.seq
      apply W.reg
      apply omv; rfl; rfl
      apply oas; rfl; rfl
      apply OL.nil
      with_reducible apply At.next
      apply W.reg
      apply omv; rfl; rfl
      apply omv; rfl; rfl
      apply omv; rfl; rfl
      apply obn; rfl; rfl; rfl; apply Bin.mul_in; omega
      apply obn; rfl; rfl; rfl; apply Bin.sub_in; omega
      apply obn; rfl; rfl; rfl; apply Bin.shr64; rfl; omega
      apply obn; rfl; rfl; rfl; apply Bin.and
      rw [and15, he]
      have hm : 0 ≤ dfin s / 2 ^ (60 - 4 * i) % 16 ∧ dfin s / 2 ^ (60 - 4 * i) % 16 < 16 := by omega
      (((first | (with_reducible apply OL.op) | (with_reducible apply QL.op)); ((first | exact Guard.none | exact Guard.yes rfl rfl | exact Guard.no rfl rfl | exact Guard.cyes rfl rfl | exact Guard.cno rfl rfl)); rfl; rfl); (apply Pev.index_str (s := hexs) (m := (dfin s / 2 ^ (60 - 4 * i) % 16).toNat)); rfl; ((first | exact fun _ => rfl | exact fun h => h | (intro h; simp_all; done))); rfl; ((first | exact fun _ => rfl | exact fun h => h | (intro h; simp_all; done))); rfl; (intro _; refine ⟨by omega, ?_⟩); show _ < 16; omega)
      apply OL.op; exact Guard.none; rfl; rfl; apply Pev.idxArr; rfl; exact yes; rfl; exact yes; rfl; intro hcond; omega; rfl
      rw [show 0 + (i : Int).toNat * 1 = i by omega, show Value.int .u8 (bt hexs (dfin s / 2 ^ (60 - 4 * i) % 16).toNat) = byteCell (dg (dfin s) i) from rfl]
      (apply OL.storeI); rfl; rfl; rfl; rfl; rfl; ((repeat (first | apply Swap.z | apply Swap.s))); (rw [digs_length]; exact hi16)
      rw [digs_set _ _ hi16]
      apply OL.nil
      with_reducible apply At.in_normal
      with_reducible apply At.next
      apply W.reg
      apply obn; rfl; rfl; rfl; apply Bin.add_in; omega
      apply omv; rfl; rfl
      apply OL.nil
      exact At.again (i + 1) (by omega) (by omega) (by (repeat (first | exact Sub.nil | apply Sub.cons rfl))) (fun w' hw' => hw')
    · obtain rfl : i = 16 := by omega
      apply W.exit
      with_reducible apply At.then_exit
      with_reducible apply At.then_exit
      with_reducible apply At.in_exit
      with_reducible apply At.next
      apply W.seq
      apply W.reg
      apply OL.op; exact Guard.none; rfl; rfl; apply Pev.sliceArr; rfl; exact yes; rfl; rfl
      (((first | (with_reducible apply OL.op) | (with_reducible apply QL.op)); ((first | exact Guard.none | exact Guard.yes rfl rfl | exact Guard.no rfl rfl | exact Guard.cyes rfl rfl | exact Guard.cno rfl rfl)); rfl; rfl); (apply Pev.bytes_string (xs := digs (dfin s) 16)); rfl; ((first | exact fun _ => rfl | exact fun h => h | (intro h; simp_all; done))); ((repeat (first | exact List.Mem.head _ | apply List.Mem.tail))); rfl; rfl; (intro j hj; rw [Nat.zero_add]))
      apply oas; rfl; rfl
      apply OL.nil
      with_reducible apply At.next
      apply W.ret
      ((with_reducible apply At.fin1); rfl; rfl; intro w' hw')
      exact ⟨rfl, by (exact hw'.toExt (by (repeat (first | exact List.Mem.head _ | apply List.Mem.tail))) (fun k hk => by (focus ((try simp only [add_block]); (repeat (first | exact NotOwned.nil | refine NotOwned.blk (by omega) ?_)); done))))⟩

theorem empty_digest : hexOf (dfin ⟨#[]⟩) = ⟨#[97, 102, 54, 51, 98, 100, 52, 99, 56, 54, 48, 49, 98, 55, 100, 102]⟩ := by decide +kernel

theorem law (s : ByteArray) (hs : s.size < 9223372036854775807) (w : World) :
    Calls Try.prog 5 #[.string s] w fun e w' => e = .returned (.bool true) ∧ Ext w w' := by
  refine enter Try.func5 rfl Try.ntmps5 rfl (Cls.start w) ?_
  (simp only [argEnv, Nat.zero_add, Nat.reduceAdd])
  apply W.seq
  apply W.reg
  apply oas; rfl; rfl
  apply OL.nil
  with_reducible apply At.next
  apply W.seq
  apply W.seq
  apply W.reg
  (((first | (with_reducible apply OL.op) | (with_reducible apply QL.op)); ((first | exact Guard.none | exact Guard.yes rfl rfl | exact Guard.no rfl rfl | exact Guard.cyes rfl rfl | exact Guard.cno rfl rfl)); rfl; rfl); (exact Pev.call rfl (by (repeat (first | exact Args.nil | (apply Args.cons rfl; ((first | exact fun _ => rfl | exact fun h => h | (intro h; simp_all; done))))))) (fun _ w2 hw2 => (Digest_calls ⟨#[]⟩ (by decide) w2).mono (fun e w3 h => ⟨h.1, hw2.ext h.2⟩))))
  rw [empty_digest]
  apply obn; rfl; rfl; rfl; apply Bin.str_neq
  apply OL.nil
  with_reducible apply At.next
  (refine W.cond rfl (fun h1 => ?_) (fun h1 => ?_)) <;> (try (simp only [Bool.and_eq_true, Bool.or_eq_true, Bool.not_eq_true', Bool.and_eq_false_iff, Bool.or_eq_false_iff, Bool.not_eq_false', decide_eq_true_eq, decide_eq_false_iff_not, Int.not_lt, Int.not_le] at h1)) <;> (try (exfalso; first | omega | exact h1 trivial | contradiction))
  apply W.skip
  with_reducible apply At.next
  apply W.seq
  apply W.reg
  apply omv; rfl; rfl
  (((first | (with_reducible apply OL.op) | (with_reducible apply QL.op)); ((first | exact Guard.none | exact Guard.yes rfl rfl | exact Guard.no rfl rfl | exact Guard.cyes rfl rfl | exact Guard.cno rfl rfl)); rfl; rfl); (exact Pev.call rfl (by (repeat (first | exact Args.nil | (apply Args.cons rfl; ((first | exact fun _ => rfl | exact fun h => h | (intro h; simp_all; done))))))) (fun _ w2 hw2 => (Digest_calls s (by omega) w2).mono (fun e w3 h => ⟨h.1, hw2.ext h.2⟩))))
  apply omv; rfl; rfl
  (((first | (with_reducible apply OL.op) | (with_reducible apply QL.op)); ((first | exact Guard.none | exact Guard.yes rfl rfl | exact Guard.no rfl rfl | exact Guard.cyes rfl rfl | exact Guard.cno rfl rfl)); rfl; rfl); (exact Pev.call rfl (by (repeat (first | exact Args.nil | (apply Args.cons rfl; ((first | exact fun _ => rfl | exact fun h => h | (intro h; simp_all; done))))))) (fun _ w2 hw2 => (Sum_calls s hs w2).mono (fun e w3 h => ⟨h.1, hw2.ext h.2⟩))))
  apply obn; rfl; rfl; rfl; apply Bin.str_eql
  apply oas; rfl; rfl
  apply OL.nil
  with_reducible apply At.next
  apply W.ret
  ((with_reducible apply At.fin1); rfl; rfl; intro w' hw')
  exact ⟨by simp, by (exact hw'.toExt (by (repeat (first | exact List.Mem.head _ | apply List.Mem.tail))) (fun k hk => by (focus ((try simp only [add_block]); (repeat (first | exact NotOwned.nil | refine NotOwned.blk (by omega) ?_)); done))))⟩
end Go.Proofs.Ytejnmbgkhomcgaa.dg
