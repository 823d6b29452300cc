/- Texts of the proof of LoopsFinds, part 3: rules of a calculus for walking, plain laws, and walks of the functions that the law reaches. No condition. -/
import Derived.Test.YtehelljmaiophaaProg
import Derived.Laws.Bits64b
import Derived.Laws.StructEq
import Derived.LaidEqlPtr
import Derived.Lib.Builder
import Derived.Laws.Pointers
import Derived.Test.YtehelljmaiophaaLoopsFinds2
/- The walks of ssa's set.has, with, both, and of dominators. Conditions: none. -/
namespace Go.Ss
set_option linter.unusedVariables false
set_option linter.unusedSimpArgs false
open Go.Eng Go.RowKit
set_option linter.unusedVariables false
set_option linter.unusedSimpArgs false
def setC (s : BS) : List Value := [.int .u64 (s.1 : Int), .int .u64 (s.2 : Int)]
theorem setC_len (s : BS) : (setC s).length = 2 := rfl
def half (s : BS) (k : Nat) : Nat := if k < 64 then s.1 else s.2
theorem half_get (s : BS) {k : Nat} (hk : k < 128) : ([.int .u64 (s.1 : Int), .int .u64 (s.2 : Int)] : List Value)[0 + ((k : Int) / 64).toNat * 1]? = some (.int .u64 (half s k : Int)) := by
  unfold half
  by_cases h : k < 64
  · rw [if_pos h, show 0 + ((k : Int) / 64).toNat * 1 = 0 by omega]; rfl
  · rw [if_neg h, show 0 + ((k : Int) / 64).toNat * 1 = 1 by omega]; rfl
theorem half_ok {s : BS} (h : s.ok) (k : Nat) : half s k < 18446744073709551616 := by
  have h1 := h.1
  have h2 := h.2
  unfold half
  split <;> omega
theorem has_half (s : BS) {k : Nat} (hk : k < 128) : hasS s k = (half s k).testBit (k % 64) := by
  unfold hasS half
  split
  · rw [Nat.mod_eq_of_lt (by omega)]
  · rw [show k % 64 = k - 64 by omega]
theorem bit_of {x m : Nat} (hx : x < 18446744073709551616) : decide (bits .and .u64 ((x : Int) / 2 ^ m) 1 = 1) = x.testBit m := by
  have e1 : ((x : Int) / 2 ^ m) = ((x / 2 ^ m : Nat) : Int) := by rw [Int.natCast_ediv, Int.natCast_pow]; rfl
  have e2 : (1 : Int) = ((1 : Nat) : Int) := rfl
  rw [e1, e2, bits_and_u64_nat _ _ (Nat.lt_of_le_of_lt (Nat.div_le_self _ _) hx) (by decide), Nat.and_one_is_mod, Nat.testBit_eq_decide_div_mod_eq]
  congr 1
  simp only [eq_iff_iff]
  omega
theorem with_set {s : BS} (h : s.ok) {k : Nat} (hk : k < 128) : ([.int .u64 (s.1 : Int), .int .u64 (s.2 : Int)] : List Value).set (0 + ((k : Int) / 64).toNat * 1) (.int .u64 (bits .or .u64 (half s k : Int) (IntKind.u64.wrap (1 * 2 ^ ((k : Int) % 64).toNat)))) = setC (withS s k) := by
  have e0 : ((k : Int) % 64).toNat = k % 64 := by omega
  have hp : 2 ^ (k % 64) < 18446744073709551616 := Nat.lt_of_lt_of_le (Nat.pow_lt_pow_right (by omega) (show k % 64 < 64 by omega)) (by decide)
  have e1 : IntKind.u64.wrap (1 * 2 ^ (k % 64)) = ((2 ^ (k % 64) : Nat) : Int) := by
    have h2 : ((2 : Int) ^ (k % 64)) = ((2 ^ (k % 64) : Nat) : Int) := by rw [Int.natCast_pow]; rfl
    rw [Int.one_mul, h2]
    generalize 2 ^ (k % 64) = p at hp
    simp [IntKind.wrap, IntKind.signed, IntKind.bits]
    omega
  rw [e0, e1, bits_or_u64_nat _ _ (half_ok h k) hp]
  unfold withS half setC
  by_cases h6 : k < 64
  · rw [if_pos h6, if_pos h6, show 0 + ((k : Int) / 64).toNat * 1 = 0 by omega, Nat.mod_eq_of_lt h6]; rfl
  · rw [if_neg h6, if_neg h6, show 0 + ((k : Int) / 64).toNat * 1 = 1 by omega, show k % 64 = k - 64 by omega]; rfl
structure XB (w : World) where
  bN : Nat
  hbN : w.heap.size ≤ bN
  old : Nat → Value
end Go.Ss
namespace Go.Proofs.Ytehelljmaiophaa.ss
set_option linter.unusedVariables false
set_option linter.unusedSimpArgs false
open Go.RowKit Go.Eng Go.Ss
set_option linter.unusedVariables false
set_option linter.unusedSimpArgs false
set_option maxRecDepth 100000
theorem has_calls (s : BS) (k : Nat) (w : World) (hs : s.ok) (hk : k < 128) :
    Calls Try.prog 123 [.agg (setC s).toArray, .int .i64 (k : Int)].toArray w fun e w' => e = .returned (.bool (hasS s k)) ∧ Ext w w' := by
  have hcell := half_get s hk
  have hb := bit_of (m := k % 64) (half_ok hs k)
  rw [← has_half s hk] at hb
  have e0 : ((k : Int) % 64).toNat = k % 64 := by omega
  refine enter Try.func123 rfl Try.ntmps123 rfl (Cls.start w) ?_
  (simp only [argEnv, Nat.zero_add, Nat.reduceAdd])
  simp only [setC]
  apply W.sr
  apply OL.box; rfl; rfl; exact CellsL.agg; (intro bk hbk; simp only [AllLe, and_true] at hbk)
  apply oas; rfl; rfl
  apply OL.nsr
  apply omv; rfl; rfl
  apply obn; rfl; rfl; rfl; apply Bin.quo_in; omega
  apply oop; rfl; apply Pev.idxArr; rfl; exact yes; rfl; exact yes; rfl; intro hcond; omega; rfl
  apply oop; rfl; apply Pev.load_blk; rfl; exact yes; exact .head _; rfl; assumption
  apply omv; rfl; rfl
  apply obn; rfl; rfl; rfl; apply Bin.rem_in; omega
  apply obn; rfl; rfl; rfl; apply Bin.shrW; rfl; omega
  apply obn; rfl; rfl; rfl; apply Bin.and
  apply obn; rfl; rfl; rfl; apply Bin.eql
  apply oas; rfl; rfl
  apply OL.nx
  apply W.ret
  ((with_reducible apply At.fin1); rfl; rfl; intro w' hw')
  rw [e0]
  exact ⟨by rw [hb], by (exact hw'.fr)⟩
theorem with_calls (s : BS) (k : Nat) (w : World) (hs : s.ok) (hk : k < 128) :
    Calls Try.prog 149 [.agg (setC s).toArray, .int .i64 (k : Int)].toArray w fun e w' => e = .returned (.agg (setC (withS s k)).toArray) ∧ Ext w w' := by
  have hcell := half_get s hk
  have hset := with_set hs hk
  refine enter Try.func149 rfl Try.ntmps149 rfl (Cls.start w) ?_
  (simp only [argEnv, Nat.zero_add, Nat.reduceAdd])
  simp only [setC]
  apply W.sr
  apply OL.box; rfl; rfl; exact CellsL.agg; (intro bk hbk; simp only [AllLe, and_true] at hbk)
  apply OL.alloc; rfl; rfl; exact CellsL.agg; (intro bk hbk; simp only [AllLe, and_true] at hbk)
  apply OL.nx
  apply W.seq
  apply W.regq; apply Split.s rfl; apply Split.s rfl; apply Split.s rfl; apply Split.s rfl; apply Split.s rfl; apply Split.s rfl; apply Split.s rfl; apply Split.s rfl; apply Split.s rfl; exact Split.z rfl; kernel_rfl; decide +kernel; exact fun w hw => hw.drew
  apply qmv; rfl; rfl
  apply qbn; rfl; rfl; rfl; apply Bin.quo_in; omega
  apply qop; rfl; apply Pev.idxArr; rfl; exact yes; rfl; exact yes; rfl; intro hcond; omega; rfl
  apply qop; rfl; apply Pev.load_blk; rfl; exact yes; exact .tail _ (.head _); rfl; assumption
  apply qmv; rfl; rfl
  apply qbn; rfl; rfl; rfl; apply Bin.rem_in; omega
  apply qbn; rfl; rfl; rfl; apply Bin.shlW; rfl; omega
  apply qbn; rfl; rfl; rfl; apply Bin.or
  apply qop; rfl; apply Pev.idxArr; rfl; exact yes; rfl; exact yes; rfl; intro hcond; omega; rfl
  with_reducible apply QL.tail
  (apply OL.storeI); rfl; rfl; rfl; rfl; rfl; (exact Swap.au); (simp only [List.length_cons, List.length_nil]; omega)
  rw [hset]
  simp only [setC]
  apply OL.nsr
  apply oop; rfl; apply Pev.load_blkA; rfl; exact yes; exact .tail _ (.head _); rfl; exact Take.au
  apply OL.storeB; rfl; rfl; exact CellsL.agg; rfl; rfl; rfl; exact Swap.au; exact Put.au
  apply OL.nx
  apply W.ret
  refine At.finC (b := bk) (cs := [.int .u64 ((withS s k).1 : Int), .int .u64 ((withS s k).2 : Int)]) rfl rfl (by exact mau) rfl rfl (fun w' hw' => ⟨rfl, by (exact hw'.fr)⟩)
theorem both_calls (s t : BS) (w : World) (hs : s.ok) (ht : t.ok) :
    Calls Try.prog 150 [.agg (setC s).toArray, .agg (setC t).toArray].toArray w fun e w' => e = .returned (.agg (setC (bothS s t)).toArray) ∧ Ext w w' := by
  have h1 : bits .and .u64 (s.1 : Int) (t.1 : Int) = ((bothS s t).1 : Int) := bits_and_u64_nat _ _ (by have := hs.1; omega) (by have := ht.1; omega)
  have h2 : bits .and .u64 (s.2 : Int) (t.2 : Int) = ((bothS s t).2 : Int) := bits_and_u64_nat _ _ (by have := hs.2; omega) (by have := ht.2; omega)
  refine enter Try.func150 rfl Try.ntmps150 rfl (Cls.start w) ?_
  (simp only [argEnv, Nat.zero_add, Nat.reduceAdd])
  simp only [setC]
  apply W.sr
  apply OL.box; rfl; rfl; exact CellsL.agg; (intro bk hbk; simp only [AllLe, and_true] at hbk)
  apply OL.box; rfl; rfl; exact CellsL.agg; (intro bk hbk; simp only [AllLe, and_true] at hbk)
  apply OL.alloc; rfl; rfl; exact CellsL.agg; (intro bk hbk; simp only [AllLe, and_true] at hbk)
  apply OL.nsr
  apply oop; rfl; apply Pev.idxArr; rfl; exact yes; rfl; exact yes; rfl; intro hcond; omega; rfl
  apply old; rfl; rfl; exact .tail _ (.tail _ (.head _)); rfl; rfl
  apply oop; rfl; apply Pev.idxArr; rfl; exact yes; rfl; exact yes; rfl; intro hcond; omega; rfl
  apply old; rfl; rfl; exact .tail _ (.head _); rfl; rfl
  apply obn; rfl; rfl; rfl; apply Bin.and
  apply oop; rfl; apply Pev.idxArr; rfl; exact yes; rfl; exact yes; rfl; intro hcond; omega; rfl
  apply old; rfl; rfl; exact .tail _ (.tail _ (.head _)); rfl; rfl
  apply oop; rfl; apply Pev.idxArr; rfl; exact yes; rfl; exact yes; rfl; intro hcond; omega; rfl
  apply old; rfl; rfl; exact .tail _ (.head _); rfl; rfl
  apply obn; rfl; rfl; rfl; apply Bin.and
  apply oop; rfl; apply Pev.buildArr; rfl; exact CellsL.agg; rfl; exact Fill.au; rfl
  apply OL.storeB; rfl; rfl; exact CellsL.agg; rfl; rfl; rfl; exact Swap.au; exact Put.au
  apply OL.nx
  apply W.ret
  refine At.finC (b := bk) (cs := [.int .u64 (bits .and .u64 (s.1 : Int) (t.1 : Int)), .int .u64 (bits .and .u64 (s.2 : Int) (t.2 : Int))]) rfl rfl (by exact mau) rfl rfl (fun w' hw' => ⟨by rw [h1, h2], by (exact hw'.fr)⟩)
theorem neqS (s t : BS) : Bin Try.prog .neq 174 (.agg (setC s).toArray) (.agg (setC t).toArray) (.bool (!decide (s = t))) := ⟨fun x y w => by
  have h1 := run_eqGuard_agg (P := Try.prog) w .neq 174 x y (setC s).toArray (setC t).toArray (by kernel_rfl)
  rw [Sem.run_bind, h1, Result.andThen_ok, run_neq_struct]
  have p1 : ∀ (w : World) (i : Nat) (v : Value) (cs : Array Value) (t : TypeId), cs[i]? = some v → scalB Try.prog t = true → (part t cs i).run Try.prog w = .ok v w := fun w i v cs t hv ht => by
    simp [part, Sem.run_bind, run_isAgg_scal ht, hv]
  have q0 := fun (w : World) (s : BS) => p1 w 0 (.int .u64 (s.1 : Int)) (setC s).toArray 172 rfl rfl
  have q1 := fun (w : World) (s : BS) => p1 w 1 (.int .u64 (s.2 : Int)) (setC s).toArray 172 rfl rfl
  have e1 := fun w a b => run_equalIn_int (P := Try.prog) w 9998 172 .u64 .u64 a b Try.underlying172
  have he := run_equalIn_arr2 (P := Try.prog) (d := 9999) (t := 174) (e := 172) w (by kernel_rfl) (fun w => by kernel_rfl) (fun w => q0 w s) (fun w => q0 w t) (fun w => q1 w s) (fun w => q1 w t) (fun w => e1 w _ _) (fun w => e1 w _ _)
  rw [he]
  simp only [Result.andThen_ok]
  obtain ⟨a, b⟩ := s
  obtain ⟨c, d⟩ := t
  congr 2
  simp only [Prod.mk.injEq]
  by_cases h1 : a = c
  · by_cases h2 : b = d
    · simp [h1, h2]
    · simp [h1, h2]
      omega
  · simp [h1]
    omega⟩
theorem dominators_calls (es : List (Bk × BkY)) (q : Option Addr) (cap : Nat) (nm : Int) (w : World) (he : Arr bkR w (low w) es q) (h0 : 0 < es.length) (hn : es.length ≤ 128) (hE : ∀ p ∈ es, ∀ e ∈ p.1.term.to_, 1 ≤ e.block ∧ e.block < (es.length : Int)) :
    Calls Try.prog 121 [.agg #[.int .i64 nm, .slice q es.length cap]].toArray w fun e w' => ∃ (bO : Nat) (O : List BS) (S : BS), e = .returned (.tuple #[.slice (some ⟨bO, 0, none⟩) es.length es.length, .agg (setC S).toArray]) ∧ Ext w w' ∧ DI (graphB (es.map Prod.fst)) O S ∧ DFix (graphB (es.map Prod.fst)) O S ∧ w.heap.size ≤ bO ∧ (blk bO 174 (cat setC O)).holds w' := by
  obtain ⟨G, hG⟩ : ∃ G, graphB (es.map Prod.fst) = G := ⟨_, rfl⟩
  have hGl : G.length = es.length := by rw [← hG]; simp [graphB]
  rw [hG]
  refine enter Try.func121 rfl Try.ntmps121 rfl (Cls.start w) ?_
  (simp only [argEnv, Nat.zero_add, Nat.reduceAdd])
  apply W.sr
  apply OL.box; rfl; rfl; exact CellsL.agg; (intro bk hbk; simp only [AllLe, and_true] at hbk)
  apply oas; rfl; rfl
  apply OL.alloc; rfl; rfl; exact CellsL.agg; (intro bk hbk; simp only [AllLe, and_true] at hbk)
  apply OL.nsr
  apply OL.alloc; rfl; rfl; exact CellsL.agg; (intro bk hbk; simp only [AllLe, and_true] at hbk)
  apply OL.nx
  apply W.seq
  apply W.sr
  apply ofa; rfl; rfl; rfl
  apply old; rfl; rfl; exact .tail _ (.tail _ (.head _)); rfl; rfl
  apply oop; rfl; apply Pev.len_slice; rfl; exact yes; rfl
  apply omv; rfl; rfl
  apply OL.nx
  apply W.block
  rename_i bF hbF bR hbR
  revert bk
  intro bA hbA
  refine W.loop (G := Nat) (fun i => i ≤ es.length) (fun i => es.length - i) (fun i => [(1, true, .pointer (some ⟨bF, 0, none⟩)), (3, true, .pointer (some ⟨bR, 0, none⟩)), (4, true, .pointer (some ⟨bA, 0, none⟩)), (17, true, .int .i64 (es.length : Int)), (18, true, .int .i64 (i : Int))])
    (fun i => Cls [blk bA 174 [.int .u64 ((allS i).1 : Int), .int .u64 ((allS i).2 : Int)], blk bR 174 [.int .u64 0, .int .u64 0], blk bF 24 [.int .i64 nm, .slice q es.length cap]] [w]) 0 (by omega) (by exact Sub.au) (fun w' hw' => hw') ?_
  intro i hi
  apply W.sr
  apply obn; rfl; rfl; rfl; apply Bin.lss
  apply OL.nx
  apply W.seq
  (refine W.cnd (fun hlt => ?_) (fun hlt => ?_)) <;> (try (exfalso; first | omega | exact hlt trivial | contradiction))
  · have hil : i < es.length := by omega
    apply W.sk
    apply W.sb
    apply W.sr
    apply omv; rfl; rfl
    apply oas; rfl; rfl
    apply OL.nx
    apply W.reg
    apply oop; rfl; apply Pev.load_blkA; rfl; exact yes; exact .head _; rfl; exact Take.au
    apply omv; rfl; rfl
    (((first | (with_reducible apply OL.op) | (with_reducible apply QL.op)); (exact Guard.au); rfl; rfl); (exact Pev.call (v := .agg #[.int .u64 ((withS (allS i) i).1 : Int), .int .u64 ((withS (allS i) i).2 : Int)]) rfl (by exact Args.au) (fun _ w2 hw2 => (with_calls (allS i) i w2 (ok_all (by omega)) (by omega)).mono (fun e w3 h => ⟨h.1, hw2.ext h.2⟩))))
    apply OL.storeB; rfl; rfl; exact CellsL.agg; rfl; rfl; rfl; exact Swap.au; exact Put.au
    apply OL.nil
    with_reducible apply At.in_normal
    with_reducible apply At.next
    apply W.reg
    apply obn; rfl; rfl; rfl; apply Bin.add_in; omega
    apply omv; rfl; rfl
    apply OL.nil
    exact At.again (i + 1) (by omega) (by omega) (by exact Sub.au) (fun w' hw' => hw')
  obtain rfl : i = es.length := by omega
  refine W.xt ?_
  with_reducible apply At.next
  apply W.sr
  apply ofa; rfl; rfl; rfl
  apply old; rfl; rfl; exact .tail _ (.tail _ (.head _)); rfl; rfl
  apply oop; rfl; apply Pev.len_slice; rfl; exact yes; rfl
  (apply OL.makeSliceK (f := setC) (x0 := ((0, 0) : BS)) (m := es.length)); rfl; rfl; rfl; rfl; rfl; rfl; rfl; rfl; (omega)
  intro bO hbO
  apply oas; rfl; rfl
  apply OL.nx
  apply W.seq
  apply W.sr
  apply omv; rfl; rfl
  apply oop; rfl; apply Pev.len_slice; rfl; exact yes; rfl
  apply omv; rfl; rfl
  apply OL.nx
  apply W.block
  have hbO' : w.heap.size ≤ bO := hbO.1
  refine W.loop (G := Nat) (fun i => i ≤ es.length) (fun i => es.length - i) (fun i => [(1, true, .pointer (some ⟨bF, 0, none⟩)), (3, true, .pointer (some ⟨bR, 0, none⟩)), (4, true, .pointer (some ⟨bA, 0, none⟩)), (6, true, .slice (some ⟨bO, 0, none⟩) es.length es.length), (30, true, .int .i64 (es.length : Int)), (31, true, .int .i64 (i : Int))])
    (fun i => Cls [blk bO 174 (cat setC (List.replicate i (allS es.length) ++ List.replicate (es.length - i) (0, 0))), blk bA 174 [.int .u64 ((allS es.length).1 : Int), .int .u64 ((allS es.length).2 : Int)], blk bR 174 [.int .u64 0, .int .u64 0], blk bF 24 [.int .i64 nm, .slice q es.length cap]] [w]) 0 (by omega) (by exact Sub.au) (fun w' hw' => by simpa using hw') ?_
  intro i hi
  apply W.sr
  apply obn; rfl; rfl; rfl; apply Bin.lss
  apply OL.nx
  apply W.seq
  (refine W.cnd (fun hlt2 => ?_) (fun hlt2 => ?_)) <;> (try (exfalso; first | omega | exact hlt2 trivial | contradiction))
  · have hil : i < es.length := by omega
    have hset : (List.replicate i (allS es.length) ++ List.replicate (es.length - i) (0, 0)).set i (allS es.length) = List.replicate (i + 1) (allS es.length) ++ List.replicate (es.length - (i + 1)) (0, 0) := by
      rw [List.set_append_right _ _ (by simp)]
      rw [List.length_replicate, Nat.sub_self, show es.length - i = (es.length - (i + 1)) + 1 by omega, List.replicate_succ, List.set_cons_zero, List.replicate_succ', List.append_assoc]
      rfl
    apply W.sk
    apply W.sb
    apply W.sr
    apply omv; rfl; rfl
    apply oas; rfl; rfl
    apply OL.nx
    apply W.reg
    apply omv; rfl; rfl
    apply omv; rfl; rfl
    apply oop; rfl; apply Pev.load_blkA; rfl; exact yes; exact .tail _ (.head _); rfl; exact Take.au
    apply oop; rfl; apply Pev.idxB; rfl; exact yes; rfl; exact yes; rfl; intro hcond; omega; rfl
    refine OL.storeL (vs := setC (allS es.length)) (cs := cat setC (List.replicate i (allS es.length) ++ List.replicate (es.length - i) (0, 0))) rfl rfl rfl rfl rfl rfl ⟨?_, rfl⟩ (by exact Swap.au) ?_
    · rw [cat_length setC_len, List.length_append, List.length_replicate, List.length_replicate, setC_len]
      omega
    rw [show 0 + ((i : Nat) : Int).toNat * 2 = i * 2 by omega, cat_set setC_len (by decide) (by rw [List.length_append, List.length_replicate, List.length_replicate]; omega), hset]
    apply OL.nil
    with_reducible apply At.in_normal
    with_reducible apply At.next
    apply W.reg
    apply obn; rfl; rfl; rfl; apply Bin.add_in; omega
    apply omv; rfl; rfl
    apply OL.nil
    exact At.again (i + 1) (by omega) (by omega) (by exact Sub.au) (fun w' hw' => hw')
  obtain rfl : i = es.length := by omega
  rw [Nat.sub_self, List.replicate_zero, List.append_nil]
  refine W.xt ?_
  with_reducible apply At.next
  apply W.sr
  apply omv; rfl; rfl
  apply oop; rfl; apply Pev.buildArr; rfl; exact CellsL.agg; rfl; exact Fill.au; rfl
  (((first | (with_reducible apply OL.op) | (with_reducible apply QL.op)); (exact Guard.au); rfl; rfl); (exact Pev.call (v := .agg #[.int .u64 ((withS (0, 0) 0).1 : Int), .int .u64 ((withS (0, 0) 0).2 : Int)]) rfl (by exact Args.au) (fun _ w2 hw2 => (with_calls (0, 0) 0 w2 ok_zero (by decide)).mono (fun e w3 h => ⟨h.1, hw2.ext h.2⟩))))
  apply oop; rfl; apply Pev.idxB; rfl; exact yes; rfl; exact yes; rfl; intro hcond; omega; rfl
  refine OL.storeL (vs := setC (withS (0, 0) 0)) (cs := cat setC (List.replicate es.length (allS es.length))) rfl rfl rfl rfl rfl rfl ⟨?_, rfl⟩ (by exact Swap.au) ?_
  · rw [cat_length setC_len, List.length_replicate, setC_len]
    omega
  rw [show cat setC (List.replicate es.length (allS es.length)) = cat setC (List.replicate es.length (allS es.length)) from rfl, show putL (cat setC (List.replicate es.length (allS es.length))) (0 + Int.toNat 0 * 2) (setC (withS (0, 0) 0)) = cat setC ((List.replicate es.length (allS es.length)).set 0 (withS (0, 0) 0)) from cat_set (i := 0) setC_len (by decide) (by rw [List.length_replicate]; omega)]
  apply OL.nsr
  apply oop; rfl; apply Pev.buildArr; rfl; exact CellsL.agg; rfl; exact Fill.au; rfl
  (((first | (with_reducible apply OL.op) | (with_reducible apply QL.op)); (exact Guard.au); rfl; rfl); (exact Pev.call (v := .agg #[.int .u64 ((withS (0, 0) 0).1 : Int), .int .u64 ((withS (0, 0) 0).2 : Int)]) rfl (by exact Args.au) (fun _ w2 hw2 => (with_calls (0, 0) 0 w2 ok_zero (by decide)).mono (fun e w3 h => ⟨h.1, hw2.ext h.2⟩))))
  apply OL.alloc; rfl; rfl; exact CellsL.agg; (intro bk hbk; simp only [AllLe, and_true] at hbk)
  apply OL.storeB; rfl; rfl; exact CellsL.agg; rfl; rfl; rfl; exact Swap.au; exact Put.au
  apply OL.nx
  apply W.seq
  apply W.sr
  apply oas; rfl; rfl
  apply OL.nx
  apply W.block
  revert bk
  intro bS hbS
  have hdi0 := DI.start (G := G) (by omega) (by omega)
  rw [hGl] at hdi0
  generalize (List.replicate es.length (allS es.length)).set 0 (withS (0, 0) 0) = O0 at *
  generalize hS0 : withS (0, 0) 0 = S0 at *
  refine W.loop (G := List BS × BS × Bool) (fun g => DI G g.1 g.2.1 ∧ (g.2.2 = false → DFix G g.1 g.2.1)) (fun g => 2 * muS g.1 g.2.1 + (if g.2.2 then 1 else 0))
    (fun g => [(1, true, .pointer (some ⟨bF, 0, none⟩)), (3, true, .pointer (some ⟨bR, 0, none⟩)), (6, true, .slice (some ⟨bO, 0, none⟩) es.length es.length), (8, true, .pointer (some ⟨bS, 0, none⟩)), (9, true, .bool g.2.2)]) (fun g => Cls [blk bS 174 [.int .u64 ((g.2.1).1 : Int), .int .u64 ((g.2.1).2 : Int)], blk bO 174 (cat setC g.1), blk bA 174 [.int .u64 ((allS es.length).1 : Int), .int .u64 ((allS es.length).2 : Int)], blk bR 174 [.int .u64 0, .int .u64 0], blk bF 24 [.int .i64 nm, .slice q es.length cap]] [w]) (O0, S0, true) ⟨hdi0, fun h => (by cases h)⟩ (by exact Sub.au) (fun w' hw' => hw') ?_
  rintro ⟨O, S, ag⟩ ⟨hdi, hfix⟩
  simp only at hdi hfix ⊢
  apply W.seq
  apply W.sr
  apply omv; rfl; rfl
  apply OL.nx
  refine W.cond rfl (fun hag => ?_) (fun hag => ?_)
  · subst hag
    apply W.sk
    apply W.block
    apply W.sr
    apply oas; rfl; rfl
    apply OL.nsr
    apply ofa; rfl; rfl; rfl
    apply old; rfl; rfl; apply List.Mem.tail; apply List.Mem.tail; exact .tail _ (.tail _ (.head _)); rfl; rfl
    apply oop; rfl; apply Pev.len_slice; rfl; exact yes; rfl
    apply omv; rfl; rfl
    apply OL.nx
    apply W.block
    refine W.loop (G := Nat × List BS × BS × Bool) (fun g => g.1 ≤ es.length ∧ RInv G O S g.2.1 g.2.2.1 g.2.2.2 g.1 0) (fun g => es.length - g.1)
      (fun g => [(1, true, .pointer (some ⟨bF, 0, none⟩)), (3, true, .pointer (some ⟨bR, 0, none⟩)), (6, true, .slice (some ⟨bO, 0, none⟩) es.length es.length), (8, true, .pointer (some ⟨bS, 0, none⟩)), (9, true, .bool g.2.2.2), (47, true, .slice q es.length cap), (48, true, .int .i64 (es.length : Int)), (49, true, .int .i64 (g.1 : Int))]) (fun g => Cls [blk bS 174 [.int .u64 ((g.2.2.1).1 : Int), .int .u64 ((g.2.2.1).2 : Int)], blk bO 174 (cat setC g.2.1), blk bA 174 [.int .u64 ((allS es.length).1 : Int), .int .u64 ((allS es.length).2 : Int)], blk bR 174 [.int .u64 0, .int .u64 0], blk bF 24 [.int .i64 nm, .slice q es.length cap]] [w]) (0, O, S, false) ⟨by simp, RInv.start hdi⟩ (by exact Sub.au) (fun w' hw' => hw') ?_
    rintro ⟨i, O1, S1, ag1⟩ ⟨hi, hR⟩
    simp only at hi hR ⊢
    apply W.sr
    apply obn; rfl; rfl; rfl; apply Bin.lss
    apply OL.nx
    apply W.seq
    (refine W.cnd (fun hlt3 => ?_) (fun hlt3 => ?_)) <;> (try (exfalso; first | omega | exact hlt3 trivial | contradiction))
    · have hil : i < es.length := by omega
      obtain ⟨a, p, rfl, hab, hp, hcell, hok⟩ := he.get hil
      have hab : a.block < w.heap.size := hab
      have hcell : CellsAt w (a.add (i * 7)) [.slice p.2.p.1 p.1.params.length p.2.p.2, .slice p.2.i.1 p.1.ins.length p.2.i.2, .int .i64 p.1.term.kind, .int .i64 p.1.term.arg, .int .i64 p.1.term.n, .slice p.2.t.c.1 p.1.term.cases.length p.2.t.c.2, .slice p.2.t.t.1 p.1.term.to_.length p.2.t.t.2] := hcell
      have hGi : G[i]? = some (p.1.term.to_.map Ed.block) := by rw [← hG]; simp [graphB, List.getElem?_map, hp]
      have hpm : p ∈ es := List.mem_of_getElem? hp
      apply W.sk
      apply W.sb
      apply W.sr
      apply omv; rfl; rfl
      apply oop; rfl; apply Pev.idx; rfl; exact yes; rfl; exact yes; rfl; rfl; intro hcond; omega
      apply oop; rfl; apply Pev.load_keptA; rfl; exact yes; exact .head _; rfl; intro hcond; assumption; rfl; intro hcond; (rw [add_block]; assumption); intro hcond; exact NotOwned.au
      apply OL.alloc; rfl; rfl; exact CellsL.agg; (intro bk hbk; simp only [AllLe, and_true] at hbk)
      apply oas; rfl; rfl
      apply OL.storeB; rfl; rfl; exact CellsL.agg; rfl; rfl; rfl; exact Swap.au; exact Put.au
      apply OL.nx
      apply W.seq
      apply W.sr
      apply oop; rfl; apply Pev.load_blkA; rfl; exact yes; exact .tail _ (.head _); rfl; exact Take.au
      apply omv; rfl; rfl
      (((first | (with_reducible apply OL.op) | (with_reducible apply QL.op)); (exact Guard.au); rfl; rfl); (exact Pev.call (v := .bool (hasS S1 i)) rfl (by exact Args.au) (fun _ w2 hw2 => (has_calls S1 i w2 hR.di.sok (by omega)).mono (fun e w3 h => ⟨h.1, hw2.ext h.2⟩))))
      apply oop; rfl; apply Pev.not; rfl; exact yes
      apply OL.nx
      (refine W.cnd (fun hns => ?_) (fun hns => ?_)) <;> (try (exfalso; first | omega | exact hns trivial | contradiction))
      · refine W.xt ?_
        with_reducible apply At.next
        apply W.reg
        apply obn; rfl; rfl; rfl; apply Bin.add_in; omega
        apply omv; rfl; rfl
        apply OL.nil
        exact At.again (i + 1, O1, S1, ag1) ⟨by simp only; omega, hR.skip (by simpa using hns)⟩ (by simp only; omega) (by exact Sub.au) (fun w' hw' => hw'.thin (by exact Thin.au))
      have hsi : hasS S1 i = true := by simpa using hns
      obtain ⟨ts, hts, harr⟩ := hok.t.t
      have htl := hok.t.tl
      have htl2 : p.1.term.to_.length = ts.length := by rw [← hts, List.length_map]
      rw [htl2]
      apply W.sk
      apply W.sr
      apply ofa; rfl; rfl; rfl
      apply ofa; rfl; rfl; rfl
      apply old; rfl; rfl; exact .head _; rfl; rfl
      apply oop; rfl; apply Pev.len_slice; rfl; exact yes; rfl
      apply omv; rfl; rfl
      apply OL.nx
      apply W.block
      refine W.loop (G := Nat × List BS × BS × Bool) (fun g => g.1 ≤ ts.length ∧ RInv G O S g.2.1 g.2.2.1 g.2.2.2 i g.1 ∧ hasS g.2.2.1 i = true) (fun g => ts.length - g.1)
        (fun g => [(1, true, .pointer (some ⟨bF, 0, none⟩)), (3, true, .pointer (some ⟨bR, 0, none⟩)), (6, true, .slice (some ⟨bO, 0, none⟩) es.length es.length), (8, true, .pointer (some ⟨bS, 0, none⟩)), (9, true, .bool g.2.2.2), (10, true, .int .i64 (i : Int)), (47, true, .slice (some a) es.length cap), (48, true, .int .i64 (es.length : Int)), (49, true, .int .i64 (i : Int)), (60, true, .slice p.2.t.t.1 ts.length p.2.t.t.2), (61, true, .int .i64 (ts.length : Int)), (62, true, .int .i64 (g.1 : Int))]) (fun g => Cls [blk bS 174 [.int .u64 ((g.2.2.1).1 : Int), .int .u64 ((g.2.2.1).2 : Int)], blk bO 174 (cat setC g.2.1), blk bA 174 [.int .u64 ((allS es.length).1 : Int), .int .u64 ((allS es.length).2 : Int)], blk bR 174 [.int .u64 0, .int .u64 0], blk bF 24 [.int .i64 nm, .slice (some a) es.length cap]] [w]) (0, O1, S1, ag1) ⟨by simp, hR, hsi⟩ (by exact Sub.au) (fun w' hw' => hw'.thin (by exact Thin.au)) ?_
      rintro ⟨j, O2, S2, ag2⟩ ⟨hj, hR2, hsi2⟩
      simp only at hj hR2 hsi2 ⊢
      apply W.sr
      apply obn; rfl; rfl; rfl; apply Bin.lss
      apply OL.nx
      apply W.seq
      (refine W.cnd (fun hlt4 => ?_) (fun hlt4 => ?_)) <;> (try (exfalso; first | omega | exact hlt4 trivial | contradiction))
      · obtain ⟨ae, u, hqt, hatb, hu, hcu, hoku⟩ := harr.get (show j < ts.length by omega)
        have hatb : ae.block < w.heap.size := hatb
        have hue : u.1 ∈ p.1.term.to_ := by rw [← hts]; exact List.mem_map_of_mem (f := Prod.fst) (List.mem_of_getElem? hu)
        obtain ⟨hb1, hb2⟩ := hE p hpm u.1 hue
        have hjl : (p.1.term.to_.map Ed.block)[j]? = some u.1.block := by rw [← hts, List.map_map, List.getElem?_map, hu]; rfl
        obtain ⟨b, hbb⟩ : ∃ b : Nat, u.1.block = (b : Int) := ⟨u.1.block.toNat, by omega⟩
        rw [hbb] at hjl hb1 hb2
        have hcu : CellsAt w (ae.add (j * 2)) [.int .i64 (b : Int), .slice u.2.1 u.1.args.length u.2.2] := by rw [← hbb]; exact hcu
        have hO2l : O2.length = es.length := by rw [hR2.di.len, hGl]
        have hb2n : b < O2.length := by omega
        have hi2n : i < O2.length := by omega
        obtain ⟨sB, hsB⟩ : ∃ s, O2[b]? = some s := ⟨_, List.getElem?_eq_getElem hb2n⟩
        obtain ⟨sI, hsI⟩ : ∃ s, O2[i]? = some s := ⟨_, List.getElem?_eq_getElem hi2n⟩
        have hokB := hR2.di.ok sB (List.mem_of_getElem? hsB)
        have hokI := hR2.di.ok sI (List.mem_of_getElem? hsI)
        rw [hqt]
        apply W.sk
        apply W.sb
        apply W.sr
        apply oop; rfl; apply Pev.idx; rfl; exact yes; rfl; exact yes; rfl; rfl; intro hcond; omega
        apply oop; rfl; apply Pev.load_keptA; rfl; exact yes; exact .head _; rfl; intro hcond; assumption; rfl; intro hcond; (rw [add_block]; assumption); intro hcond; exact NotOwned.au
        apply OL.alloc; rfl; rfl; exact CellsL.agg; (intro bk hbk; simp only [AllLe, and_true] at hbk)
        apply OL.storeB; rfl; rfl; exact CellsL.agg; rfl; rfl; rfl; exact Swap.au; exact Put.au
        apply OL.nx
        apply W.seq
        revert bk
        intro bE hbE
        refine W.regany (X := XB w) (fun x e => [(14, true, bif e 13 then .pointer (some ⟨x.bN, 0, none⟩) else x.old 14), (78, true, bif e 12 then .agg #[.int .u64 ((nextS sB sI b).1 : Int), .int .u64 ((nextS sB sI b).2 : Int)] else x.old 78), (77, true, bif e 11 then .int .i64 (b : Int) else x.old 77), (76, true, bif e 10 then .pointer (some ⟨bE, 0 + 0, none⟩) else x.old 76), (75, true, bif e 9 then .agg (setC (bothS sB sI)).toArray else x.old 75), (74, true, bif e 8 then .agg (setC sI).toArray else x.old 74), (73, true, bif e 7 then .pointer (some ⟨bO, 0 + ((i : Nat) : Int).toNat * 2, none⟩) else x.old 73), (72, true, bif e 6 then .int .i64 (i : Int) else x.old 72), (71, true, bif e 5 then .slice (some ⟨bO, 0, none⟩) es.length es.length else x.old 71), (70, true, bif e 4 then .agg (setC sB).toArray else x.old 70), (69, true, bif e 3 then .pointer (some ⟨bO, 0 + ((b : Nat) : Int).toNat * 2, none⟩) else x.old 69), (68, true, bif e 2 then .int .i64 (b : Int) else x.old 68), (67, true, bif e 1 then .pointer (some ⟨bE, 0 + 0, none⟩) else x.old 67), (66, true, bif e 0 then .slice (some ⟨bO, 0, none⟩) es.length es.length else x.old 66), (1, true, .pointer (some ⟨bF, 0, none⟩)), (3, true, .pointer (some ⟨bR, 0, none⟩)), (6, true, .slice (some ⟨bO, 0, none⟩) es.length es.length), (8, true, .pointer (some ⟨bS, 0, none⟩)), (9, true, .bool ag2), (10, true, .int .i64 (i : Int)), (13, true, .pointer (some ⟨bE, 0, none⟩)), (47, true, .slice (some a) es.length cap), (48, true, .int .i64 (es.length : Int)), (49, true, .int .i64 (i : Int)), (60, true, .slice (some ae) ts.length p.2.t.t.2), (61, true, .int .i64 (ts.length : Int)), (62, true, .int .i64 (j : Int))])
          (fun x e => (blk bE 105 [.int .i64 (b : Int), .slice u.2.1 u.1.args.length u.2.2]) :: (blk bS 174 [.int .u64 ((S2).1 : Int), .int .u64 ((S2).2 : Int)]) :: (blk bO 174 (cat setC O2)) :: (blk bA 174 [.int .u64 ((allS es.length).1 : Int), .int .u64 ((allS es.length).2 : Int)]) :: (blk bR 174 [.int .u64 0, .int .u64 0]) :: (blk bF 24 [.int .i64 nm, .slice (some a) es.length cap]) :: (bif e 13 then (bif e 14 then blk x.bN 174 [.int .u64 ((nextS sB sI b).1 : Int), .int .u64 ((nextS sB sI b).2 : Int)] else blk x.bN 174 [.int .u64 0, .int .u64 0]) else nothing) :: [])
          (fun old => ⟨w.heap.size, Nat.le_refl _, old⟩) (by kernel_rfl) (by kernel_rfl) (fun w hw => hw.drew) (fun old => by repeat (first | exact SubO.nil | apply SubO.cons rfl | refine SubO.old rfl ?_)) (fun old w' hw' => hw'.add_nothing) ?_ ?_
        · intro x e i o ho hei hd hcl
          have hi : i < 15 := (List.getElem?_eq_some_iff.1 ho).1
          obtain rfl | rfl | rfl | rfl | rfl | rfl | rfl | rfl | rfl | rfl | rfl | rfl | rfl | rfl | rfl : i = 0 ∨ i = 1 ∨ i = 2 ∨ i = 3 ∨ i = 4 ∨ i = 5 ∨ i = 6 ∨ i = 7 ∨ i = 8 ∨ i = 9 ∨ i = 10 ∨ i = 11 ∨ i = 12 ∨ i = 13 ∨ i = 14 := by omega
          · cases ho
            have v0 : Eng.upd e 0 0 = true := upd_eq
            simp only [hei, cond_true, cond_false]
            apply omv; rfl; rfl
            apply OL.nil
            exact At.beside x (by repeat (first | exact Sub.nil | apply Sub.cons rfl | refine Sub.cons_eq rfl (by simp only [v0, cond_true, cond_false]) ?_)) (fun w' hw' => by first | exact hw' | (simp only [v0, cond_true, cond_false]; exact hw'))
          · cases ho
            have v1 : Eng.upd e 1 1 = true := upd_eq
            simp only [hei, cond_true, cond_false]
            apply ofa; rfl; rfl; rfl
            apply OL.nil
            exact At.beside x (by repeat (first | exact Sub.nil | apply Sub.cons rfl | refine Sub.cons_eq rfl (by simp only [v1, cond_true, cond_false]) ?_)) (fun w' hw' => by first | exact hw' | (simp only [v1, cond_true, cond_false]; exact hw'))
          · cases ho
            have h1 : e 1 = true := hd ⟨1, .data⟩ (by simp) rfl
            have v2 : Eng.upd e 2 2 = true := upd_eq
            have v1 : Eng.upd e 2 1 = true := upd_mono h1
            simp only [hei, h1, cond_true, cond_false]
            apply old; rfl; rfl; exact .head _; rfl; rfl
            apply OL.nil
            exact At.beside x (by repeat (first | exact Sub.nil | apply Sub.cons rfl | refine Sub.cons_eq rfl (by simp only [v2, v1, cond_true, cond_false]) ?_)) (fun w' hw' => by first | exact hw' | (simp only [v2, v1, cond_true, cond_false]; exact hw'))
          · cases ho
            have h0 : e 0 = true := hd ⟨0, .data⟩ (by simp) rfl
            have h2 : e 2 = true := hd ⟨2, .data⟩ (by simp) rfl
            have v3 : Eng.upd e 3 3 = true := upd_eq
            have v0 : Eng.upd e 3 0 = true := upd_mono h0
            have v2 : Eng.upd e 3 2 = true := upd_mono h2
            simp only [hei, h0, h2, cond_true, cond_false]
            apply oop; rfl; apply Pev.idxB; rfl; exact yes; rfl; exact yes; rfl; intro hcond; omega; rfl
            apply OL.nil
            exact At.beside x (by repeat (first | exact Sub.nil | apply Sub.cons rfl | refine Sub.cons_eq rfl (by simp only [v3, v0, v2, cond_true, cond_false]) ?_)) (fun w' hw' => by first | exact hw' | (simp only [v3, v0, v2, cond_true, cond_false]; exact hw'))
          · cases ho
            have h3 : e 3 = true := hd ⟨3, .data⟩ (by simp) rfl
            have v4 : Eng.upd e 4 4 = true := upd_eq
            have v3 : Eng.upd e 4 3 = true := upd_mono h3
            simp only [hei, h3, cond_true, cond_false]
            skip
            (((first | (with_reducible apply OL.op) | (with_reducible apply QL.op)); (exact Guard.au); rfl; rfl); (exact Pev.load_blkE (vs := setC sB) rfl (by (first | exact fun _ => rfl | exact fun h => h | (intro h; simp_all; done))) (by exact mau) rfl rfl (fun _ jj v hj => by rw [show 0 + ((b : Nat) : Int).toNat * 2 = b * 2 by omega]; exact cat_get setC_len hsB jj v hj)))
            apply OL.nil
            exact At.beside x (by repeat (first | exact Sub.nil | apply Sub.cons rfl | refine Sub.cons_eq rfl (by simp only [v4, v3, cond_true, cond_false]) ?_)) (fun w' hw' => by first | exact hw' | (simp only [v4, v3, cond_true, cond_false]; exact hw'))
          · cases ho
            have v5 : Eng.upd e 5 5 = true := upd_eq
            simp only [hei, cond_true, cond_false]
            apply omv; rfl; rfl
            apply OL.nil
            exact At.beside x (by repeat (first | exact Sub.nil | apply Sub.cons rfl | refine Sub.cons_eq rfl (by simp only [v5, cond_true, cond_false]) ?_)) (fun w' hw' => by first | exact hw' | (simp only [v5, cond_true, cond_false]; exact hw'))
          · cases ho
            have v6 : Eng.upd e 6 6 = true := upd_eq
            simp only [hei, cond_true, cond_false]
            apply omv; rfl; rfl
            apply OL.nil
            exact At.beside x (by repeat (first | exact Sub.nil | apply Sub.cons rfl | refine Sub.cons_eq rfl (by simp only [v6, cond_true, cond_false]) ?_)) (fun w' hw' => by first | exact hw' | (simp only [v6, cond_true, cond_false]; exact hw'))
          · cases ho
            have h5 : e 5 = true := hd ⟨5, .data⟩ (by simp) rfl
            have h6 : e 6 = true := hd ⟨6, .data⟩ (by simp) rfl
            have v7 : Eng.upd e 7 7 = true := upd_eq
            have v5 : Eng.upd e 7 5 = true := upd_mono h5
            have v6 : Eng.upd e 7 6 = true := upd_mono h6
            simp only [hei, h5, h6, cond_true, cond_false]
            apply oop; rfl; apply Pev.idxB; rfl; exact yes; rfl; exact yes; rfl; intro hcond; omega; rfl
            apply OL.nil
            exact At.beside x (by repeat (first | exact Sub.nil | apply Sub.cons rfl | refine Sub.cons_eq rfl (by simp only [v7, v5, v6, cond_true, cond_false]) ?_)) (fun w' hw' => by first | exact hw' | (simp only [v7, v5, v6, cond_true, cond_false]; exact hw'))
          · cases ho
            have h7 : e 7 = true := hd ⟨7, .data⟩ (by simp) rfl
            have v8 : Eng.upd e 8 8 = true := upd_eq
            have v7 : Eng.upd e 8 7 = true := upd_mono h7
            simp only [hei, h7, cond_true, cond_false]
            skip
            (((first | (with_reducible apply OL.op) | (with_reducible apply QL.op)); (exact Guard.au); rfl; rfl); (exact Pev.load_blkE (vs := setC sI) rfl (by (first | exact fun _ => rfl | exact fun h => h | (intro h; simp_all; done))) (by exact mau) rfl rfl (fun _ jj v hj => by rw [show 0 + ((i : Nat) : Int).toNat * 2 = i * 2 by omega]; exact cat_get setC_len hsI jj v hj)))
            apply OL.nil
            exact At.beside x (by repeat (first | exact Sub.nil | apply Sub.cons rfl | refine Sub.cons_eq rfl (by simp only [v8, v7, cond_true, cond_false]) ?_)) (fun w' hw' => by first | exact hw' | (simp only [v8, v7, cond_true, cond_false]; exact hw'))
          · cases ho
            have h4 : e 4 = true := hd ⟨4, .data⟩ (by simp) rfl
            have h8 : e 8 = true := hd ⟨8, .data⟩ (by simp) rfl
            have v9 : Eng.upd e 9 9 = true := upd_eq
            have v4 : Eng.upd e 9 4 = true := upd_mono h4
            have v8 : Eng.upd e 9 8 = true := upd_mono h8
            simp only [hei, h4, h8, cond_true, cond_false]
            skip
            (((first | (with_reducible apply OL.op) | (with_reducible apply QL.op)); (exact Guard.au); rfl; rfl); (exact Pev.call (v := .agg (setC (bothS sB sI)).toArray) rfl (by exact Args.au) (fun _ w2 hw2 => (both_calls sB sI w2 hokB hokI).mono (fun e w3 h => ⟨h.1, hw2.ext h.2⟩))))
            apply OL.nil
            exact At.beside x (by repeat (first | exact Sub.nil | apply Sub.cons rfl | refine Sub.cons_eq rfl (by simp only [v9, v4, v8, cond_true, cond_false]) ?_)) (fun w' hw' => by first | exact hw' | (simp only [v9, v4, v8, cond_true, cond_false]; exact hw'))
          · cases ho
            have v10 : Eng.upd e 10 10 = true := upd_eq
            simp only [hei, cond_true, cond_false]
            apply ofa; rfl; rfl; rfl
            apply OL.nil
            exact At.beside x (by repeat (first | exact Sub.nil | apply Sub.cons rfl | refine Sub.cons_eq rfl (by simp only [v10, cond_true, cond_false]) ?_)) (fun w' hw' => by first | exact hw' | (simp only [v10, cond_true, cond_false]; exact hw'))
          · cases ho
            have h10 : e 10 = true := hd ⟨10, .data⟩ (by simp) rfl
            have v11 : Eng.upd e 11 11 = true := upd_eq
            have v10 : Eng.upd e 11 10 = true := upd_mono h10
            simp only [hei, h10, cond_true, cond_false]
            apply old; rfl; rfl; exact .head _; rfl; rfl
            apply OL.nil
            exact At.beside x (by repeat (first | exact Sub.nil | apply Sub.cons rfl | refine Sub.cons_eq rfl (by simp only [v11, v10, cond_true, cond_false]) ?_)) (fun w' hw' => by first | exact hw' | (simp only [v11, v10, cond_true, cond_false]; exact hw'))
          · cases ho
            have h9 : e 9 = true := hd ⟨9, .data⟩ (by simp) rfl
            have h11 : e 11 = true := hd ⟨11, .data⟩ (by simp) rfl
            have v12 : Eng.upd e 12 12 = true := upd_eq
            have v9 : Eng.upd e 12 9 = true := upd_mono h9
            have v11 : Eng.upd e 12 11 = true := upd_mono h11
            simp only [hei, h9, h11, cond_true, cond_false]
            skip
            (((first | (with_reducible apply OL.op) | (with_reducible apply QL.op)); (exact Guard.au); rfl; rfl); (exact Pev.call (v := .agg #[.int .u64 ((nextS sB sI b).1 : Int), .int .u64 ((nextS sB sI b).2 : Int)]) rfl (by exact Args.au) (fun _ w2 hw2 => (with_calls (bothS sB sI) b w2 (ok_both hokB) (by omega)).mono (fun e w3 h => ⟨h.1, hw2.ext h.2⟩))))
            apply OL.nil
            exact At.beside x (by repeat (first | exact Sub.nil | apply Sub.cons rfl | refine Sub.cons_eq rfl (by simp only [v12, v9, v11, cond_true, cond_false]) ?_)) (fun w' hw' => by first | exact hw' | (simp only [v12, v9, v11, cond_true, cond_false]; exact hw'))
          · cases ho
            have h14 : e 14 = false := hcl.not (i := 13) (j := 14) rfl hei (by kernel_rfl)
            have v13 : Eng.upd e 13 13 = true := upd_eq
            have v14 : Eng.upd e 13 14 = false := h14
            simp only [hei, h14, cond_true, cond_false]
            apply OL.alloc; rfl; rfl; exact CellsL.agg; (intro bk hbk; simp only [AllLe, and_true] at hbk)
            apply OL.nil
            exact At.beside { x with bN := bk, hbN := hbk } (by repeat (first | exact Sub.nil | apply Sub.cons rfl | refine Sub.cons_eq rfl (by simp only [v13, v14, cond_true, cond_false]) ?_)) (fun w' hw' => by simp only [v13, v14, cond_true, cond_false]; exact Cls.fill (p := 6) (H := _ :: _ :: _ :: _ :: _ :: _ :: _ :: []) (.s (.s (.s (.s (.s (.s .z)))))) hw')
          · cases ho
            have h12 : e 12 = true := hd ⟨12, .data⟩ (by simp) rfl
            have h13 : e 13 = true := hd ⟨13, .data⟩ (by simp) rfl
            have v14 : Eng.upd e 14 14 = true := upd_eq
            have v12 : Eng.upd e 14 12 = true := upd_mono h12
            have v13 : Eng.upd e 14 13 = true := upd_mono h13
            simp only [hei, h12, h13, cond_true, cond_false]
            apply OL.storeB; rfl; rfl; exact CellsL.agg; rfl; rfl; rfl; exact Swap.au; exact Put.au
            apply OL.nil
            exact At.beside x (by repeat (first | exact Sub.nil | apply Sub.cons rfl | refine Sub.cons_eq rfl (by simp only [v14, v12, v13, cond_true, cond_false]) ?_)) (fun w' hw' => by first | exact hw' | (simp only [v14, v12, v13, cond_true, cond_false]; exact hw'))
        · intro x e2 hall
          simp only [hall 0 (by decide), hall 1 (by decide), hall 2 (by decide), hall 3 (by decide), hall 4 (by decide), hall 5 (by decide), hall 6 (by decide), hall 7 (by decide), hall 8 (by decide), hall 9 (by decide), hall 10 (by decide), hall 11 (by decide), hall 12 (by decide), hall 13 (by decide), hall 14 (by decide), cond_true]
          have hxb := x.hbN
          with_reducible apply At.next
          apply W.seq
          apply W.regd0; decide +kernel; kernel_rfl; decide +kernel; exact fun w hw => hw.drew
          apply qop; rfl; apply Pev.load_blkA; rfl; exact yes; apply List.Mem.tail; apply List.Mem.tail; apply List.Mem.tail; apply List.Mem.tail; exact .tail _ (.tail _ (.head _)); rfl; exact Take.au
          apply qmv; rfl; rfl
          apply qfa; rfl; rfl; rfl
          apply qld; rfl; rfl; exact .head _; rfl; rfl
          apply qop; rfl; apply Pev.idxB; rfl; exact yes; rfl; exact yes; rfl; intro hcond; omega; rfl
          (((first | (with_reducible apply OL.op) | (with_reducible apply QL.op)); (exact Guard.au); rfl; rfl); (exact Pev.load_blkE (vs := setC sB) rfl (by (first | exact fun _ => rfl | exact fun h => h | (intro h; simp_all; done))) (by exact mau) rfl rfl (fun _ jj v hj => by rw [show 0 + ((b : Nat) : Int).toNat * 2 = b * 2 by omega]; exact cat_get setC_len hsB jj v hj)))
          skip
          (((first | (with_reducible apply OL.op) | (with_reducible apply QL.op)); (exact Guard.au); rfl; rfl); (exact Pev.bin (r := .bool (!decide (nextS sB sI b = sB))) rfl (by (first | exact fun _ => rfl | exact fun h => h | (intro h; simp_all; done))) rfl (by (first | exact fun _ => rfl | exact fun h => h | (intro h; simp_all; done))) (fun _ => neqS (nextS sB sI b) sB)))
          apply qmv; rfl; rfl
          apply qno; rfl; rfl; rfl; apply Pev.load_blkA; rfl; exact yes; exact .tail _ (.head _); rfl; exact Take.au
          apply qno; rfl; rfl; rfl; apply Pev.fld; rfl; exact yes; rfl
          apply qno; rfl; rfl; rfl; apply Pev.load_blk; rfl; exact fun h => h; exact .head _; rfl; rfl
          (((first | (with_reducible apply OL.op) | (with_reducible apply QL.op)); (exact Guard.au); rfl; rfl); (exact Pev.call (v := .bool (hasS S2 b)) rfl (by exact Args.au) (fun _ w2 hw2 => (has_calls S2 b w2 hR2.di.sok (by omega)).mono (fun e w3 h => ⟨h.1, hw2.ext h.2⟩))))
          apply qno; rfl; rfl; rfl; apply Pev.not; rfl; exact fun h => h
          apply qop; rfl; apply Pev.pick_or; rfl; exact yes; rfl; exact fun h => h
          apply QL.nil
          with_reducible apply At.next
          refine W.cond rfl (fun hc => ?_) (fun hc => ?_)
          · have hch : nextS sB sI b ≠ sB ∨ hasS S2 b = false := by
              simp at hc
              by_cases e : nextS sB sI b = sB
              · exact .inr (by simpa [e] using hc)
              · exact .inl e
            skip
            refine W.regn 9 (by (repeat (first | exact SplitN.z | apply SplitN.s))) (by kernel_rfl) (by decide +kernel) (fun w hw => hw.drew) ?_
            apply qmv; rfl; rfl
            apply qfa; rfl; rfl; rfl
            apply qld; rfl; rfl; exact .head _; rfl; rfl
            apply qop; rfl; apply Pev.load_blkA; rfl; exact yes; apply List.Mem.tail; apply List.Mem.tail; apply List.Mem.tail; apply List.Mem.tail; exact .tail _ (.tail _ (.head _)); rfl; exact Take.au
            apply qop; rfl; apply Pev.load_blkA; rfl; exact yes; exact .tail _ (.head _); rfl; exact Take.au
            apply qfa; rfl; rfl; rfl
            apply qld; rfl; rfl; exact .head _; rfl; rfl
            (((first | (with_reducible apply OL.op) | (with_reducible apply QL.op)); (exact Guard.au); rfl; rfl); (exact Pev.call (v := .agg #[.int .u64 ((withS S2 b).1 : Int), .int .u64 ((withS S2 b).2 : Int)]) rfl (by exact Args.au) (fun _ w2 hw2 => (with_calls S2 b w2 hR2.di.sok (by omega)).mono (fun e w3 h => ⟨h.1, hw2.ext h.2⟩))))
            apply qop; rfl; apply Pev.idxB; rfl; exact yes; rfl; exact yes; rfl; intro hcond; omega; rfl
            with_reducible apply QL.tail
            refine OL.storeL (vs := setC (nextS sB sI b)) (cs := cat setC O2) rfl rfl rfl rfl rfl rfl ⟨?_, rfl⟩ (by exact Swap.au) ?_
            · rw [cat_length setC_len, setC_len]
              omega
            rw [show 0 + ((b : Nat) : Int).toNat * 2 = b * 2 by omega, cat_set setC_len (by decide) hb2n]
            apply OL.storeB; rfl; rfl; exact CellsL.agg; rfl; rfl; rfl; exact Swap.au; exact Put.au
            apply oas; rfl; rfl
            apply OL.nil
            with_reducible apply At.in_normal
            with_reducible apply At.next
            apply W.reg
            apply obn; rfl; rfl; rfl; apply Bin.add_in; omega
            apply omv; rfl; rfl
            apply OL.nil
            exact At.again (j + 1, O2.set b (nextS sB sI b), withS S2 b, true) ⟨by simp only; omega, hR2.turn hGi hjl hsI hsB hsi2 (by omega) hch, by rw [has_with (by omega) (by omega), hsi2]; simp⟩ (by simp only; omega) (by exact Sub.au) (fun w' hw' => hw'.thin (by exact Thin.au))
          · have hch : nextS sB sI b = sB ∧ hasS S2 b = true := by
              simp at hc
              by_cases e : nextS sB sI b = sB
              · exact ⟨e, by simpa [e] using hc⟩
              · simp [e] at hc
            apply W.skip
            with_reducible apply At.in_normal
            with_reducible apply At.next
            apply W.reg
            apply obn; rfl; rfl; rfl; apply Bin.add_in; omega
            apply omv; rfl; rfl
            apply OL.nil
            exact At.again (j + 1, O2, S2, ag2) ⟨by simp only; omega, hR2.keep hGi hjl hsI hsB hch.1 hch.2, hsi2⟩ (by simp only; omega) (by exact Sub.au) (fun w' hw' => hw'.thin (by exact Thin.au))
      · obtain rfl : j = ts.length := by omega
        have hR3 : RInv G O S O2 S2 ag2 (i + 1) 0 := RInv.next (l := p.1.term.to_.map Ed.block) (by rw [List.length_map, htl2]; exact hR2) hGi
        refine W.xt ?_
        with_reducible apply At.in_normal
        with_reducible apply At.next
        apply W.reg
        apply obn; rfl; rfl; rfl; apply Bin.add_in; omega
        apply omv; rfl; rfl
        apply OL.nil
        exact At.again (i + 1, O2, S2, ag2) ⟨by simp only; omega, hR3⟩ (by simp only; omega) (by exact Sub.au) (fun w' hw' => hw')
    · obtain rfl : i = es.length := by omega
      rw [← hGl] at hR
      have hG0 : ∀ l ∈ G, ∀ x ∈ l, 0 ≤ x := fun l hl x hx => by
        rw [← hG] at hl
        obtain ⟨b, hb, rfl⟩ := List.mem_map.1 hl
        obtain ⟨p, hp, rfl⟩ := List.mem_map.1 hb
        obtain ⟨e, he2, rfl⟩ := List.mem_map.1 hx
        have := hE p hp e he2
        omega
      refine W.xt ?_
      with_reducible apply At.in_normal
      cases ag1 with
      | true =>
        have := hR.lt rfl
        exact At.again (O1, S1, true) ⟨hR.di, fun h => (by cases h)⟩ (by simp; omega) (by exact Sub.au) (fun w' hw' => hw')
      | false =>
        have := hR.mu
        exact At.again (O1, S1, false) ⟨hR.di, fun _ => hR.done hG0⟩ (by simp; omega) (by exact Sub.au) (fun w' hw' => hw')
  · subst hag
    have hf := hfix rfl
    refine W.xt ?_
    with_reducible apply At.next
    apply W.seq
    refine W.regn 3 (by (repeat (first | exact SplitN.z | apply SplitN.s))) (by kernel_rfl) (by decide +kernel) (fun w hw => hw.drew) ?_
    apply qmv; rfl; rfl
    apply qop; rfl; apply Pev.load_blkA; rfl; exact yes; exact .head _; rfl; exact Take.au
    apply qas; rfl; rfl
    with_reducible apply QL.tail
    apply OL.storeB; rfl; rfl; exact CellsL.agg; rfl; rfl; rfl; exact Swap.au; exact Put.au
    apply OL.nx
    apply W.ret
    refine At.fin1C (b := bR) (cs := [.int .u64 (S.1 : Int), .int .u64 (S.2 : Int)]) rfl rfl rfl (by exact mau) rfl rfl (fun w' hw' => ⟨bO, O, S, rfl, by (exact hw'.fr), hdi, hf, hbO', hw'.item (by exact mau)⟩)
end Go.Proofs.Ytehelljmaiophaa.ss

/- The walks of ssa's uses$1 and used. Conditions: none. -/
namespace Go.Eng
set_option linter.unusedVariables false
set_option linter.unusedSimpArgs false
open Go.RowKit
theorem Cls.only {H H' : List Item} {S : List World} {w : World} (h : Cls H S w) (hs : H'.Sublist H) : Cls H' [w] w where
  holds := fun i hi => h.holds i (hs.subset hi)
  lt := fun i hi => h.lt i (hs.subset hi)
  dj := h.dj.sublist hs
  kp := fun s hs => by simp only [List.mem_singleton] at hs; subst hs; exact .refl _ _
/-- every item tells its blocks to the last bit -/
def AllX (H : List Item) : Prop := ∀ i ∈ H, ∀ k w w', i.own k → i.holds w → i.holds w' → w'.heap[k]? = w.heap[k]?
theorem AllX.nil : AllX [] := fun i hi => by cases hi
theorem AllX.blk {H : List Item} {b : Nat} {t : TypeId} {cs : List Value} (h : AllX H) : AllX (Eng.blk b t cs :: H) := fun i hi k w w' ho h1 h2 => by
  rcases List.mem_cons.1 hi with rfl | hi
  · have ho : k = b := ho
    subst ho
    exact Eq.trans (show w'.heap[k]? = _ from h2) (show w.heap[k]? = _ from h1).symm
  · exact h i hi k w w' ho h1 h2
theorem AllX.mapX {H : List Item} {b clock : Nat} {es : Array MapEntry} (h : AllX H) : AllX (Eng.mapX b es clock :: H) := fun i hi k w w' ho h1 h2 => by
  rcases List.mem_cons.1 hi with rfl | hi
  · have ho : k = b := ho
    subst ho
    exact Eq.trans (show w'.heap[k]? = _ from h2) (show w.heap[k]? = _ from h1).symm
  · exact h i hi k w w' ho h1 h2
theorem Cls.extX {H : List Item} {w w' : World} (h0 : Cls H [w] w) (h : Cls H [w] w') (hx : AllX H) : Ext w w' := by
  have hk := h.kp w (.head _)
  refine ⟨hk.os, hk.tape, hk.output, hk.size, fun k hl _ => ?_⟩
  by_cases ho : owned H k
  · obtain ⟨i, hi, ho⟩ := ho
    exact hx i hi k w w' ho (h0.holds i hi) (h.holds i hi)
  · exact hk.block k hl ho
end Go.Eng
namespace Go.Ss
set_option linter.unusedVariables false
set_option linter.unusedSimpArgs false
open Go.Eng Go.RowKit
set_option linter.unusedVariables false
set_option linter.unusedSimpArgs false
/-- what the check of one use answers -/
def fineB (mp : PL) (O : List BS) (S : BS) (k at_ : Nat) (v : Int) : Bool :=
  match plget mp v with
  | none => false
  | some p => (decide (p.1 = k) && decide (p.2 ≤ at_)) || (decide (p.1 ≠ k) && hasS (O.getD k (0, 0)) p.1) || !hasS S k
end Go.Ss
namespace Go.Eng
set_option linter.unusedVariables false
set_option linter.unusedSimpArgs false
open Go.RowKit Go.Ss
variable {P : Program} {n : Nat} {l : Env} {H : List Item} {S : List World} {c : Bool} {d : Option Nat} {ty : TypeId} {pos : String} {af : Array Edge} {g : Option (Nat × Bool)} {t : TypeId} {x y : Operand} {cx cy : Bool}
theorem Pev.plookupX {k e : TypeId} {b clock : Nat} {es : Array MapEntry} {m : PL} {s : Int} (hx : evl l x = some (cx, .map (some b))) (hcx : c = true → cx = true) (hy : evl l y = some (cy, .int .i64 s)) (hcy : c = true → cy = true) (ht : mapTi P t = some (k, e)) (hz : zeroV P e = some (.agg #[.int .i64 0, .int .i64 0])) (hm : MapIs es clock (plM m)) (hb : mapX b es clock ∈ H) :
    Pev P n l (Cls H S) ⟨d, .lookup t x y true, ty, pos, af, g⟩ c (.tuple #[.agg #[.int .i64 (((plget m s).getD (0, 0)).1 : Int), .int .i64 (((plget m s).getD (0, 0)).2 : Int)], .bool (plget m s).isSome]) := by
  have h1 := Pev.ilookup2 (P := P) (n := n) (C := Cls H S) (d := d) (ty := ty) (pos := pos) (af := af) (g := g) hx hcx hy hcy ht hz (fun w hw => ⟨es, clock, hw.item hb, hm⟩)
  rw [iget_plM] at h1
  cases hp : plget m s with
  | none => rw [hp] at h1; exact h1
  | some p => rw [hp] at h1; exact h1
end Go.Eng
namespace Go.Proofs.Ytehelljmaiophaa.ss
set_option linter.unusedVariables false
set_option linter.unusedSimpArgs false
set_option maxRecDepth 100000
open Go.Eng Go.RowKit Go.Ss
set_option linter.unusedVariables false
set_option linter.unusedSimpArgs false
theorem fine_calls (bp bc bm bk_ ba bo bs_ bO m : Nat) (nm : Int) (q : Option Addr) (n cap : Nat) (es : Array MapEntry) (clock : Nat) (mp : PL) (O : List BS) (S : BS) (k at_ : Nat) (v : Int) (w : World) (hmp : MapIs es clock (plM mp)) (hm : O.length = m) (hO : O.length ≤ 128) (hOk : ∀ s ∈ O, s.ok) (hS : S.ok) (hk : k < O.length) (hb : ∀ b a, plget mp v = some (b, a) → b < O.length)
    (hc : Cls (blk ba 3 [.int .i64 (at_ : Int)] :: blk bk_ 3 [.int .i64 (k : Int)] :: blk bs_ 174 (setC S) :: blk bo 171 [.slice (some ⟨bO, 0, none⟩) m m] :: blk bO 174 (cat setC O) :: blk bp 121 [.pointer (some ⟨bc, 0, none⟩)] :: blk bc 124 [.int .i64 nm, .slice q n cap, .map (some bm)] :: mapX bm es clock :: []) [w] w) :
    Calls Try.prog 122 [.int .i64 v, .pointer (some ⟨bp, 0, none⟩), .pointer (some ⟨bk_, 0, none⟩), .pointer (some ⟨ba, 0, none⟩), .pointer (some ⟨bo, 0, none⟩), .pointer (some ⟨bs_, 0, none⟩)].toArray w fun e w' => e = .returned (.bool (fineB mp O S k at_ v)) ∧ Ext w w' := by
  subst hm
  refine enter Try.func122 rfl Try.ntmps122 rfl hc ?_
  (simp only [argEnv, Nat.zero_add, Nat.reduceAdd])
  apply W.sr
  apply oas; rfl; rfl
  apply OL.nsr
  apply old; rfl; rfl; apply List.Mem.tail; apply List.Mem.tail; apply List.Mem.tail; exact .tail _ (.tail _ (.head _)); rfl; rfl
  apply oop; rfl; apply Pev.nil_ptr; rfl; exact yes
  apply ofa; rfl; rfl; rfl
  apply old; rfl; rfl; apply List.Mem.tail; apply List.Mem.tail; apply List.Mem.tail; apply List.Mem.tail; exact .tail _ (.tail _ (.head _)); rfl; rfl
  apply omv; rfl; rfl
  (((first | (with_reducible apply OL.op) | (with_reducible apply QL.op)); (exact Guard.au); rfl; rfl); (refine Pev.plookupX (m := mp) rfl (by (first | exact fun _ => rfl | exact fun h => h | (intro h; simp_all; done))) rfl (by (first | exact fun _ => rfl | exact fun h => h | (intro h; simp_all; done))) rfl rfl hmp (by exact mau)))
  have hp1 : ((plget mp v).getD (0, 0)).1 < O.length := by
    cases hp : plget mp v with
    | none => exact Nat.lt_of_le_of_lt (Nat.zero_le _) hk
    | some p => exact hb p.1 p.2 hp
  rw [show fineB mp O S k at_ v = ((plget mp v).isSome && ((decide (((plget mp v).getD (0, 0)).1 = k) && decide (((plget mp v).getD (0, 0)).2 ≤ at_)) || (decide (((plget mp v).getD (0, 0)).1 ≠ k) && hasS (O.getD k (0, 0)) ((plget mp v).getD (0, 0)).1) || !hasS S k)) by
    unfold fineB
    cases plget mp v <;> rfl]
  generalize (plget mp v).getD (0, 0) = pg at *
  generalize (plget mp v).isSome = sm at *
  obtain ⟨p1, p2⟩ := pg
  simp only at hp1 ⊢
  apply omv; rfl; rfl
  apply oex; rfl; rfl; rfl
  apply oex; rfl; rfl; rfl
  apply OL.alloc; rfl; rfl; exact CellsL.agg; (intro bk hbk; simp only [AllLe, and_true] at hbk)
  apply OL.storeB; rfl; rfl; exact CellsL.agg; rfl; rfl; rfl; exact Swap.au; exact Put.au
  apply oas; rfl; rfl
  apply OL.nx
  apply W.seq
  apply W.regd0; decide +kernel; kernel_rfl; decide +kernel; exact fun w hw => hw.drew
  apply qmv; rfl; rfl
  apply qmv; rfl; rfl
  apply qy; rfl; rfl; rfl; apply Pev.fld; rfl; exact yes; rfl
  apply qy; rfl; rfl; rfl; apply Pev.load_blk; rfl; exact fun h => h; exact .head _; rfl; rfl
  apply qy; rfl; rfl; rfl; apply Pev.load_blk; rfl; exact yes; exact .tail _ (.tail _ (.head _)); rfl; rfl
  apply qy; rfl; rfl; rfl; apply Pev.bin; rfl; exact fun h => h; rfl; exact fun h => h; intro hcond; apply Bin.eql
  apply qy; rfl; rfl; rfl; apply Pev.move; rfl; exact fun h => h
  apply QL.op; exact Guard.cyes rfl rfl; rfl; rfl; apply Pev.fld; rfl; exact yes; rfl
  apply QL.op; exact Guard.cyes rfl rfl; rfl; rfl; apply Pev.load_blk; rfl; exact fun h => h; exact .head _; rfl; rfl
  apply QL.op; exact Guard.cyes rfl rfl; rfl; rfl; apply Pev.load_blk; rfl; exact yes; exact .tail _ (.head _); rfl; rfl
  apply QL.op; exact Guard.cyes rfl rfl; rfl; rfl; apply Pev.bin; rfl; exact fun h => h; rfl; exact fun h => h; intro hcond; apply Bin.leq
  apply qy; rfl; rfl; rfl; apply Pev.pick_and; rfl; exact fun h => h; rfl; exact fun h => h
  apply qy; rfl; rfl; rfl; apply Pev.move; rfl; exact fun h => h
  apply QL.op; exact Guard.cno rfl rfl; rfl; rfl; apply Pev.fld; rfl; exact yes; rfl
  apply QL.op; exact Guard.cno rfl rfl; rfl; rfl; apply Pev.load_blk; rfl; exact fun h => h; exact .head _; rfl; rfl
  apply QL.op; exact Guard.cno rfl rfl; rfl; rfl; apply Pev.load_blk; rfl; exact yes; exact .tail _ (.tail _ (.head _)); rfl; rfl
  apply QL.op; exact Guard.cno rfl rfl; rfl; rfl; apply Pev.bin; rfl; exact fun h => h; rfl; exact fun h => h; intro hcond; apply Bin.neq
  apply QL.op; exact Guard.cno rfl rfl; rfl; rfl; apply Pev.move; rfl; exact fun h => h
  apply QL.op; exact Guard.cyes rfl rfl; rfl; rfl; apply Pev.load_blk; rfl; exact yes; apply List.Mem.tail; apply List.Mem.tail; exact .tail _ (.tail _ (.head _)); rfl; rfl
  apply QL.op; exact Guard.cyes rfl rfl; rfl; rfl; apply Pev.load_blk; rfl; exact yes; exact .tail _ (.tail _ (.head _)); rfl; rfl
  apply QL.op; exact Guard.cyes rfl rfl; rfl; rfl; apply Pev.idxB; rfl; exact fun h => h; rfl; exact fun h => h; rfl; intro hcond; omega; rfl
  have hOk1 : O[k]? = some (O.getD k (0, 0)) := by rw [List.getD_eq_getElem?_getD, List.getElem?_eq_getElem hk]; rfl
  have hsk : (O.getD k (0, 0)).ok := hOk _ (List.mem_of_getElem? hOk1)
  (((first | (with_reducible apply OL.op) | (with_reducible apply QL.op)); (exact Guard.au); rfl; rfl); (refine Pev.load_blkE (k := 2) (vs := setC (O.getD k (0, 0))) rfl (by (first | exact fun _ => rfl | exact fun h => h | (intro h; simp_all; done))) (by exact mau) rfl rfl (fun _ j v hj => ?_)))
  · have h9 := cat_get (f := setC) (sz := 2) (fun _ => rfl) hOk1 j v hj
    rw [← h9]
    congr 1
    simp
  apply QL.op; exact Guard.cyes rfl rfl; rfl; rfl; apply Pev.fld; rfl; exact yes; rfl
  apply QL.op; exact Guard.cyes rfl rfl; rfl; rfl; apply Pev.load_blk; rfl; exact fun h => h; exact .head _; rfl; rfl
  (((first | (with_reducible apply OL.op) | (with_reducible apply QL.op)); (exact Guard.au); rfl; rfl); (exact Pev.call (v := .bool (hasS (O.getD k (0, 0)) p1)) rfl (by exact Args.au) (fun _ w2 hw2 => (has_calls _ p1 w2 hsk (by omega)).mono (fun e w3 h => ⟨h.1, hw2.ext h.2⟩))))
  apply QL.op; exact Guard.cno rfl rfl; rfl; rfl; apply Pev.pick_and; rfl; exact fun h => h; rfl; exact fun h => h
  apply qy; rfl; rfl; rfl; apply Pev.pick_or; rfl; exact fun h => h; rfl; exact fun h => h
  apply qy; rfl; rfl; rfl; apply Pev.move; rfl; exact fun h => h
  apply QL.op; exact Guard.cno rfl rfl; rfl; rfl; apply Pev.load_blkA; rfl; exact yes; apply List.Mem.tail; exact .tail _ (.tail _ (.head _)); rfl; exact Take.au
  apply QL.op; exact Guard.cno rfl rfl; rfl; rfl; apply Pev.load_blk; rfl; exact yes; exact .tail _ (.tail _ (.head _)); rfl; rfl
  (((first | (with_reducible apply OL.op) | (with_reducible apply QL.op)); (exact Guard.au); rfl; rfl); (exact Pev.call (v := .bool (hasS S k)) rfl (by exact Args.au) (fun _ w2 hw2 => (has_calls S k w2 hS (by omega)).mono (fun e w3 h => ⟨h.1, hw2.ext h.2⟩))))
  apply QL.op; exact Guard.cno rfl rfl; rfl; rfl; apply Pev.not; rfl; exact fun h => h
  apply qy; rfl; rfl; rfl; apply Pev.pick_or; rfl; exact fun h => h; rfl; exact fun h => h
  apply qop; rfl; apply Pev.pick_and; rfl; exact yes; rfl; exact fun h => h
  apply qas; rfl; rfl
  apply QL.nil
  with_reducible apply At.next
  apply W.ret
  ((with_reducible apply At.fin1); rfl; rfl; intro w' hw')
  refine ⟨?_, Cls.extX hc (hw'.thin (.any (fun k hk => by rw [show k = bk from hk]; exact ⟨by assumption, trivial⟩) Thin.same)) (.blk (.blk (.blk (.blk (.blk (.blk (.blk (.mapX .nil))))))))⟩
  have e1 : decide ((p1 : Int) = (k : Int)) = decide (p1 = k) := decide_eq_decide.2 (by omega)
  have e2 : decide ((p2 : Int) ≤ (at_ : Int)) = decide (p2 ≤ at_) := decide_eq_decide.2 (by omega)
  have e3 : decide (p1 ≠ k) = !decide (p1 = k) := by simp
  rw [e1, e2, e3]
theorem used_calls (t : Tm) (y : TmY) (f : FuncId) (first caps : List Value) (p : Int → Bool) (w : World) (ht : TmOk w (low w) t y) (hk : 0 ≤ t.kind ∧ t.kind ≤ 4) (hf : callable Try.prog f = true)
    (hp : ∀ v ∈ operT t, ∀ w', Ext w w' → Calls Try.prog f (first ++ [Value.int .i64 v] ++ caps).toArray w' fun e w'' => e = .returned (.bool (p v)) ∧ Ext w' w'') :
    Calls Try.prog 124 [.agg (tmC t y).toArray, .func (.func f) first.toArray caps.toArray].toArray w fun e w' => e = .returned (.bool ((operT t).all p)) ∧ Ext w w' := by
  obtain ⟨ts, hts, harr⟩ := ht.t
  have htl := ht.tl
  have htl2 : t.to_.length = ts.length := by rw [← hts, List.length_map]
  refine enter Try.func124 rfl Try.ntmps124 rfl (Cls.start w) ?_
  (simp only [argEnv, Nat.zero_add, Nat.reduceAdd])
  simp only [tmC]
  apply W.sr
  apply OL.box; rfl; rfl; exact CellsL.agg; (intro bk hbk; simp only [AllLe, and_true] at hbk)
  apply oas; rfl; rfl
  apply OL.nx
  apply W.seq
  apply W.sr
  apply ofa; rfl; rfl; rfl
  apply old; rfl; rfl; exact .head _; rfl; rfl
  apply obn; rfl; rfl; rfl; apply Bin.neq
  apply omv; rfl; rfl
  apply oy; rfl; rfl; rfl; apply Pev.fld; rfl; exact yes; rfl
  apply oy; rfl; rfl; rfl; apply Pev.load_blk; rfl; exact fun h => h; exact .head _; rfl; rfl
  apply oy; rfl; rfl; rfl; apply Pev.bin; rfl; exact fun h => h; rfl; exact yes; intro hcond; apply Bin.neq
  apply oop; rfl; apply Pev.pick_and; rfl; exact yes; rfl; exact fun h => h
  apply omv; rfl; rfl
  apply oy; rfl; rfl; rfl; apply Pev.move; rfl; exact yes
  apply oy; rfl; rfl; rfl; apply Pev.fld; rfl; exact yes; rfl
  apply oy; rfl; rfl; rfl; apply Pev.load_blk; rfl; exact fun h => h; exact .head _; rfl; rfl
  (((first | (with_reducible apply OL.op) | (with_reducible apply QL.op)); (exact Guard.au); rfl; rfl); (refine Pev.callv (v := .bool (p t.arg)) (first := first) (cap := caps) (vs := [.int .i64 t.arg]) rfl (by (first | exact fun _ => rfl | exact fun h => h | (intro h; simp_all; done))) hf (by exact Args.au) (fun hcc w2 hw2 => (hp t.arg ?_ w2 (hw2.toExt (by exact mau) (fun k hk => by exact NotOwned.au))).mono (fun e w3 h => ⟨h.1, hw2.ext h.2⟩))))
  · unfold operT
    simp at hcc
    rw [if_pos (by omega)]
    exact .head _
  apply oy; rfl; rfl; rfl; apply Pev.not; rfl; exact fun h => h
  apply oop; rfl; apply Pev.pick_and; rfl; exact yes; rfl; exact fun h => h
  apply OL.nx
  have hfalse : ∀ v ∈ operT t, p v = false → (operT t).all p = false := fun v hv hpv => List.all_eq_false.2 ⟨v, hv, by simp [hpv]⟩
  refine W.cond rfl (fun h1 => ?_) (fun h1 => ?_)
  · have hf1 : (operT t).all p = false := by
      simp at h1
      refine hfalse t.arg ?_ h1.2
      unfold operT
      rw [if_pos (by omega)]
      exact .head _
    apply W.sr
    apply oas; rfl; rfl
    apply OL.nx
    refine W.rt ?_
    ((with_reducible apply At.fin1); rfl; rfl; intro w' hw')
    exact ⟨by rw [hf1], by (exact hw'.fr)⟩
  have h0 : ∀ v ∈ (if t.kind = 0 ∨ t.kind = 2 ∨ t.kind = 3 then [t.arg] else []), p v = true := fun v hv => by
    split at hv
    · obtain rfl : v = t.arg := by simpa using hv
      simp at h1
      exact h1 (by omega) (by omega)
    · cases hv
  have hmem : ∀ (j : Nat) e, t.to_[j]? = some e → ∀ v ∈ e.args, v ∈ operT t := fun j e he v hv => List.mem_append_right _ (List.mem_flatMap.2 ⟨e, List.mem_of_getElem? he, hv⟩)
  apply W.sk
  apply W.seq
  apply W.sr
  apply ofa; rfl; rfl; rfl
  apply old; rfl; rfl; exact .head _; rfl; rfl
  apply oop; rfl; apply Pev.len_slice; rfl; exact yes; rfl
  apply omv; rfl; rfl
  apply OL.nx
  apply W.block
  revert bk
  intro bT hbT
  refine W.loop (G := Nat) (fun j => j ≤ ts.length ∧ ∀ e ∈ t.to_.take j, ∀ v ∈ e.args, p v = true) (fun j => ts.length - j)
    (fun j => [(1, true, .func (.func f) first.toArray caps.toArray), (25, true, .slice y.t.1 ts.length y.t.2), (26, true, .int .i64 (ts.length : Int)), (27, true, .int .i64 (j : Int))])
    (fun _ => Cls [] [w]) 0 ⟨by omega, fun e he => by simp at he⟩ (by rw [htl2]; exact Sub.au) (fun w' hw' => hw'.thin (by exact Thin.au)) ?_
  rintro j ⟨hj, hj0⟩
  apply W.sr
  apply obn; rfl; rfl; rfl; apply Bin.lss
  apply OL.nx
  apply W.seq
  (refine W.cnd (fun hlt => ?_) (fun hlt => ?_)) <;> (try (exfalso; first | omega | exact hlt trivial | contradiction))
  · have hjl : j < ts.length := by omega
    obtain ⟨a, u, hqa, hab, hu, hcell, hok⟩ := harr.get hjl
    have hab : a.block < w.heap.size := hab
    have hcell : CellsAt w (a.add (j * 2)) [.int .i64 u.1.block, .slice u.2.1 u.1.args.length u.2.2] := hcell
    have hue : t.to_[j]? = some u.1 := by rw [← hts, List.getElem?_map, hu]; rfl
    have hal := hok.2.1.1
    rw [hqa]
    apply W.sk
    apply W.sb
    apply W.sr
    apply oop; rfl; apply Pev.idx; rfl; exact yes; rfl; exact yes; rfl; rfl; intro hcond; omega
    apply oop; rfl; apply Pev.load_keptA; rfl; exact yes; exact .head _; rfl; intro hcond; assumption; rfl; intro hcond; (rw [add_block]; assumption); intro hcond; exact NotOwned.au
    apply OL.alloc; rfl; rfl; exact CellsL.agg; (intro bk hbk; simp only [AllLe, and_true] at hbk)
    apply OL.storeB; rfl; rfl; exact CellsL.agg; rfl; rfl; rfl; exact Swap.au; exact Put.au
    apply OL.nsr
    apply ofa; rfl; rfl; rfl
    apply old; rfl; rfl; exact .head _; rfl; rfl
    apply oop; rfl; apply Pev.len_slice; rfl; exact yes; rfl
    apply omv; rfl; rfl
    apply OL.nx
    apply W.block
    revert bk
    intro bE hbE
    refine W.loop (G := Nat) (fun i => i ≤ u.1.args.length ∧ ∀ v ∈ u.1.args.take i, p v = true) (fun i => u.1.args.length - i)
      (fun i => [(1, true, .func (.func f) first.toArray caps.toArray), (25, true, .slice (some a) ts.length y.t.2), (26, true, .int .i64 (ts.length : Int)), (27, true, .int .i64 (j : Int)), (32, true, .slice u.2.1 u.1.args.length u.2.2), (33, true, .int .i64 (u.1.args.length : Int)), (34, true, .int .i64 (i : Int))])
      (fun _ => Cls [] [w]) 0 ⟨by omega, fun e he => by simp at he⟩ (by exact Sub.au) (fun w' hw' => hw'.thin (by exact Thin.au)) ?_
    rintro i ⟨hi, hi0⟩
    apply W.sr
    apply obn; rfl; rfl; rfl; apply Bin.lss
    apply OL.nx
    apply W.seq
    (refine W.cnd (fun hlt2 => ?_) (fun hlt2 => ?_)) <;> (try (exfalso; first | omega | exact hlt2 trivial | contradiction))
    · have hil : i < u.1.args.length := by omega
      obtain ⟨av, v, hqv, habv, hv, hcv⟩ := hok.2.2.1.get hil
      have habv : av.block < w.heap.size := habv
      have hvm := hmem j u.1 hue v (List.mem_of_getElem? hv)
      rw [hqv]
      apply W.sk
      apply W.sb
      apply W.sr
      apply oop; rfl; apply Pev.idx; rfl; exact yes; rfl; exact yes; rfl; rfl; intro hcond; omega
      apply oop; rfl; apply Pev.load_kept; rfl; exact yes; exact .head _; rfl; intro hcond; assumption; intro hcond; (rw [add_block]; assumption); intro hcond; exact NotOwned.au
      apply oas; rfl; rfl
      apply OL.nsr
      apply omv; rfl; rfl
      apply omv; rfl; rfl
      (((first | (with_reducible apply OL.op) | (with_reducible apply QL.op)); (exact Guard.au); rfl; rfl); (refine Pev.callv (v := .bool (p v)) (first := first) (cap := caps) (vs := [.int .i64 v]) rfl (by (first | exact fun _ => rfl | exact fun h => h | (intro h; simp_all; done))) hf (by exact Args.au) (fun hcc w2 hw2 => (hp v hvm w2 (hw2.toExt (by exact mau) (fun k hk => by exact NotOwned.au))).mono (fun e w3 h => ⟨h.1, hw2.ext h.2⟩))))
      apply oop; rfl; apply Pev.not; rfl; exact yes
      apply OL.nx
      refine W.cond rfl (fun h3 => ?_) (fun h3 => ?_)
      · have hf2 : (operT t).all p = false := hfalse v hvm (by simpa using h3)
        apply W.sr
        apply oas; rfl; rfl
        apply OL.nx
        refine W.rt ?_
        ((with_reducible apply At.fin1); rfl; rfl; intro w' hw')
        exact ⟨by rw [hf2], by (exact hw'.fr)⟩
      · have hpv : p v = true := by simpa using h3
        apply W.skip
        with_reducible apply At.in_normal
        with_reducible apply At.next
        apply W.reg
        apply obn; rfl; rfl; rfl; apply Bin.add_in; omega
        apply omv; rfl; rfl
        apply OL.nil
        refine At.again (i + 1) ⟨by omega, fun x hx => ?_⟩ (by omega) (by exact Sub.au) (fun w' hw' => hw')
        rw [List.take_add_one, hv] at hx
        rcases List.mem_append.1 hx with hx | hx
        · exact hi0 x hx
        · obtain rfl : x = v := by simpa using hx
          exact hpv
    · obtain rfl : i = u.1.args.length := by omega
      refine W.xt ?_
      with_reducible apply At.in_normal
      with_reducible apply At.next
      apply W.reg
      apply obn; rfl; rfl; rfl; apply Bin.add_in; omega
      apply omv; rfl; rfl
      apply OL.nil
      refine At.again (j + 1) ⟨by omega, fun e he => ?_⟩ (by omega) (by exact Sub.au) (fun w' hw' => hw'.thin (by exact Thin.au))
      rw [List.take_add_one, hue] at he
      rcases List.mem_append.1 he with he | he
      · exact hj0 e he
      · obtain rfl : e = u.1 := by simpa using he
        rw [List.take_length] at hi0
        exact hi0
  · obtain rfl : j = ts.length := by omega
    have ht2 : (operT t).all p = true := List.all_eq_true.2 fun v hv => by
      unfold operT at hv
      rcases List.mem_append.1 hv with hv | hv
      · exact h0 v hv
      · obtain ⟨e, he, hv⟩ := List.mem_flatMap.1 hv
        rw [← htl2, List.take_length] at hj0
        exact hj0 e he v hv
    refine W.xt ?_
    with_reducible apply At.next
    apply W.sr
    apply oas; rfl; rfl
    apply OL.nx
    apply W.ret
    ((with_reducible apply At.fin1); rfl; rfl; intro w' hw')
    exact ⟨by rw [ht2], by (exact hw'.fr)⟩
end Go.Proofs.Ytehelljmaiophaa.ss

/- The walks of ssa's uses and CheckFunc. Conditions: none. -/
namespace Go.Ss
set_option linter.unusedVariables false
set_option linter.unusedSimpArgs false
open Go.Eng Go.RowKit
set_option linter.unusedVariables false
set_option linter.unusedSimpArgs false
/-! ### what a shape without fault gives -/
theorem shape_block {bs : List Bk} (h : shapeE bs = 0) {k : Nat} {b : Bk} (hb : bs[k]? = some b) : blockE bs (defsF (bs.take k)) b = 0 := by
  have h1 := firstR_zero.1 h k (List.getElem?_eq_some_iff.1 hb).1
  rwa [List.getD_eq_getElem?_getD, hb] at h1
theorem block_zero {bs : List Bk} {seen : List Int} {b : Bk} (h : blockE bs seen b = 0) : firstR (paramE seen b.params) b.params.length = 0 ∧ firstR (insE (seen ++ b.params) b.ins) b.ins.length = 0 ∧ termE bs b.term = 0 := by
  unfold blockE at h
  split at h
  · rename_i h1; exact absurd h h1
  · split at h
    · rename_i h1 h2; exact absurd h h2
    · rename_i h1 h2; exact ⟨Classical.not_not.1 h1, Classical.not_not.1 h2, h⟩
theorem term_zero {bs : List Bk} {t : Tm} (h : termE bs t = 0) : shapeT t = true ∧ t.cases.length ≤ 256 ∧ (t.kind = 4 → 1 ≤ t.n ∧ t.n ≤ 6) ∧ firstR (caseE t.cases) t.cases.length = 0 ∧ ∀ e ∈ t.to_, edgeE bs e = 0 := by
  unfold termE at h
  split at h
  · cases h
  · rename_i h1
    split at h
    · cases h
    · rename_i h2
      split at h
      · cases h
      · rename_i h3
        split at h
        · rename_i h4; exact absurd h h4
        · rename_i h4
          refine ⟨by simpa using h1, by omega, fun hk => ?_, Classical.not_not.1 h4, firstE_zero.1 h⟩
          apply Classical.byContradiction
          intro hn
          exact h3 ⟨hk, hn⟩
theorem edge_zero {bs : List Bk} {e : Ed} (h : edgeE bs e = 0) : 1 ≤ e.block ∧ e.block < (bs.length : Int) ∧ e.args.length = (bs.getD e.block.toNat noB).params.length := by
  unfold edgeE at h
  split at h
  · cases h
  · rename_i h1
    split at h
    · cases h
    · rename_i h2
      exact ⟨by omega, by omega, Classical.not_not.1 h2⟩
theorem def_zero {v : Int} {l : List Int} (h : defE v l = 0) : 0 ≤ v ∧ v ≤ 4095 ∧ ¬ v ∈ l := by
  unfold defE at h
  split at h
  · cases h
  · rename_i h1
    split at h
    · cases h
    · rename_i h2
      exact ⟨by omega, by omega, h2⟩
theorem nodup_more : ∀ {ps seen : List Int}, (∀ (j : Nat) v, ps[j]? = some v → ¬ v ∈ seen ++ ps.take j) → seen.Nodup → (seen ++ ps).Nodup
  | [], seen, _, hs => by simpa using hs
  | p :: ps, seen, h, hs => by
    have h0 := h 0 p rfl
    simp only [List.take_zero, List.append_nil] at h0
    have h1 : (seen ++ [p]).Nodup := by
      rw [List.nodup_append]
      refine ⟨hs, by simp, fun a ha b hb => ?_⟩
      obtain rfl : b = p := by simpa using hb
      rintro rfl
      exact h0 ha
    have h2 := nodup_more (ps := ps) (seen := seen ++ [p]) (fun j v hv hm => h (j + 1) v (by simpa using hv) (by simpa using hm)) h1
    simpa using h2
theorem block_nodup {bs : List Bk} {seen : List Int} {b : Bk} (h : blockE bs seen b = 0) (hs : seen.Nodup) : (seen ++ defsB b).Nodup := by
  obtain ⟨h1, h2, _⟩ := block_zero h
  have h3 : (seen ++ b.params).Nodup := nodup_more (fun j v hv => by
    have h4 := firstR_zero.1 h1 j (List.getElem?_eq_some_iff.1 hv).1
    rw [paramE_at hv] at h4
    exact (def_zero h4).2.2) hs
  have h5 : ((seen ++ b.params) ++ b.ins.map In.to_).Nodup := nodup_more (fun j v hv => by
    rw [List.getElem?_map] at hv
    obtain ⟨i, hi, rfl⟩ := Option.map_eq_some_iff.1 hv
    have h4 := firstR_zero.1 h2 j (List.getElem?_eq_some_iff.1 hi).1
    rw [insE_at hi] at h4
    split at h4
    · rename_i h6; exact absurd h4 h6
    · rename_i h6
      rw [← List.map_take]
      exact (def_zero (Classical.not_not.1 h6)).2.2) h3
  unfold defsB
  rwa [← List.append_assoc]
theorem defs_nodup_take {bs : List Bk} (h : shapeE bs = 0) : ∀ k, k ≤ bs.length → (defsF (bs.take k)).Nodup
  | 0, _ => by simp [defsF]
  | k + 1, hk => by
    have hb : bs[k]? = some bs[k] := List.getElem?_eq_getElem (by omega)
    rw [List.take_add_one, hb, Option.toList_some]
    unfold defsF
    rw [List.flatMap_append]
    have h1 := block_nodup (shape_block h hb) (defs_nodup_take h k (by omega))
    simpa [defsF] using h1
theorem defs_nodup {bs : List Bk} (h : shapeE bs = 0) : (defsF bs).Nodup := by
  have := defs_nodup_take h bs.length (Nat.le_refl _)
  rwa [List.take_length] at this
theorem plget_iff {bs : List Bk} (h : shapeE bs = 0) {v : Int} {b a : Nat} : plget (plF bs 0) v = some (b, a) ↔ DefAt bs v b a := by
  constructor
  · intro hp
    obtain ⟨m, h1, h2⟩ := plF_mem.1 (plget_mem hp)
    obtain rfl : b = m := by omega
    exact h2
  · intro hd
    exact plget_of (by rw [plF_keys]; exact defs_nodup h) (plF_mem.2 ⟨b, by omega, hd⟩)
theorem shape_edges {bs : List Bk} (h : shapeE bs = 0) : ∀ b ∈ bs, ∀ e ∈ b.term.to_, 1 ≤ e.block ∧ e.block < (bs.length : Int) := fun b hb e he => by
  obtain ⟨k, hk⟩ := List.getElem?_of_mem hb
  have h1 := edge_zero ((term_zero (block_zero (shape_block h hk)).2.2).2.2.2.2 e he)
  exact ⟨h1.1, h1.2.1⟩
theorem shape_kind {t : Tm} (h : shapeT t = true) : 0 ≤ t.kind ∧ t.kind ≤ 4 := by
  unfold shapeT at h
  split at h
  · omega
  · split at h
    · omega
    · split at h
      · omega
      · split at h
        · omega
        · split at h
          · omega
          · cases h
/-! ### uses -/
theorem fineB_iff {bs : List Bk} (h : shapeE bs = 0) {O : List BS} {S : BS} (hd : DI (graphB bs) O S) (hf : DFix (graphB bs) O S) {k at_ : Nat} (hk : k < bs.length) {v : Int} : fineB (plF bs 0) O S k at_ v = true ↔ Fine bs v k at_ := by
  have hgl : (graphB bs).length = bs.length := by simp [graphB]
  have hseen := hd.seen hf (b := k) (by omega)
  have hOk : O[k]? = some (O.getD k (0, 0)) := by
    have : k < O.length := by rw [hd.len]; omega
    rw [List.getD_eq_getElem?_getD, List.getElem?_eq_getElem this]
    rfl
  have key : ∀ b a, b < bs.length → (((decide (b = k) && decide (a ≤ at_)) || (decide (b ≠ k) && hasS (O.getD k (0, 0)) b) || !hasS S k) = true ↔ ((b = k ∧ a ≤ at_) ∨ (b ≠ k ∧ Ovr (graphB bs) b k) ∨ ¬ Rc (graphB bs) (-1) k)) := fun b a hb => by
    by_cases hr : Rc (graphB bs) (-1) k
    · have ho := hd.over hf (a := b) (b := k) (by omega) hOk hr
      rw [hseen.2 hr]
      simp only [Bool.or_eq_true, Bool.and_eq_true, decide_eq_true_eq, Bool.not_true, Bool.false_eq_true, or_false, ho]
      constructor
      · rintro (h | h)
        · exact .inl h
        · exact .inr (.inl h)
      · rintro (h | h | h)
        · exact .inl h
        · exact .inr h
        · exact absurd hr h
    · have : hasS S k = false := by
        cases hh : hasS S k with
        | false => rfl
        | true => exact absurd (hseen.1 hh) hr
      rw [this]
      simp [hr]
  unfold fineB
  cases hp : plget (plF bs 0) v with
  | none =>
    simp only [Bool.false_eq_true, false_iff]
    rintro ⟨b, a, h1, _⟩
    rw [(plget_iff h).2 h1] at hp
    cases hp
  | some p =>
    obtain ⟨b, a⟩ := p
    have h1 := (plget_iff h).1 hp
    have hb : b < bs.length := by obtain ⟨x, hx, _⟩ := h1; exact (List.getElem?_eq_some_iff.1 hx).1
    simp only
    rw [key b a hb]
    constructor
    · intro h2; exact ⟨b, a, h1, h2⟩
    · rintro ⟨b', a', h3, h4⟩
      have h5 := (plget_iff h).2 h3
      rw [hp] at h5
      obtain ⟨rfl, rfl⟩ := Prod.mk.inj (Option.some.inj h5)
      exact h4
def UsesW (g : Nat → Nat → Int → Bool) (k : Nat) (b : Bk) : Prop := (∀ (n : Nat) i, b.ins[n]? = some i → ∀ v ∈ i.args, g k n v = true) ∧ ∀ v ∈ operT b.term, g k b.ins.length v = true
end Go.Ss
namespace Go.Proofs.Ytehelljmaiophaa.ss
set_option linter.unusedVariables false
set_option linter.unusedSimpArgs false
set_option maxRecDepth 100000
open Go.Eng Go.RowKit Go.Ss
set_option linter.unusedVariables false
set_option linter.unusedSimpArgs false
theorem uses_calls (s0 : World) (bc bm : Nat) (nm : Int) (es : List (Bk × BkY)) (q : Option Addr) (cap : Nat) (he : Arr bkR s0 (low s0) es q) (h0 : 0 < es.length) (hlen : es.length ≤ 128) (hsh : shapeE (es.map Prod.fst) = 0) (H : List Eng.Item) (w : World) (hno : ∀ k, k < s0.heap.size → NotOwned H k) (hbc : s0.heap.size ≤ bc) (hbm : s0.heap.size ≤ bm)
    (hc : Cls (blk bc 124 [.int .i64 nm, .slice q es.length cap, .map (some bm)] :: mapI bm (plM (plF (es.map Prod.fst) 0)) :: H) [s0] w) :
    Calls Try.prog 80 [.pointer (some ⟨bc, 0, none⟩)].toArray w fun e w' => ∃ r : Int, e = .returned (.int .i64 r) ∧ (r = 0 ∨ r = 6) ∧ (r = 0 ↔ ∀ (k : Nat) b, (es.map Prod.fst)[k]? = some b → UsesB (es.map Prod.fst) k b) ∧ Cls H [s0] w' := by
  obtain ⟨bs, hbs⟩ : ∃ bs, es.map Prod.fst = bs := ⟨_, rfl⟩
  have hbl : bs.length = es.length := by rw [← hbs, List.length_map]
  rw [hbs] at hc hsh ⊢
  have hgl : (graphB bs).length = es.length := by simp [graphB, hbl]
  obtain ⟨X, hX, hc⟩ := hc.mapX_of (p := 1) Hole.au
  refine enter Try.func80 rfl Try.ntmps80 rfl hc ?_
  (simp only [argEnv, Nat.zero_add, Nat.reduceAdd])
  apply W.sr
  apply OL.box; rfl; rfl; exact CellsL.one rfl; (intro bk hbk; simp only [AllLe, and_true] at hbk)
  apply oas; rfl; rfl
  apply OL.nsr
  apply old; rfl; rfl; exact .head _; rfl; rfl
  apply oop; rfl; apply Pev.nil_ptr; rfl; exact yes
  apply ofa; rfl; rfl; rfl
  apply oop; rfl; apply Pev.load_blkA; rfl; exact yes; exact .tail _ (.head _); rfl; exact Take.au
  revert bk
  intro bp hbp
  have hbp1 : s0.heap.size ≤ bp := by first | exact hbp | exact hbp.1
  refine OL.callE (α := Nat × List BS × BS) (fun z => .tuple #[.slice (some ⟨z.1, 0, none⟩) es.length es.length, .agg (setC z.2.2).toArray]) (fun z => s0.heap.size ≤ z.1 ∧ DI (graphB bs) z.2.1 z.2.2 ∧ DFix (graphB bs) z.2.1 z.2.2) (fun z => Cls (blk z.1 174 (cat setC z.2.1) :: blk bp 121 [.pointer (some ⟨bc, 0, none⟩)] :: blk bc 124 [.int .i64 nm, .slice q es.length cap, .map (some bm)] :: mapX bm X.1 X.2 :: H) [s0]) rfl rfl (by exact Args.au) (fun w2 hw2 => (dominators_calls es q cap nm w2 (he.at hw2 (by exact mau) (fun k hk => by exact NotOwned.au)) h0 hlen (fun p hp e hpe => by rw [← hbl]; exact shape_edges hsh p.1 (by rw [← hbs]; exact List.mem_map_of_mem hp) e hpe)).mono fun e w3 ⟨bO, O, S, h1, h2, h3, h4, h5, h6⟩ => ⟨(bO, O, S), h1, ⟨Nat.le_trans (hw2.kp s0 (by exact mau)).size h5, by rw [hbs] at h3; exact h3, by rw [hbs] at h4; exact h4⟩, hw2.add h2 _ h6 (fun k hk => by rw [show k = bO from hk]; exact ⟨h5, blk_lt h6⟩)⟩) ?_
  rintro ⟨bO, O, S⟩ ⟨hbO, hd, hf⟩
  simp only at hbO hd hf ⊢
  apply omv; rfl; rfl
  apply oex; rfl; rfl; rfl
  apply oex; rfl; rfl; rfl
  apply OL.alloc; rfl; rfl; exact CellsL.one rfl; (intro bk hbk; simp only [AllLe, and_true] at hbk)
  apply OL.alloc; rfl; rfl; exact CellsL.agg; (intro bk hbk; simp only [AllLe, and_true] at hbk)
  apply OL.storeB; rfl; rfl; exact CellsL.one rfl; rfl; rfl; rfl; exact Swap.au; exact Put.au
  apply OL.storeB; rfl; rfl; exact CellsL.agg; rfl; rfl; rfl; exact Swap.au; exact Put.au
  apply OL.nx
  apply W.seq
  apply W.sr
  apply old; rfl; rfl; apply List.Mem.tail; exact .tail _ (.tail _ (.head _)); rfl; rfl
  apply oop; rfl; apply Pev.nil_ptr; rfl; exact yes
  apply ofa; rfl; rfl; rfl
  apply ofa; rfl; rfl; rfl
  apply old; rfl; rfl; apply List.Mem.tail; apply List.Mem.tail; exact .tail _ (.tail _ (.head _)); rfl; rfl
  apply oop; rfl; apply Pev.len_slice; rfl; exact yes; rfl
  apply omv; rfl; rfl
  apply OL.nx
  apply W.block
  rename_i bo hbo
  revert bk
  intro bs_ hbs_
  have hbo1 : s0.heap.size ≤ bo := by first | exact hbo | exact hbo.1
  have hbs1 : s0.heap.size ≤ bs_ := by first | exact hbs_ | exact hbs_.1
  have hOl : O.length = es.length := by rw [hd.len, hgl]
  have hpb : ∀ v b a, plget (plF bs 0) v = some (b, a) → b < O.length := fun v b a hp => by
    obtain ⟨x, hx, _⟩ := (plget_iff hsh).1 hp
    have := (List.getElem?_eq_some_iff.1 hx).1
    omega
  obtain ⟨g, hg⟩ : ∃ g, fineB (plF bs 0) O S = g := ⟨_, rfl⟩
  have hfin : ∀ (k : Nat) b, bs[k]? = some b → (UsesB bs k b ↔ UsesW g k b) := fun k b hb => by
    have hk : k < bs.length := (List.getElem?_eq_some_iff.1 hb).1
    unfold UsesB UsesW
    rw [← hg]
    constructor
    · rintro ⟨h1, h2⟩
      exact ⟨fun n i hi v hv => (fineB_iff hsh hd hf hk).2 (h1 n i hi v hv), fun v hv => (fineB_iff hsh hd hf hk).2 (h2 v hv)⟩
    · rintro ⟨h1, h2⟩
      exact ⟨fun n i hi v hv => (fineB_iff hsh hd hf hk).1 (h1 n i hi v hv), fun v hv => (fineB_iff hsh hd hf hk).1 (h2 v hv)⟩
  have hbad : ∀ (k : Nat) b, bs[k]? = some b → ¬ UsesW g k b → ((6 : Int) = 0 ↔ ∀ (k : Nat) b, bs[k]? = some b → UsesB bs k b) := fun k b hb hn => ⟨fun h => by omega, fun h => absurd ((hfin k b hb).1 (h k b hb)) hn⟩
  refine W.loop (G := Nat) (fun k => k ≤ es.length ∧ ∀ (k' : Nat) b, k' < k → bs[k']? = some b → UsesW g k' b) (fun k => es.length - k)
    (fun k => [(1, true, .pointer (some ⟨bp, 0, none⟩)), (3, true, .pointer (some ⟨bo, 0, none⟩)), (4, true, .pointer (some ⟨bs_, 0, none⟩)), (25, true, .slice q es.length cap), (26, true, .int .i64 (es.length : Int)), (27, true, .int .i64 (k : Int))])
    (fun _ => Cls (blk bs_ 174 (setC S) :: blk bo 171 [.slice (some ⟨bO, 0, none⟩) es.length es.length] :: blk bO 174 (cat setC O) :: blk bp 121 [.pointer (some ⟨bc, 0, none⟩)] :: blk bc 124 [.int .i64 nm, .slice q es.length cap, .map (some bm)] :: mapX bm X.1 X.2 :: H) [s0]) 0 ⟨by omega, fun k' b h => by omega⟩ (by exact Sub.au) (fun w' hw' => hw') ?_
  rintro k ⟨hk, hk0⟩
  apply W.sr
  apply obn; rfl; rfl; rfl; apply Bin.lss
  apply OL.nx
  apply W.seq
  (refine W.cnd (fun hlt => ?_) (fun hlt => ?_)) <;> (try (exfalso; first | omega | exact hlt trivial | contradiction))
  · have hkl : k < es.length := by omega
    obtain ⟨a, p, hqa, hab, hp, hcell, hok⟩ := he.get hkl
    have hab : a.block < s0.heap.size := hab
    have hcell : CellsAt s0 (a.add (k * 7)) [.slice p.2.p.1 p.1.params.length p.2.p.2, .slice p.2.i.1 p.1.ins.length p.2.i.2, .int .i64 p.1.term.kind, .int .i64 p.1.term.arg, .int .i64 p.1.term.n, .slice p.2.t.c.1 p.1.term.cases.length p.2.t.c.2, .slice p.2.t.t.1 p.1.term.to_.length p.2.t.t.2] := hcell
    have hbsk : bs[k]? = some p.1 := by rw [← hbs, List.getElem?_map, hp]; rfl
    have hil := hok.il
    obtain ⟨pi, hpi, hiarr⟩ := hok.i
    have hpil : p.1.ins.length = pi.length := by rw [← hpi, List.length_map]
    have hkind := shape_kind (term_zero (block_zero (shape_block hsh hbsk)).2.2).1
    subst hqa
    apply W.sk
    apply W.sb
    apply W.sr
    apply omv; rfl; rfl
    apply oop; rfl; apply Pev.idx; rfl; exact yes; rfl; exact yes; rfl; rfl; intro hcond; omega
    apply oop; rfl; apply Pev.load_keptA; rfl; exact yes; exact .head _; rfl; intro hcond; assumption; rfl; intro hcond; (rw [add_block]; assumption); intro hcond; exact NotOwned.au
    apply OL.alloc; rfl; rfl; exact CellsL.one rfl; (intro bk hbk; simp only [AllLe, and_true] at hbk)
    apply OL.alloc; rfl; rfl; exact CellsL.agg; (intro bk hbk; simp only [AllLe, and_true] at hbk)
    apply OL.storeB; rfl; rfl; exact CellsL.one rfl; rfl; rfl; rfl; exact Swap.au; exact Put.au
    apply OL.storeB; rfl; rfl; exact CellsL.agg; rfl; rfl; rfl; exact Swap.au; exact Put.au
    apply OL.nsr
    apply OL.alloc; rfl; rfl; exact CellsL.one rfl; (intro bk hbk; simp only [AllLe, and_true] at hbk)
    apply OL.storeB; rfl; rfl; exact CellsL.one rfl; rfl; rfl; rfl; exact Swap.au; exact Put.au
    apply OL.nsr
    apply oop; rfl; apply Pev.makeFunc; exact Args.au; exact Args.au
    apply oas; rfl; rfl
    apply OL.nx
    apply W.seq
    apply W.sr
    apply ofa; rfl; rfl; rfl
    apply old; rfl; rfl; exact .tail _ (.head _); rfl; rfl
    apply oop; rfl; apply Pev.len_slice; rfl; exact yes; rfl
    apply omv; rfl; rfl
    apply OL.nx
    apply W.block
    rename_i b5 hb5 b6 hb6
    revert bk
    intro b7 hb7
    have hb51 : s0.heap.size ≤ b5 := by first | exact hb5 | exact hb5.1
    have hb61 : s0.heap.size ≤ b6 := by first | exact hb6 | exact hb6.1
    have hb71 : s0.heap.size ≤ b7 := by first | exact hb7 | exact hb7.1
    refine W.loop (G := Nat × Int) (fun z => z.1 ≤ p.1.ins.length ∧ ∀ (n : Nat) i, n < z.1 → p.1.ins[n]? = some i → ∀ v ∈ i.args, g k n v = true) (fun z => p.1.ins.length - z.1)
      (fun z => [(1, true, .pointer (some ⟨bp, 0, none⟩)), (3, true, .pointer (some ⟨bo, 0, none⟩)), (4, true, .pointer (some ⟨bs_, 0, none⟩)), (6, true, .pointer (some ⟨b6, 0, none⟩)), (7, true, .pointer (some ⟨b7, 0, none⟩)), (8, true, .func (.func 122) ([] : List Value).toArray [.pointer (some ⟨bp, 0, none⟩), .pointer (some ⟨b5, 0, none⟩), .pointer (some ⟨b7, 0, none⟩), .pointer (some ⟨bo, 0, none⟩), .pointer (some ⟨bs_, 0, none⟩)].toArray), (25, true, .slice (some a) es.length cap), (26, true, .int .i64 (es.length : Int)), (27, true, .int .i64 (k : Int)), (34, true, .slice p.2.i.1 p.1.ins.length p.2.i.2), (35, true, .int .i64 (p.1.ins.length : Int)), (36, true, .int .i64 (z.1 : Int))])
      (fun z => Cls (blk b7 3 [.int .i64 z.2] :: blk b6 41 [.slice p.2.p.1 p.1.params.length p.2.p.2, .slice p.2.i.1 p.1.ins.length p.2.i.2, .int .i64 p.1.term.kind, .int .i64 p.1.term.arg, .int .i64 p.1.term.n, .slice p.2.t.c.1 p.1.term.cases.length p.2.t.c.2, .slice p.2.t.t.1 p.1.term.to_.length p.2.t.t.2] :: blk b5 3 [.int .i64 (k : Int)] :: blk bs_ 174 (setC S) :: blk bo 171 [.slice (some ⟨bO, 0, none⟩) es.length es.length] :: blk bO 174 (cat setC O) :: blk bp 121 [.pointer (some ⟨bc, 0, none⟩)] :: blk bc 124 [.int .i64 nm, .slice (some a) es.length cap, .map (some bm)] :: mapX bm X.1 X.2 :: H) [s0]) (0, 0) ⟨by omega, fun n i h => by omega⟩ (by exact Sub.au) (fun w' hw' => hw') ?_
    rintro ⟨n, z⟩ ⟨hn, hn0⟩
    simp only at hn hn0 ⊢
    apply W.sr
    apply obn; rfl; rfl; rfl; apply Bin.lss
    apply OL.nx
    apply W.seq
    (refine W.cnd (fun hlt2 => ?_) (fun hlt2 => ?_)) <;> (try (exfalso; first | omega | exact hlt2 trivial | contradiction))
    · have hnl : n < p.1.ins.length := by omega
      obtain ⟨ai, u, hqi, haib, hu, hcu, hoku⟩ := hiarr.get (show n < pi.length by omega)
      have haib : ai.block < s0.heap.size := haib
      have hcu : CellsAt s0 (ai.add (n * 4)) [.int .i64 u.1.to_, .int .i64 u.1.op, .int .i64 u.1.n, .slice u.2.1 u.1.args.length u.2.2] := hcu
      have hui : p.1.ins[n]? = some u.1 := by rw [← hpi, List.getElem?_map, hu]; rfl
      have hual := hoku.al
      rw [hqi]
      apply W.sk
      apply W.sb
      apply W.sr
      apply omv; rfl; rfl
      apply oop; rfl; apply Pev.idx; rfl; exact yes; rfl; exact yes; rfl; rfl; intro hcond; omega
      apply oop; rfl; apply Pev.load_keptA; rfl; exact yes; exact .head _; rfl; intro hcond; assumption; rfl; intro hcond; (rw [add_block]; assumption); intro hcond; exact NotOwned.au
      apply OL.alloc; rfl; rfl; exact CellsL.agg; (intro bk hbk; simp only [AllLe, and_true] at hbk)
      apply oas; rfl; rfl
      apply OL.storeB; rfl; rfl; exact CellsL.agg; rfl; rfl; rfl; exact Swap.au; exact Put.au
      apply OL.nsr
      apply omv; rfl; rfl
      apply OL.storeB; rfl; rfl; exact CellsL.one rfl; rfl; rfl; rfl; exact Swap.au; exact Put.au
      apply OL.nsr
      apply ofa; rfl; rfl; rfl
      apply old; rfl; rfl; exact .head _; rfl; rfl
      apply oop; rfl; apply Pev.len_slice; rfl; exact yes; rfl
      apply omv; rfl; rfl
      apply OL.nx
      apply W.block
      revert bk
      intro b10 hb10
      have hb101 : s0.heap.size ≤ b10 := by first | exact hb10 | exact hb10.1
      refine W.loop (G := Nat) (fun i => i ≤ u.1.args.length ∧ ∀ (m : Nat) v, m < i → u.1.args[m]? = some v → g k n v = true) (fun i => u.1.args.length - i)
        (fun i => [(1, true, .pointer (some ⟨bp, 0, none⟩)), (3, true, .pointer (some ⟨bo, 0, none⟩)), (4, true, .pointer (some ⟨bs_, 0, none⟩)), (6, true, .pointer (some ⟨b6, 0, none⟩)), (7, true, .pointer (some ⟨b7, 0, none⟩)), (8, true, .func (.func 122) ([] : List Value).toArray [.pointer (some ⟨bp, 0, none⟩), .pointer (some ⟨b5, 0, none⟩), .pointer (some ⟨b7, 0, none⟩), .pointer (some ⟨bo, 0, none⟩), .pointer (some ⟨bs_, 0, none⟩)].toArray), (25, true, .slice (some a) es.length cap), (26, true, .int .i64 (es.length : Int)), (27, true, .int .i64 (k : Int)), (34, true, .slice (some ai) p.1.ins.length p.2.i.2), (35, true, .int .i64 (p.1.ins.length : Int)), (36, true, .int .i64 (n : Int)), (43, true, .slice u.2.1 u.1.args.length u.2.2), (44, true, .int .i64 (u.1.args.length : Int)), (45, true, .int .i64 (i : Int))])
        (fun i => Cls (blk b7 3 [.int .i64 (n : Int)] :: blk b6 41 [.slice p.2.p.1 p.1.params.length p.2.p.2, .slice (some ai) p.1.ins.length p.2.i.2, .int .i64 p.1.term.kind, .int .i64 p.1.term.arg, .int .i64 p.1.term.n, .slice p.2.t.c.1 p.1.term.cases.length p.2.t.c.2, .slice p.2.t.t.1 p.1.term.to_.length p.2.t.t.2] :: blk b5 3 [.int .i64 (k : Int)] :: blk bs_ 174 (setC S) :: blk bo 171 [.slice (some ⟨bO, 0, none⟩) es.length es.length] :: blk bO 174 (cat setC O) :: blk bp 121 [.pointer (some ⟨bc, 0, none⟩)] :: blk bc 124 [.int .i64 nm, .slice (some a) es.length cap, .map (some bm)] :: mapX bm X.1 X.2 :: H) [s0]) 0 ⟨by omega, fun m v h => by omega⟩ (by exact Sub.au) (fun w' hw' => hw'.thin (.any (fun k hk => by rw [show k = b10 from hk]; exact ⟨hb101, trivial⟩) Thin.same)) ?_
      rintro i ⟨hi, hi0⟩
      apply W.sr
      apply obn; rfl; rfl; rfl; apply Bin.lss
      apply OL.nx
      apply W.seq
      (refine W.cnd (fun hlt3 => ?_) (fun hlt3 => ?_)) <;> (try (exfalso; first | omega | exact hlt3 trivial | contradiction))
      · have hil2 : i < u.1.args.length := by omega
        obtain ⟨av, v, hqv, habv, hv, hcv⟩ := hoku.a.get hil2
        have habv : av.block < s0.heap.size := habv
        rw [hqv]
        apply W.sk
        apply W.sb
        apply W.sr
        apply oop; rfl; apply Pev.idx; rfl; exact yes; rfl; exact yes; rfl; rfl; intro hcond; omega
        apply oop; rfl; apply Pev.load_kept; rfl; exact yes; exact .head _; rfl; intro hcond; assumption; intro hcond; (rw [add_block]; assumption); intro hcond; exact NotOwned.au
        apply oas; rfl; rfl
        apply OL.nsr
        apply omv; rfl; rfl
        apply omv; rfl; rfl
        (((first | (with_reducible apply OL.op) | (with_reducible apply QL.op)); (exact Guard.au); rfl; rfl); (exact Pev.callv (v := .bool (g k n v)) (first := []) (cap := [.pointer (some ⟨bp, 0, none⟩), .pointer (some ⟨b5, 0, none⟩), .pointer (some ⟨b7, 0, none⟩), .pointer (some ⟨bo, 0, none⟩), .pointer (some ⟨bs_, 0, none⟩)]) (vs := [.int .i64 v]) rfl (by (first | exact fun _ => rfl | exact fun h => h | (intro h; simp_all; done))) rfl (by exact Args.au) (fun _ w2 hw2 => (fine_calls bp bc bm b5 b7 bo bs_ bO es.length nm (some a) es.length cap X.1 X.2 (plF bs 0) O S k n v w2 hX hOl (by omega) hd.ok hd.sok (by omega) (hpb v) (Cls.only hw2 (.cons_cons _ (.cons _ (.cons_cons _ (.cons_cons _ (.cons_cons _ (.cons_cons _ (.cons_cons _ (.cons_cons _ (.cons_cons _ (List.nil_sublist _)))))))))))).mono (fun e w3 h => ⟨by rw [h.1, hg], hw2.ext h.2⟩))))
        apply oop; rfl; apply Pev.not; rfl; exact yes
        apply OL.nx
        refine W.cond rfl (fun h3 => ?_) (fun h3 => ?_)
        · have hfa : g k n v = false := by simpa using h3
          apply W.sr
          apply oas; rfl; rfl
          apply OL.nx
          refine W.rt ?_
          ((with_reducible apply At.fin1); rfl; rfl; intro w' hw')
          exact ⟨6, rfl, .inr rfl, hbad k p.1 hbsk (fun hh => by have := hh.1 n u.1 hui v (List.mem_of_getElem? hv); rw [this] at hfa; cases hfa), hw'.thin (.any (fun k hk => by rw [show k = b7 from hk]; exact ⟨hb71, trivial⟩) (.any (fun k hk => by rw [show k = b6 from hk]; exact ⟨hb61, trivial⟩) (.any (fun k hk => by rw [show k = b5 from hk]; exact ⟨hb51, trivial⟩) (.any (fun k hk => by rw [show k = bs_ from hk]; exact ⟨hbs1, trivial⟩) (.any (fun k hk => by rw [show k = bo from hk]; exact ⟨hbo1, trivial⟩) (.any (fun k hk => by rw [show k = bO from hk]; exact ⟨hbO, trivial⟩) (.any (fun k hk => by rw [show k = bp from hk]; exact ⟨hbp1, trivial⟩) (.any (fun k hk => by rw [show k = bc from hk]; exact ⟨hbc, trivial⟩) (.any (fun k hk => by rw [show k = bm from hk]; exact ⟨hbm, trivial⟩) Thin.same)))))))))⟩
        · have htr : g k n v = true := by simpa using h3
          apply W.skip
          with_reducible apply At.in_normal
          with_reducible apply At.next
          apply W.reg
          apply obn; rfl; rfl; rfl; apply Bin.add_in; omega
          apply omv; rfl; rfl
          apply OL.nil
          refine At.again (i + 1) ⟨by omega, fun m v' hm hv' => ?_⟩ (by omega) (by exact Sub.au) (fun w' hw' => hw')
          by_cases em : m = i
          · subst em
            rw [hv] at hv'
            obtain rfl := Option.some.inj hv'
            exact htr
          · exact hi0 m v' (by omega) hv'
      · obtain rfl : i = u.1.args.length := by omega
        refine W.xt ?_
        with_reducible apply At.in_normal
        with_reducible apply At.next
        apply W.reg
        apply obn; rfl; rfl; rfl; apply Bin.add_in; omega
        apply omv; rfl; rfl
        apply OL.nil
        refine At.again (n + 1, (n : Int)) ⟨by simp only; omega, fun m i' hm hi' v hv => ?_⟩ (by simp only; omega) (by exact Sub.au) (fun w' hw' => hw')
        simp only at hm
        by_cases em : m = n
        · subst em
          rw [hui] at hi'
          obtain rfl := Option.some.inj hi'
          obtain ⟨m2, hm2⟩ := List.getElem?_of_mem hv
          exact hi0 m2 v (List.getElem?_eq_some_iff.1 hm2).1 hm2
        · exact hn0 m i' (by omega) hi' v hv
    · obtain rfl : n = p.1.ins.length := by omega
      refine W.xt ?_
      with_reducible apply At.next
      apply W.sr
      apply ofa; rfl; rfl; rfl
      apply old; rfl; rfl; exact .tail _ (.head _); rfl; rfl
      apply oop; rfl; apply Pev.len_slice; rfl; exact yes; rfl
      apply OL.storeB; rfl; rfl; exact CellsL.one rfl; rfl; rfl; rfl; exact Swap.au; exact Put.au
      apply OL.nsr
      apply ofa; rfl; rfl; rfl
      apply oop; rfl; apply Pev.load_blkA; rfl; exact yes; exact .tail _ (.head _); rfl; exact Take.au
      apply omv; rfl; rfl
      (((first | (with_reducible apply OL.op) | (with_reducible apply QL.op)); (exact Guard.au); rfl; rfl); (exact Pev.call (v := .bool ((operT p.1.term).all (g k p.1.ins.length))) rfl (by exact Args.au) (fun _ w2 hw2 => (used_calls p.1.term p.2.t 122 [] [.pointer (some ⟨bp, 0, none⟩), .pointer (some ⟨b5, 0, none⟩), .pointer (some ⟨b7, 0, none⟩), .pointer (some ⟨bo, 0, none⟩), .pointer (some ⟨bs_, 0, none⟩)] (g k p.1.ins.length) w2 (TmOk.at hok.t hw2 (by exact mau) (fun k hk => by exact NotOwned.au)) hkind rfl (fun v hv w9 hx9 => (fine_calls bp bc bm b5 b7 bo bs_ bO es.length nm (some a) es.length cap X.1 X.2 (plF bs 0) O S k p.1.ins.length v w9 hX hOl (by omega) hd.ok hd.sok (by omega) (hpb v) (Cls.only (hw2.ext hx9) (.cons_cons _ (.cons _ (.cons_cons _ (.cons_cons _ (.cons_cons _ (.cons_cons _ (.cons_cons _ (.cons_cons _ (.cons_cons _ (List.nil_sublist _)))))))))))).mono (fun e w3 h => ⟨by rw [h.1, hg], h.2⟩))).mono (fun e w3 h => ⟨h.1, hw2.ext h.2⟩))))
      apply oop; rfl; apply Pev.not; rfl; exact yes
      apply OL.nx
      refine W.cond rfl (fun h3 => ?_) (fun h3 => ?_)
      · have hfa : (operT p.1.term).all (g k p.1.ins.length) = false := by simpa using h3
        apply W.sr
        apply oas; rfl; rfl
        apply OL.nx
        refine W.rt ?_
        ((with_reducible apply At.fin1); rfl; rfl; intro w' hw')
        exact ⟨6, rfl, .inr rfl, hbad k p.1 hbsk (fun hh => by have := List.all_eq_true.2 hh.2; rw [this] at hfa; cases hfa), hw'.thin (.any (fun k hk => by rw [show k = b7 from hk]; exact ⟨hb71, trivial⟩) (.any (fun k hk => by rw [show k = b6 from hk]; exact ⟨hb61, trivial⟩) (.any (fun k hk => by rw [show k = b5 from hk]; exact ⟨hb51, trivial⟩) (.any (fun k hk => by rw [show k = bs_ from hk]; exact ⟨hbs1, trivial⟩) (.any (fun k hk => by rw [show k = bo from hk]; exact ⟨hbo1, trivial⟩) (.any (fun k hk => by rw [show k = bO from hk]; exact ⟨hbO, trivial⟩) (.any (fun k hk => by rw [show k = bp from hk]; exact ⟨hbp1, trivial⟩) (.any (fun k hk => by rw [show k = bc from hk]; exact ⟨hbc, trivial⟩) (.any (fun k hk => by rw [show k = bm from hk]; exact ⟨hbm, trivial⟩) Thin.same)))))))))⟩
      · have htr : (operT p.1.term).all (g k p.1.ins.length) = true := by simpa using h3
        apply W.skip
        with_reducible apply At.in_normal
        with_reducible apply At.next
        apply W.reg
        apply obn; rfl; rfl; rfl; apply Bin.add_in; omega
        apply omv; rfl; rfl
        apply OL.nil
        refine At.again (k + 1) ⟨by omega, fun k' b hk' hb' => ?_⟩ (by omega) (by exact Sub.au) (fun w' hw' => hw'.thin (.any (fun k hk => by rw [show k = b7 from hk]; exact ⟨hb71, trivial⟩) (.any (fun k hk => by rw [show k = b6 from hk]; exact ⟨hb61, trivial⟩) (.any (fun k hk => by rw [show k = b5 from hk]; exact ⟨hb51, trivial⟩) Thin.same))))
        by_cases em : k' = k
        · subst em
          rw [hbsk] at hb'
          obtain rfl := Option.some.inj hb'
          exact ⟨fun n i hi v hv => hn0 n i (List.getElem?_eq_some_iff.1 hi).1 hi v hv, List.all_eq_true.1 htr⟩
        · exact hk0 k' b (by omega) hb'
  · obtain rfl : k = es.length := by omega
    refine W.xt ?_
    with_reducible apply At.next
    apply W.sr
    apply oas; rfl; rfl
    apply OL.nx
    apply W.ret
    ((with_reducible apply At.fin1); rfl; rfl; intro w' hw')
    exact ⟨0, rfl, .inl rfl, ⟨fun _ k b hb => (hfin k b hb).2 (hk0 k b (by have := (List.getElem?_eq_some_iff.1 hb).1; omega) hb), fun _ => rfl⟩, hw'.thin (.any (fun k hk => by rw [show k = bs_ from hk]; exact ⟨hbs1, trivial⟩) (.any (fun k hk => by rw [show k = bo from hk]; exact ⟨hbo1, trivial⟩) (.any (fun k hk => by rw [show k = bO from hk]; exact ⟨hbO, trivial⟩) (.any (fun k hk => by rw [show k = bp from hk]; exact ⟨hbp1, trivial⟩) (.any (fun k hk => by rw [show k = bc from hk]; exact ⟨hbc, trivial⟩) (.any (fun k hk => by rw [show k = bm from hk]; exact ⟨hbm, trivial⟩) Thin.same))))))⟩
theorem CheckFunc_calls (fn : Go.Ss.Fn) (y : FnY) (w : World) (hfn : FnOk w (low w) fn y) :
    Calls Try.prog 30 [.agg (fnC fn y).toArray].toArray w fun e w' => e = .returned (.int .i64 (funcE fn)) ∧ Ext w w' := by
  obtain ⟨es, hes, he⟩ := hfn.b
  obtain ⟨nm, bs⟩ := fn
  obtain ⟨q, cap⟩ := y
  have hbl := hfn.bl
  simp only at hes he hbl
  have hbl2 : bs.length = es.length := by rw [← hes, List.length_map]
  refine enter Try.func30 rfl Try.ntmps30 rfl (Cls.start w) ?_
  (simp only [argEnv, Nat.zero_add, Nat.reduceAdd])
  simp only [fnC]
  rw [hbl2]
  apply W.sr
  apply OL.box; rfl; rfl; exact CellsL.agg; (intro bk hbk; simp only [AllLe, and_true] at hbk)
  apply oas; rfl; rfl
  apply OL.nsr
  apply oas; rfl; rfl
  apply OL.nx
  apply W.seq
  apply W.sr
  apply ofa; rfl; rfl; rfl
  apply old; rfl; rfl; exact .head _; rfl; rfl
  apply oop; rfl; apply Pev.len_slice; rfl; exact yes; rfl
  apply omv; rfl; rfl
  apply OL.nx
  apply W.block
  revert bk
  intro bF hbF
  have hbF1 : w.heap.size ≤ bF := by first | exact hbF | exact hbF.1
  refine W.loop (G := Nat × Int) (fun z => z.1 ≤ es.length ∧ (es.length ≤ 128 → z.2 = (insAll (bs.take z.1) : Int)) ∧ insAll (bs.take z.1) ≤ z.1 * 140737488355328) (fun z => es.length - z.1)
    (fun z => [(1, true, .pointer (some ⟨bF, 0, none⟩)), (3, true, .int .i64 z.2), (10, true, .slice q es.length cap), (11, true, .int .i64 (es.length : Int)), (12, true, .int .i64 (z.1 : Int))])
    (fun _ => Cls [blk bF 24 [.int .i64 nm, .slice q es.length cap]] [w]) (0, 0) ⟨by simp, fun _ => by simp [insAll], by simp [insAll]⟩ (by exact Sub.au) (fun w' hw' => hw') ?_
  rintro ⟨k, z⟩ ⟨hk, hz, hz2⟩
  simp only at hk hz hz2 ⊢
  apply W.sr
  apply obn; rfl; rfl; rfl; apply Bin.lss
  apply OL.nx
  apply W.seq
  (refine W.cnd (fun hlt => ?_) (fun hlt => ?_)) <;> (try (exfalso; first | omega | exact hlt trivial | contradiction))
  · have hkl : k < es.length := by omega
    obtain ⟨a, p, hqa, hab, hp, hcell, hok⟩ := he.get hkl
    have hab : a.block < w.heap.size := hab
    have hcell : CellsAt w (a.add (k * 7)) [.slice p.2.p.1 p.1.params.length p.2.p.2, .slice p.2.i.1 p.1.ins.length p.2.i.2, .int .i64 p.1.term.kind, .int .i64 p.1.term.arg, .int .i64 p.1.term.n, .slice p.2.t.c.1 p.1.term.cases.length p.2.t.c.2, .slice p.2.t.t.1 p.1.term.to_.length p.2.t.t.2] := hcell
    have hbsk : bs[k]? = some p.1 := by rw [← hes, List.getElem?_map, hp]; rfl
    have hil := hok.il
    have hins : insAll (bs.take (k + 1)) = insAll (bs.take k) + p.1.ins.length := by
      unfold insAll
      rw [List.take_add_one, hbsk]
      simp
    rw [hqa]
    apply W.sk
    apply W.sb
    apply W.sr
    apply oop; rfl; apply Pev.idx; rfl; exact yes; rfl; exact yes; rfl; rfl; intro hcond; omega
    apply oop; rfl; apply Pev.load_keptA; rfl; exact yes; exact .head _; rfl; intro hcond; assumption; rfl; intro hcond; (rw [add_block]; assumption); intro hcond; exact NotOwned.au
    apply OL.alloc; rfl; rfl; exact CellsL.agg; (intro bk hbk; simp only [AllLe, and_true] at hbk)
    apply OL.storeB; rfl; rfl; exact CellsL.agg; rfl; rfl; rfl; exact Swap.au; exact Put.au
    apply OL.nx
    apply W.reg
    apply omv; rfl; rfl
    apply ofa; rfl; rfl; rfl
    apply old; rfl; rfl; exact .head _; rfl; rfl
    apply oop; rfl; apply Pev.len_slice; rfl; exact yes; rfl
    apply obn; rfl; rfl; rfl; apply Bin.add
    apply oas; rfl; rfl
    apply OL.nil
    with_reducible apply At.in_normal
    with_reducible apply At.next
    apply W.reg
    apply obn; rfl; rfl; rfl; apply Bin.add_in; omega
    apply omv; rfl; rfl
    apply OL.nil
    have hle : es.length ≤ 128 → IntKind.i64.wrap (z + (p.1.ins.length : Int)) = ((insAll (bs.take (k + 1)) : Nat) : Int) := fun h => by
      have h1 := hz h
      rw [IntWalk.i64_in _ (by rw [h1]; omega), h1, hins]
      omega
    refine At.again (k + 1, IntKind.i64.wrap (z + (p.1.ins.length : Int))) ⟨by simp only; omega, hle, by rw [hins]; simp only; omega⟩ (by simp only; omega) (by exact Sub.au) (fun w' hw' => hw'.thin (by exact Thin.au))
  obtain rfl : k = es.length := by omega
  rw [← hbl2, List.take_length] at hz hz2
  refine W.xt ?_
  with_reducible apply At.next
  apply W.sb
  apply W.sr
  apply ofa; rfl; rfl; rfl
  apply old; rfl; rfl; exact .head _; rfl; rfl
  apply oop; rfl; apply Pev.len_slice; rfl; exact yes; rfl
  apply obn; rfl; rfl; rfl; apply Bin.eql
  apply oas; rfl; rfl
  apply OL.nx
  (refine W.cnd (fun h1 => ?_) (fun h1 => ?_)) <;> (try (exfalso; first | omega | exact h1 trivial | contradiction))
  · have hF : funcE ⟨nm, bs⟩ = 3 := by
      unfold funcE
      rw [if_pos (by simp only; omega)]
    apply W.sr
    apply oas; rfl; rfl
    apply OL.nx
    refine W.rt ?_
    ((with_reducible apply At.fin1); rfl; rfl; intro w' hw')
    rw [hF]
    exact ⟨rfl, by (exact hw'.fr)⟩
  obtain ⟨a, p, hqa, hab, hp, hcell, hok⟩ := he.get (show 0 < es.length by omega)
  have hab : a.block < w.heap.size := hab
  have hcell : CellsAt w (a.add (0 * 7)) [.slice p.2.p.1 p.1.params.length p.2.p.2, .slice p.2.i.1 p.1.ins.length p.2.i.2, .int .i64 p.1.term.kind, .int .i64 p.1.term.arg, .int .i64 p.1.term.n, .slice p.2.t.c.1 p.1.term.cases.length p.2.t.c.2, .slice p.2.t.t.1 p.1.term.to_.length p.2.t.t.2] := hcell
  have hg0 : bs.getD 0 noB = p.1 := by rw [List.getD_eq_getElem?_getD, ← hes, List.getElem?_map, hp]; rfl
  have hqe : q = some a := hqa
  rw [hqa]
  apply W.sr
  apply ofa; rfl; rfl; rfl
  apply old; rfl; rfl; exact .head _; rfl; rfl
  apply oop; rfl; apply Pev.len_slice; rfl; exact yes; rfl
  apply obn; rfl; rfl; rfl; apply Bin.gtr
  apply omv; rfl; rfl
  apply ono; rfl; rfl; rfl; apply Pev.move; rfl; exact yes
  apply ono; rfl; rfl; rfl; apply Pev.bin; rfl; exact fun h => h; rfl; exact yes; intro hcond; apply Bin.gtr
  apply oop; rfl; apply Pev.pick_or; rfl; exact yes; rfl; exact fun h => h
  apply omv; rfl; rfl
  apply ono; rfl; rfl; rfl; apply Pev.fld; rfl; exact yes; rfl
  apply ono; rfl; rfl; rfl; apply Pev.load_blk; rfl; exact fun h => h; exact .head _; rfl; rfl
  apply ono; rfl; rfl; rfl; apply Pev.idx; rfl; exact fun h => h; rfl; exact yes; rfl; rfl; intro hcond; (simp only [Bool.and_eq_true, Bool.or_eq_true, Bool.not_eq_true', decide_eq_true_eq, decide_eq_false_iff_not] at *; omega)
  apply ono; rfl; rfl; rfl; apply Pev.fldA; rfl; exact fun h => h; rfl
  apply ono; rfl; rfl; rfl; apply Pev.load_kept; rfl; exact fun h => h; exact .head _; rfl; intro hcond; apply CellsAt.at_ (by assumption) rfl; intro hcond; assumption; intro hcond; exact NotOwned.au
  apply ono; rfl; rfl; rfl; apply Pev.len_slice; rfl; exact fun h => h; rfl
  apply ono; rfl; rfl; rfl; apply Pev.bin; rfl; exact fun h => h; rfl; exact yes; intro hcond; apply Bin.gtr
  apply oop; rfl; apply Pev.pick_or; rfl; exact yes; rfl; exact fun h => h
  apply oas; rfl; rfl
  apply OL.nx
  refine W.cond rfl (fun h2 => ?_) (fun h2 => ?_)
  · have hF : funcE ⟨nm, bs⟩ = 2 := by
      unfold funcE
      rw [if_neg (by simp only; omega), if_pos ?_]
      simp only
      rw [hg0]
      simp at h2
      by_cases h3 : 128 < es.length
      · exact .inl (by omega)
      · have := hz (by omega)
        right
        rcases h2 with (h2 | h2) | h2
        · omega
        · left; omega
        · right; omega
    apply W.sr
    apply oas; rfl; rfl
    apply OL.nx
    refine W.rt ?_
    ((with_reducible apply At.fin1); rfl; rfl; intro w' hw')
    rw [hF]
    exact ⟨rfl, by (exact hw'.fr)⟩
  have h3 : es.length ≤ 128 := by simp at h2; omega
  have h2' : ¬ (128 < bs.length ∨ 1024 < insAll bs ∨ 6 < (bs.getD 0 noB).params.length) := by
    have := hz (by omega)
    rw [hg0]
    simp at h2
    omega
  apply W.sr
  apply ofa; rfl; rfl; rfl
  apply old; rfl; rfl; exact .head _; rfl; rfl
  (((first | (with_reducible apply OL.op) | (with_reducible apply QL.op)); (exact Guard.au); rfl; rfl); (exact Pev.call (v := .bool (decide (-1 ≤ nm) && decide (nm ≤ 1048575))) rfl (by exact Args.au) (fun _ w2 hw2 => (within_calls nm (-1) 1048575 w2).mono (fun e w3 h => ⟨h.1, hw2.ext h.2⟩))))
  apply oop; rfl; apply Pev.not; rfl; exact yes
  apply oas; rfl; rfl
  apply OL.nx
  refine W.cond rfl (fun h4 => ?_) (fun h4 => ?_)
  · have hF : funcE ⟨nm, bs⟩ = 4 := by
      unfold funcE
      rw [if_neg (by simp only; omega), if_neg h2', if_pos (by simp at h4; simp only; omega)]
    apply W.sr
    apply oas; rfl; rfl
    apply OL.nx
    refine W.rt ?_
    ((with_reducible apply At.fin1); rfl; rfl; intro w' hw')
    rw [hF]
    exact ⟨rfl, by (exact hw'.fr)⟩
  have hF : (¬ shapeE bs = 0 → funcE ⟨nm, bs⟩ = shapeE bs) ∧ (shapeE bs = 0 → ∀ r : Int, (r = 0 ∨ r = 6) → (r = 0 ↔ ∀ (k : Nat) b, bs[k]? = some b → UsesB bs k b) → r = funcE ⟨nm, bs⟩) := by
    constructor
    · intro h5
      unfold funcE
      rw [if_neg (by simp only; omega), if_neg h2', if_neg (by simp at h4; simp only; omega), if_pos h5]
    · intro h5 r hr hi
      unfold funcE
      rw [if_neg (by simp only; omega), if_neg h2', if_neg (by simp at h4; simp only; omega), if_neg (fun h => h h5)]
      split
      · rename_i h6; exact hi.2 h6
      · rename_i h6
        rcases hr with hr | hr
        · exact absurd (hi.1 hr) h6
        · exact hr
  apply W.skip
  with_reducible apply At.in_normal
  with_reducible apply At.next
  apply W.sr
  apply oop; rfl; apply Pev.load_blkA; rfl; exact yes; exact .head _; rfl; exact Take.au
  apply OL.imakeMap; rfl; rfl; (intro bk hbk; simp only [AllLe, and_true] at hbk)
  apply oop; rfl; apply Pev.build; rfl; exact CellsL.agg; rfl; exact Fill.au; rfl
  apply OL.box; rfl; rfl; exact CellsL.agg; (intro bk hbk; simp only [AllLe, and_true] at hbk)
  apply oas; rfl; rfl
  apply OL.nx
  apply W.seq
  apply W.sr
  apply ofa; rfl; rfl; rfl
  apply old; rfl; rfl; exact .tail _ (.tail _ (.head _)); rfl; rfl
  apply oop; rfl; apply Pev.len_slice; rfl; exact yes; rfl
  apply omv; rfl; rfl
  apply OL.nx
  apply W.block
  rename_i bm hbm0
  revert bk
  intro bc hbc0
  have hbm1 : w.heap.size ≤ bm := by first | exact hbm0 | exact hbm0.1
  have hbc1 : w.heap.size ≤ bc := by first | exact hbc0 | exact hbc0.1
  rw [hqe] at he
  have hsz : ∀ k, firstR (fun k => blockE bs (defsF (bs.take k)) (bs.getD k noB)) k = 0 → blockE bs (defsF (bs.take k)) (bs.getD k noB) ≠ 0 → k < bs.length → shapeE bs = blockE bs (defsF (bs.take k)) (bs.getD k noB) := fun k h5 h6 h7 => by
    unfold shapeE
    exact firstR_at (g := fun k => blockE bs (defsF (bs.take k)) (bs.getD k noB)) h7 h5 h6
  refine W.loop (G := Nat) (fun k => k ≤ es.length ∧ firstR (fun k => blockE bs (defsF (bs.take k)) (bs.getD k noB)) k = 0) (fun k => es.length - k)
    (fun k => [(6, true, .pointer (some ⟨bc, 0, none⟩)), (56, true, .int .i64 (es.length : Int)), (57, true, .int .i64 (k : Int))])
    (fun k => Cls [blk bc 124 [.int .i64 nm, .slice (some a) es.length cap, .map (some bm)], mapI bm (plM (plF (bs.take k) 0))] [w]) 0 ⟨by omega, rfl⟩ (by exact Sub.au) (fun w' hw' => hw'.thin (by exact Thin.au)) ?_
  rintro k ⟨hk, hk0⟩
  apply W.sr
  apply obn; rfl; rfl; rfl; apply Bin.lss
  apply OL.nx
  apply W.seq
  (refine W.cnd (fun hlt => ?_) (fun hlt => ?_)) <;> (try (exfalso; first | omega | exact hlt trivial | contradiction))
  · have hkl : k < es.length := by omega
    have hB := fun w2 => block_calls w bc bm nm es (some a) cap he (by omega) k hkl [] w2 (fun k hk => NotOwned.nil) hbc1 hbm1
    simp only [hes] at hB
    have hnx : blockE bs (defsF (bs.take k)) (bs.getD k noB) = 0 → firstR (fun k => blockE bs (defsF (bs.take k)) (bs.getD k noB)) (k + 1) = 0 := fun h => firstR_next hk0 h
    have hbd := hsz k hk0
    generalize blockE bs (defsF (bs.take k)) (bs.getD k noB) = er at hB hnx hbd
    apply W.sk
    apply W.sb
    apply W.sr
    apply omv; rfl; rfl
    apply oas; rfl; rfl
    apply OL.nsr
    apply omv; rfl; rfl
    apply omv; rfl; rfl
    refine OL.callE (α := PL) (fun _ => .int .i64 er) (fun mp => er = 0 → mp = plF (bs.take (k + 1)) 0) (fun mp => Cls [blk bc 124 [.int .i64 nm, .slice (some a) es.length cap, .map (some bm)], mapI bm (plM mp)] [w]) rfl rfl (by exact Args.au) (fun w2 hw2 => (hB w2 hw2).mono fun e w3 ⟨mp, h5, h6, h7⟩ => ⟨mp, h5, h6, h7⟩) ?_
    intro mp hmp
    apply oas; rfl; rfl
    apply OL.nsr
    apply omv; rfl; rfl
    apply obn; rfl; rfl; rfl; apply Bin.neq
    apply OL.nx
    (refine W.cnd (fun hne => ?_) (fun hne => ?_)) <;> (try (exfalso; first | omega | exact hne trivial | contradiction))
    · have hF1 := hF.1 (by rw [hbd hne (by omega)]; exact hne)
      rw [hF1, hbd hne (by omega)]
      apply W.sr
      apply omv; rfl; rfl
      apply oas; rfl; rfl
      apply OL.nx
      refine W.rt ?_
      ((with_reducible apply At.fin1); rfl; rfl; intro w' hw')
      exact ⟨rfl, (hw'.thin (.any (fun k hk => by rw [show k = bc from hk]; exact ⟨hbc1, trivial⟩) (.any (fun k hk => by rw [show k = bm from hk]; exact ⟨hbm1, trivial⟩) Thin.same))).fr (by exact mau) (fun k hk => NotOwned.nil)⟩
    · have he0 : er = 0 := by simpa using hne
      rw [hmp he0]
      apply W.skip
      with_reducible apply At.in_normal
      with_reducible apply At.next
      apply W.reg
      apply obn; rfl; rfl; rfl; apply Bin.add_in; omega
      apply omv; rfl; rfl
      apply OL.nil
      exact At.again (k + 1) ⟨by omega, hnx he0⟩ (by omega) (by exact Sub.au) (fun w' hw' => hw')
  obtain rfl : k = es.length := by omega
  have hs0 : shapeE bs = 0 := by
    unfold shapeE
    rw [hbl2]
    exact hk0
  rw [← hbl2, List.take_length, hbl2]
  have hU := fun w2 => uses_calls w bc bm nm es (some a) cap he (by omega) h3 (by rw [hes]; exact hs0) [] w2 (fun k hk => NotOwned.nil) hbc1 hbm1
  simp only [hes] at hU
  refine W.xt ?_
  with_reducible apply At.next
  apply W.sr
  apply omv; rfl; rfl
  refine OL.callE (α := Int) (fun r => .int .i64 r) (fun r => r = funcE ⟨nm, bs⟩) (fun _ => Cls [] [w]) rfl rfl (by exact Args.au) (fun w2 hw2 => (hU w2 hw2).mono fun e w3 ⟨r, h5, h6, h7, h8⟩ => ⟨r, h5, hF.2 hs0 r h6 h7, h8⟩) ?_
  rintro r rfl
  apply oas; rfl; rfl
  apply OL.nx
  apply W.ret
  ((with_reducible apply At.fin1); rfl; rfl; intro w' hw')
  exact ⟨rfl, by (exact hw'.fr)⟩
end Go.Proofs.Ytehelljmaiophaa.ss

/- The walks of the reference's defErr, termErr and shapeErr. Conditions: none. -/
namespace Go.Proofs.Ytehelljmaiophaa.ss
set_option linter.unusedVariables false
set_option linter.unusedSimpArgs false
set_option maxRecDepth 100000
open Go.Eng Go.RowKit Go.Ss
set_option linter.unusedVariables false
set_option linter.unusedSimpArgs false
theorem defErr_calls (v : Int) (q : Option Addr) (cap : Nat) (l : List Int) (w : World) (hlen : l.length ≤ 9223372036854775807) (h : IntsO w (low w) l q) :
    Calls Try.prog 99 #[.int .i64 v, .slice q l.length cap] w fun e w' => e = .returned (.int .i64 (defE v l)) ∧ Ext w w' := by
  refine enter Try.func99 rfl Try.ntmps99 rfl (Cls.start w) ?_
  (simp only [argEnv, Nat.zero_add, Nat.reduceAdd])
  apply W.sr
  apply oas; rfl; rfl
  apply OL.nx
  apply W.seq
  apply W.sr
  apply omv; rfl; rfl
  (((first | (with_reducible apply OL.op) | (with_reducible apply QL.op)); (exact Guard.au); rfl; rfl); (exact Pev.call (v := .bool (decide (0 ≤ v) && decide (v ≤ 4095))) rfl (by exact Args.au) (fun _ w2 hw2 => (Within_calls v 0 4095 w2).mono (fun e w3 h => ⟨h.1, hw2.ext h.2⟩))))
  apply oop; rfl; apply Pev.not; rfl; exact yes
  apply OL.nx
  refine W.cond rfl (fun h1 => ?_) (fun h1 => ?_)
  · have hd : defE v l = 4 := by
      unfold defE
      rw [if_pos (by simp at h1; omega)]
    apply W.sr
    apply oas; rfl; rfl
    apply OL.nx
    refine W.rt ?_
    ((with_reducible apply At.fin1); rfl; rfl; intro w' hw')
    rw [hd]
    exact ⟨rfl, by (exact hw'.fr)⟩
  apply W.sk
  apply W.seq
  apply W.sr
  apply omv; rfl; rfl
  apply omv; rfl; rfl
  (((first | (with_reducible apply OL.op) | (with_reducible apply QL.op)); (exact Guard.au); rfl; rfl); (exact Pev.call (v := .bool (decide (v ∈ l))) rfl (by exact Args.au) (fun _ w2 hw2 => (HasInt_calls q cap l v w2 hlen (h.at hw2 (by exact mau) (fun k hk => by exact NotOwned.au))).mono (fun e w3 h => ⟨h.1, hw2.ext h.2⟩))))
  apply OL.nx
  refine W.cond rfl (fun h2 => ?_) (fun h2 => ?_)
  · have hd : defE v l = 7 := by
      unfold defE
      rw [if_neg (by simp at h1; omega), if_pos (by simpa using h2)]
    apply W.sr
    apply oas; rfl; rfl
    apply OL.nx
    refine W.rt ?_
    ((with_reducible apply At.fin1); rfl; rfl; intro w' hw')
    rw [hd]
    exact ⟨rfl, by (exact hw'.fr)⟩
  · have hd : defE v l = 0 := by
      unfold defE
      rw [if_neg (by simp at h1; omega), if_neg (by simpa using h2)]
    apply W.sk
    apply W.sr
    apply oas; rfl; rfl
    apply OL.nx
    apply W.ret
    ((with_reducible apply At.fin1); rfl; rfl; intro w' hw')
    rw [hd]
    exact ⟨rfl, by (exact hw'.fr)⟩
/-- how many edges an end has -/
def edN (t : Tm) : Int := if t.kind = 0 then 0 else if t.kind = 1 then 1 else if t.kind = 2 then 2 else if t.kind = 3 then (t.cases.length : Int) + 1 else 0
theorem edN_get {t : Tm} (h0 : 0 ≤ t.kind) (h4 : t.kind ≤ 4) : ([.int .i64 0, .int .i64 1, .int .i64 2, .int .i64 ((t.cases.length : Int) + 1), .int .i64 0] : List Value)[0 + t.kind.toNat * 1]? = some (.int .i64 (edN t)) := by
  unfold edN
  obtain h | h | h | h | h : t.kind = 0 ∨ t.kind = 1 ∨ t.kind = 2 ∨ t.kind = 3 ∨ t.kind = 4 := by omega
  all_goals rw [h]; simp
theorem termErr_calls (es : List (Bk × BkY)) (q : Option Addr) (cap : Nat) (nm : Int) (t : Tm) (y : TmY) (w : World) (he : Arr bkR w (low w) es q) (hlen : es.length ≤ 140737488355328) (ht : TmOk w (low w) t y) :
    Calls Try.prog 101 [.agg #[.int .i64 nm, .slice q es.length cap], .agg (tmC t y).toArray].toArray w fun e w' => e = .returned (.int .i64 (termE (es.map Prod.fst) t)) ∧ Ext w w' := by
  obtain ⟨bs, hbs⟩ : ∃ bs, es.map Prod.fst = bs := ⟨_, rfl⟩
  have hbl : bs.length = es.length := by rw [← hbs, List.length_map]
  obtain ⟨ts, hts, harr⟩ := ht.t
  have htl := ht.tl
  have hcl := ht.cl
  have htl2 : t.to_.length = ts.length := by rw [← hts, List.length_map]
  rw [hbs]
  refine enter Try.func101 rfl Try.ntmps101 rfl (Cls.start w) ?_
  (simp only [argEnv, Nat.zero_add, Nat.reduceAdd])
  simp only [tmC]
  apply W.sr
  apply OL.box; rfl; rfl; exact CellsL.agg; (intro bk hbk; simp only [AllLe, and_true] at hbk)
  apply OL.box; rfl; rfl; exact CellsL.agg; (intro bk hbk; simp only [AllLe, and_true] at hbk)
  apply oas; rfl; rfl
  apply OL.nsr
  apply ofa; rfl; rfl; rfl
  apply old; rfl; rfl; exact .head _; rfl; rfl
  apply oop; rfl; apply Pev.len_slice; rfl; exact yes; rfl
  apply obn; rfl; rfl; rfl; apply Bin.add_in; omega
  apply OL.buildSlice; rfl; rfl; rfl; exact Elems.au; rfl; rfl; (intro bk hbk; simp only [AllLe, and_true] at hbk)
  apply oas; rfl; rfl
  apply OL.nx
  apply W.seq
  apply W.seq
  apply W.regd0; decide +kernel; kernel_rfl; decide +kernel; exact fun w hw => hw.drew
  apply qfa; rfl; rfl; rfl
  apply qld; rfl; rfl; exact .tail _ (.head _); rfl; rfl
  rename_i bF hbF bT hbT
  revert bk
  intro bE hbE
  (((first | (with_reducible apply OL.op) | (with_reducible apply QL.op)); (exact Guard.au); rfl; rfl); (exact Pev.call (v := .bool (decide (0 ≤ t.kind) && decide (t.kind ≤ 4))) rfl (by exact Args.au) (fun _ w2 hw2 => (Within_calls t.kind 0 4 w2).mono (fun e w3 h => ⟨h.1, hw2.ext h.2⟩))))
  apply qop; rfl; apply Pev.not; rfl; exact yes
  apply qmv; rfl; rfl
  apply qno; rfl; rfl; rfl; apply Pev.fld; rfl; exact yes; rfl
  apply qno; rfl; rfl; rfl; apply Pev.load_blk; rfl; exact fun h => h; exact .tail _ (.head _); rfl; rfl
  apply qno; rfl; rfl; rfl; apply Pev.len_slice; rfl; exact fun h => h; rfl
  apply qno; rfl; rfl; rfl; apply Pev.move; rfl; exact yes
  apply qno; rfl; rfl; rfl; apply Pev.fld; rfl; exact yes; rfl
  apply qno; rfl; rfl; rfl; apply Pev.load_blk; rfl; exact fun h => h; exact .tail _ (.head _); rfl; rfl
  (((first | (with_reducible apply OL.op) | (with_reducible apply QL.op)); (exact Guard.au); rfl; rfl); (refine Pev.idxB rfl (by (first | exact fun _ => rfl | exact fun h => h | (intro h; simp_all; done))) rfl (by (first | exact fun _ => rfl | exact fun h => h | (intro h; simp_all; done))) rfl (fun hcc => ?_) rfl))
  · simp at hcc
    omega
  skip
  (((first | (with_reducible apply OL.op) | (with_reducible apply QL.op)); (exact Guard.au); rfl; rfl); (refine Pev.load_cls (v := .int .i64 (edN t)) rfl (by (first | exact fun _ => rfl | exact fun h => h | (intro h; simp_all; done))) rfl (fun hcc w2 hw2 => ?_)))
  · simp at hcc
    rw [blk_cell (hw2.item (i := blk bE 3 _) (by exact mau))]
    exact edN_get hcc.1 hcc.2
  apply qno; rfl; rfl; rfl; apply Pev.bin; rfl; exact fun h => h; rfl; exact fun h => h; intro hcond; apply Bin.neq
  apply qop; rfl; apply Pev.pick_or; rfl; exact yes; rfl; exact fun h => h
  apply QL.nil
  with_reducible apply At.next
  have hsh : shapeT t = false ↔ (¬ (0 ≤ t.kind ∧ t.kind ≤ 4) ∨ ¬ (t.to_.length : Int) = edN t) ∨ ((t.kind ≠ 3 ∧ 0 < t.cases.length) ∨ (t.kind ≠ 4 ∧ t.n ≠ 0)) ∨ ((t.kind = 1 ∨ t.kind = 4) ∧ t.arg ≠ 0) := by
    unfold edN
    by_cases hk : 0 ≤ t.kind ∧ t.kind ≤ 4
    · obtain h | h | h | h | h : t.kind = 0 ∨ t.kind = 1 ∨ t.kind = 2 ∨ t.kind = 3 ∨ t.kind = 4 := by omega
      all_goals
        unfold shapeT
        rw [h]
        simp [-List.length_eq_zero_iff]
        omega
    · have : shapeT t = false := by
        unfold shapeT
        rw [if_neg (by omega), if_neg (by omega), if_neg (by omega), if_neg (by omega), if_neg (by omega)]
      exact ⟨fun _ => .inl (.inl hk), fun _ => this⟩
  refine W.cond rfl (fun h1 => ?_) (fun h1 => ?_)
  · have hE : termE bs t = 3 := by
      unfold termE
      rw [if_pos (hsh.2 (.inl ?_))]
      simp [-List.length_eq_zero_iff] at h1
      omega
    apply W.sr
    apply oas; rfl; rfl
    apply OL.nx
    refine W.rt ?_
    ((with_reducible apply At.fin1); rfl; rfl; intro w' hw')
    rw [hE]
    exact ⟨rfl, by (exact hw'.fr)⟩
  apply W.sk
  apply W.seq
  apply W.sr
  apply ofa; rfl; rfl; rfl
  apply old; rfl; rfl; exact .tail _ (.head _); rfl; rfl
  apply obn; rfl; rfl; rfl; apply Bin.neq
  apply omv; rfl; rfl
  apply oy; rfl; rfl; rfl; apply Pev.fld; rfl; exact yes; rfl
  apply oy; rfl; rfl; rfl; apply Pev.load_blk; rfl; exact fun h => h; exact .tail _ (.head _); rfl; rfl
  apply oy; rfl; rfl; rfl; apply Pev.len_slice; rfl; exact fun h => h; rfl
  apply oy; rfl; rfl; rfl; apply Pev.bin; rfl; exact fun h => h; rfl; exact yes; intro hcond; apply Bin.gtr
  apply oop; rfl; apply Pev.pick_and; rfl; exact yes; rfl; exact fun h => h
  apply omv; rfl; rfl
  apply ono; rfl; rfl; rfl; apply Pev.fld; rfl; exact yes; rfl
  apply ono; rfl; rfl; rfl; apply Pev.load_blk; rfl; exact fun h => h; exact .tail _ (.head _); rfl; rfl
  apply ono; rfl; rfl; rfl; apply Pev.bin; rfl; exact fun h => h; rfl; exact yes; intro hcond; apply Bin.neq
  apply ono; rfl; rfl; rfl; apply Pev.move; rfl; exact fun h => h
  apply OL.op; exact Guard.cyes rfl rfl; rfl; rfl; apply Pev.fld; rfl; exact yes; rfl
  apply OL.op; exact Guard.cyes rfl rfl; rfl; rfl; apply Pev.load_blk; rfl; exact fun h => h; exact .tail _ (.head _); rfl; rfl
  apply OL.op; exact Guard.cyes rfl rfl; rfl; rfl; apply Pev.bin; rfl; exact fun h => h; rfl; exact yes; intro hcond; apply Bin.neq
  apply ono; rfl; rfl; rfl; apply Pev.pick_and; rfl; exact fun h => h; rfl; exact fun h => h
  apply oop; rfl; apply Pev.pick_or; rfl; exact yes; rfl; exact fun h => h
  apply omv; rfl; rfl
  apply ono; rfl; rfl; rfl; apply Pev.fld; rfl; exact yes; rfl
  apply ono; rfl; rfl; rfl; apply Pev.load_blk; rfl; exact fun h => h; exact .tail _ (.head _); rfl; rfl
  apply ono; rfl; rfl; rfl; apply Pev.bin; rfl; exact fun h => h; rfl; exact yes; intro hcond; apply Bin.eql
  apply ono; rfl; rfl; rfl; apply Pev.move; rfl; exact fun h => h
  apply OL.op; exact Guard.cno rfl rfl; rfl; rfl; apply Pev.fld; rfl; exact yes; rfl
  apply OL.op; exact Guard.cno rfl rfl; rfl; rfl; apply Pev.load_blk; rfl; exact fun h => h; exact .tail _ (.head _); rfl; rfl
  apply OL.op; exact Guard.cno rfl rfl; rfl; rfl; apply Pev.bin; rfl; exact fun h => h; rfl; exact yes; intro hcond; apply Bin.eql
  apply ono; rfl; rfl; rfl; apply Pev.pick_or; rfl; exact fun h => h; rfl; exact fun h => h
  apply ono; rfl; rfl; rfl; apply Pev.move; rfl; exact fun h => h
  apply OL.op; exact Guard.cyes rfl rfl; rfl; rfl; apply Pev.fld; rfl; exact yes; rfl
  apply OL.op; exact Guard.cyes rfl rfl; rfl; rfl; apply Pev.load_blk; rfl; exact fun h => h; exact .tail _ (.head _); rfl; rfl
  apply OL.op; exact Guard.cyes rfl rfl; rfl; rfl; apply Pev.bin; rfl; exact fun h => h; rfl; exact yes; intro hcond; apply Bin.neq
  apply ono; rfl; rfl; rfl; apply Pev.pick_and; rfl; exact fun h => h; rfl; exact fun h => h
  apply oop; rfl; apply Pev.pick_or; rfl; exact yes; rfl; exact fun h => h
  apply OL.nx
  refine W.cond rfl (fun h2 => ?_) (fun h2 => ?_)
  · have hE : termE bs t = 3 := by
      unfold termE
      rw [if_pos (hsh.2 (.inr ?_))]
      simp [-List.length_eq_zero_iff] at h2
      omega
    apply W.sr
    apply oas; rfl; rfl
    apply OL.nx
    refine W.rt ?_
    ((with_reducible apply At.fin1); rfl; rfl; intro w' hw')
    rw [hE]
    exact ⟨rfl, by (exact hw'.fr)⟩
  have h1' : ¬ shapeT t = false := by
    rw [hsh]
    simp [-List.length_eq_zero_iff] at h1 h2
    omega
  apply W.sk
  apply W.seq
  apply W.sr
  apply ofa; rfl; rfl; rfl
  apply old; rfl; rfl; exact .tail _ (.head _); rfl; rfl
  apply oop; rfl; apply Pev.len_slice; rfl; exact yes; rfl
  apply obn; rfl; rfl; rfl; apply Bin.gtr
  apply OL.nx
  (refine W.cnd (fun h3 => ?_) (fun h3 => ?_)) <;> (try (exfalso; first | omega | exact h3 trivial | contradiction))
  · apply W.sr
    apply oas; rfl; rfl
    apply OL.nx
    refine W.rt ?_
    ((with_reducible apply At.fin1); rfl; rfl; intro w' hw')
    unfold termE
    rw [if_neg h1', if_pos (by omega)]
    exact ⟨rfl, by (exact hw'.fr)⟩
  apply W.sk
  apply W.seq
  apply W.sr
  apply ofa; rfl; rfl; rfl
  apply old; rfl; rfl; exact .tail _ (.head _); rfl; rfl
  apply obn; rfl; rfl; rfl; apply Bin.eql
  apply omv; rfl; rfl
  apply oy; rfl; rfl; rfl; apply Pev.fld; rfl; exact yes; rfl
  apply oy; rfl; rfl; rfl; apply Pev.load_blk; rfl; exact fun h => h; exact .tail _ (.head _); rfl; rfl
  (((first | (with_reducible apply OL.op) | (with_reducible apply QL.op)); (exact Guard.au); rfl; rfl); (exact Pev.call (v := .bool (decide (1 ≤ t.n) && decide (t.n ≤ 6))) rfl (by exact Args.au) (fun _ w2 hw2 => (Within_calls t.n 1 6 w2).mono (fun e w3 h => ⟨h.1, hw2.ext h.2⟩))))
  apply oy; rfl; rfl; rfl; apply Pev.not; rfl; exact fun h => h
  apply oop; rfl; apply Pev.pick_and; rfl; exact yes; rfl; exact fun h => h
  apply OL.nx
  refine W.cond rfl (fun h4 => ?_) (fun h4 => ?_)
  · apply W.sr
    apply oas; rfl; rfl
    apply OL.nx
    refine W.rt ?_
    ((with_reducible apply At.fin1); rfl; rfl; intro w' hw')
    unfold termE
    rw [if_neg h1', if_neg (by omega), if_pos (by simp at h4; omega)]
    exact ⟨rfl, by (exact hw'.fr)⟩
  have hT : termE bs t = if ¬ firstR (caseE t.cases) t.cases.length = 0 then firstR (caseE t.cases) t.cases.length else firstE (edgeE bs) t.to_ := by
    unfold termE
    rw [if_neg h1', if_neg (by omega), if_neg (by simp at h4; omega)]
  rw [hT]
  apply W.sk
  apply W.seq
  apply W.sr
  apply ofa; rfl; rfl; rfl
  apply old; rfl; rfl; exact .tail _ (.head _); rfl; rfl
  apply oop; rfl; apply Pev.len_slice; rfl; exact yes; rfl
  apply omv; rfl; rfl
  apply OL.nx
  apply W.block
  refine W.loop (G := Nat) (fun k => k ≤ t.cases.length ∧ firstR (caseE t.cases) k = 0) (fun k => t.cases.length - k)
    (fun k => [(2, true, .pointer (some ⟨bF, 0, none⟩)), (3, true, .pointer (some ⟨bT, 0, none⟩)), (78, true, .slice y.c.1 t.cases.length y.c.2), (79, true, .int .i64 (t.cases.length : Int)), (80, true, .int .i64 (k : Int))])
    (fun _ => Cls [blk bT 39 [.int .i64 t.kind, .int .i64 t.arg, .int .i64 t.n, .slice y.c.1 t.cases.length y.c.2, .slice y.t.1 t.to_.length y.t.2], blk bF 24 [.int .i64 nm, .slice q es.length cap]] [w]) 0 ⟨by omega, rfl⟩ (by exact Sub.au) (fun w' hw' => hw'.thin (by exact Thin.au)) ?_
  rintro k ⟨hk, hk0⟩
  apply W.sr
  apply obn; rfl; rfl; rfl; apply Bin.lss
  apply OL.nx
  apply W.seq
  (refine W.cnd (fun hlt => ?_) (fun hlt => ?_)) <;> (try (exfalso; first | omega | exact hlt trivial | contradiction))
  · have hkl : k < t.cases.length := by omega
    obtain ⟨a, v, hqa, hab, hv, hcell⟩ := ht.c.get hkl
    have hab : a.block < w.heap.size := hab
    have hcc := ht.cc
    have hE : caseE t.cases k = if wordB v = false then 4 else if v ∈ t.cases.take k then 7 else 0 := by
      unfold caseE
      rw [List.getD_eq_getElem?_getD, hv, Option.getD_some]
    have herr : caseE t.cases k ≠ 0 → (if ¬ firstR (caseE t.cases) t.cases.length = 0 then firstR (caseE t.cases) t.cases.length else firstE (edgeE bs) t.to_) = caseE t.cases k := fun h => by
      have h5 := firstR_at hkl hk0 h
      rw [h5, if_pos h]
    have hIC : ∀ w2, Cls [blk bT 39 [.int .i64 t.kind, .int .i64 t.arg, .int .i64 t.n, .slice y.c.1 t.cases.length y.c.2, .slice y.t.1 t.to_.length y.t.2], blk bF 24 [.int .i64 nm, .slice q es.length cap]] [w] w2 → Calls Try.prog 32 #[.slice (some a) k y.c.2, .int .i64 v] w2 fun e w' => e = .returned (.bool (decide (v ∈ t.cases.take k))) ∧ Ext w2 w' := fun w2 hw2 => by
      have h6 := ht.c.at hw2 (by exact mau) (fun k hk => by exact NotOwned.au)
      have h7 := HasInt_calls y.c.1 y.c.2 (t.cases.take k) v w2 (by rw [List.length_take]; omega) (IntsO.take h6 k)
      rw [List.length_take, Nat.min_eq_left (by omega), hqa] at h7
      exact h7
    rw [hqa]
    rw [hqa] at hIC
    apply W.sk
    apply W.sb
    apply W.sr
    apply omv; rfl; rfl
    apply oop; rfl; apply Pev.idx; rfl; exact yes; rfl; exact yes; rfl; rfl; intro hcond; omega
    apply oop; rfl; apply Pev.load_kept; rfl; exact yes; exact .head _; rfl; intro hcond; assumption; intro hcond; (rw [add_block]; assumption); intro hcond; exact NotOwned.au
    apply oas; rfl; rfl
    apply oas; rfl; rfl
    apply OL.nx
    apply W.seq
    apply W.sr
    apply omv; rfl; rfl
    (((first | (with_reducible apply OL.op) | (with_reducible apply QL.op)); (exact Guard.au); rfl; rfl); (exact Pev.call (v := .bool (wordB v)) rfl (by exact Args.au) (fun _ w2 hw2 => (word_calls v w2).mono (fun e w3 h => ⟨h.1, hw2.ext h.2⟩))))
    apply oop; rfl; apply Pev.not; rfl; exact yes
    apply OL.nx
    (refine W.cnd (fun h4 => ?_) (fun h4 => ?_)) <;> (try (exfalso; first | omega | exact h4 trivial | contradiction))
    · have h5 : caseE t.cases k = 4 := by rw [hE, if_pos (by simpa using h4)]
      rw [herr (by rw [h5]; decide), h5]
      apply W.sr
      apply oas; rfl; rfl
      apply OL.nx
      refine W.rt ?_
      ((with_reducible apply At.fin1); rfl; rfl; intro w' hw')
      exact ⟨rfl, by (exact hw'.fr)⟩
    have h4' : ¬ wordB v = false := by simpa using h4
    apply W.sk
    apply W.sr
    apply ofa; rfl; rfl; rfl
    apply old; rfl; rfl; exact .head _; rfl; rfl
    apply omv; rfl; rfl
    apply oop; rfl; apply Pev.slice_hi; rfl; exact yes; rfl; exact yes; rfl; rfl; intro hcond; omega
    apply omv; rfl; rfl
    (((first | (with_reducible apply OL.op) | (with_reducible apply QL.op)); (exact Guard.au); rfl; rfl); (exact Pev.call (v := .bool (decide (v ∈ t.cases.take k))) rfl (by exact Args.au) (fun _ w2 hw2 => (hIC w2 hw2).mono (fun e w3 h => ⟨h.1, hw2.ext h.2⟩))))
    apply OL.nx
    (refine W.cnd (fun h5 => ?_) (fun h5 => ?_)) <;> (try (exfalso; first | omega | exact h5 trivial | contradiction))
    · have h6 : caseE t.cases k = 7 := by rw [hE, if_neg h4', if_pos (by simpa using h5)]
      rw [herr (by rw [h6]; decide), h6]
      apply W.sr
      apply oas; rfl; rfl
      apply OL.nx
      refine W.rt ?_
      ((with_reducible apply At.fin1); rfl; rfl; intro w' hw')
      exact ⟨rfl, by (exact hw'.fr)⟩
    · have h6 : caseE t.cases k = 0 := by rw [hE, if_neg h4', if_neg (by simpa using h5)]
      apply W.skip
      with_reducible apply At.in_normal
      with_reducible apply At.next
      apply W.reg
      apply obn; rfl; rfl; rfl; apply Bin.add_in; omega
      apply omv; rfl; rfl
      apply OL.nil
      exact At.again (k + 1) ⟨by omega, firstR_next hk0 h6⟩ (by omega) (by exact Sub.au) (fun w' hw' => hw')
  obtain rfl : k = t.cases.length := by omega
  rw [if_neg (fun h => h hk0), htl2]
  refine W.xt ?_
  with_reducible apply At.next
  apply W.seq
  apply W.sr
  apply ofa; rfl; rfl; rfl
  apply old; rfl; rfl; exact .head _; rfl; rfl
  apply oop; rfl; apply Pev.len_slice; rfl; exact yes; rfl
  apply omv; rfl; rfl
  apply OL.nx
  apply W.block
  refine W.loop (G := Nat) (fun j => j ≤ ts.length ∧ ∀ (m : Nat) e, m < j → t.to_[m]? = some e → edgeE bs e = 0) (fun j => ts.length - j)
    (fun j => [(2, true, .pointer (some ⟨bF, 0, none⟩)), (96, true, .slice y.t.1 ts.length y.t.2), (97, true, .int .i64 (ts.length : Int)), (98, true, .int .i64 (j : Int))])
    (fun _ => Cls [blk bT 39 [.int .i64 t.kind, .int .i64 t.arg, .int .i64 t.n, .slice y.c.1 t.cases.length y.c.2, .slice y.t.1 ts.length y.t.2], blk bF 24 [.int .i64 nm, .slice q es.length cap]] [w]) 0 ⟨by omega, fun m e hm => by omega⟩ (by exact Sub.au) (fun w' hw' => hw') ?_
  rintro j ⟨hj, hj0⟩
  apply W.sr
  apply obn; rfl; rfl; rfl; apply Bin.lss
  apply OL.nx
  apply W.seq
  (refine W.cnd (fun hlt2 => ?_) (fun hlt2 => ?_)) <;> (try (exfalso; first | omega | exact hlt2 trivial | contradiction))
  · obtain ⟨ae, u, hqt, hatb, hu, hcu, hoku⟩ := harr.get (show j < ts.length by omega)
    have hatb : ae.block < w.heap.size := hatb
    have hcu : CellsAt w (ae.add (j * 2)) [.int .i64 u.1.block, .slice u.2.1 u.1.args.length u.2.2] := hcu
    have hue : t.to_[j]? = some u.1 := by rw [← hts, List.getElem?_map, hu]; rfl
    have hul := hoku.2.1.1
    have herr : edgeE bs u.1 ≠ 0 → firstE (edgeE bs) t.to_ = edgeE bs u.1 := fun h => firstE_at hue hj0 h
    rw [hqt]
    apply W.sk
    apply W.sb
    apply W.sr
    apply oop; rfl; apply Pev.idx; rfl; exact yes; rfl; exact yes; rfl; rfl; intro hcond; omega
    apply oop; rfl; apply Pev.load_keptA; rfl; exact yes; exact .head _; rfl; intro hcond; assumption; rfl; intro hcond; (rw [add_block]; assumption); intro hcond; exact NotOwned.au
    apply OL.alloc; rfl; rfl; exact CellsL.agg; (intro bk hbk; simp only [AllLe, and_true] at hbk)
    apply OL.storeB; rfl; rfl; exact CellsL.agg; rfl; rfl; rfl; exact Swap.au; exact Put.au
    apply OL.nx
    apply W.seq
    apply W.sr
    apply ofa; rfl; rfl; rfl
    apply old; rfl; rfl; exact .head _; rfl; rfl
    apply ofa; rfl; rfl; rfl
    apply old; rfl; rfl; exact .tail _ (.tail _ (.head _)); rfl; rfl
    apply oop; rfl; apply Pev.len_slice; rfl; exact yes; rfl
    apply obn; rfl; rfl; rfl; apply Bin.sub_in; omega
    (((first | (with_reducible apply OL.op) | (with_reducible apply QL.op)); (exact Guard.au); rfl; rfl); (exact Pev.call (v := .bool (decide (1 ≤ u.1.block) && decide (u.1.block ≤ (es.length : Int) - 1))) rfl (by exact Args.au) (fun _ w2 hw2 => (Within_calls u.1.block 1 ((es.length : Int) - 1) w2).mono (fun e w3 h => ⟨h.1, hw2.ext h.2⟩))))
    apply oop; rfl; apply Pev.not; rfl; exact yes
    apply OL.nx
    refine W.cond rfl (fun h4 => ?_) (fun h4 => ?_)
    · have h5 : edgeE bs u.1 = 4 := by
        unfold edgeE
        rw [if_pos (by simp at h4; omega)]
      rw [herr (by rw [h5]; decide), h5]
      apply W.sr
      apply oas; rfl; rfl
      apply OL.nx
      refine W.rt ?_
      ((with_reducible apply At.fin1); rfl; rfl; intro w' hw')
      exact ⟨rfl, by (exact hw'.fr)⟩
    have h4' : 1 ≤ u.1.block ∧ u.1.block < (es.length : Int) := by simp at h4; omega
    obtain ⟨b, hbb⟩ : ∃ b : Nat, u.1.block = (b : Int) := ⟨u.1.block.toNat, by omega⟩
    have hbe : b < es.length := by omega
    obtain ⟨a2, p2, rfl, hab2, hp2, hcell2, hok2⟩ := he.get hbe
    have hab2 : a2.block < w.heap.size := hab2
    have hcell2 : CellsAt w (a2.add (b * 7)) [.slice p2.2.p.1 p2.1.params.length p2.2.p.2, .slice p2.2.i.1 p2.1.ins.length p2.2.i.2, .int .i64 p2.1.term.kind, .int .i64 p2.1.term.arg, .int .i64 p2.1.term.n, .slice p2.2.t.c.1 p2.1.term.cases.length p2.2.t.c.2, .slice p2.2.t.t.1 p2.1.term.to_.length p2.2.t.t.2] := hcell2
    have hgd : (bs.getD u.1.block.toNat ⟨[], [], ⟨0, 0, 0, [], []⟩⟩) = p2.1 := by
      rw [hbb, Int.toNat_natCast, List.getD_eq_getElem?_getD, ← hbs, List.getElem?_map, hp2]
      rfl
    have hE2 : edgeE bs u.1 = if u.1.args.length ≠ p2.1.params.length then 3 else 0 := by
      unfold edgeE
      rw [if_neg (by omega), hgd]
    rw [hbb]
    apply W.sk
    apply W.seq
    apply W.regd0; decide +kernel; kernel_rfl; decide +kernel; exact fun w hw => hw.drew
    apply qfa; rfl; rfl; rfl
    apply qld; rfl; rfl; exact .head _; rfl; rfl
    apply qop; rfl; apply Pev.len_slice; rfl; exact yes; rfl
    apply qfa; rfl; rfl; rfl
    apply qld; rfl; rfl; exact .tail _ (.tail _ (.head _)); rfl; rfl
    apply qfa; rfl; rfl; rfl
    apply qld; rfl; rfl; exact .head _; rfl; rfl
    apply qop; rfl; apply Pev.idx; rfl; exact yes; rfl; exact yes; rfl; rfl; intro hcond; omega
    apply qop; rfl; apply Pev.fldA; rfl; exact yes; rfl
    apply qop; rfl; apply Pev.load_kept; rfl; exact yes; exact .head _; rfl; intro hcond; apply CellsAt.at_ (by assumption) rfl; intro hcond; (simp only [add_block]; assumption); intro hcond; exact NotOwned.au
    apply qop; rfl; apply Pev.len_slice; rfl; exact yes; rfl
    apply qbn; rfl; rfl; rfl; apply Bin.neq
    apply QL.nil
    with_reducible apply At.next
    (refine W.cnd (fun h6 => ?_) (fun h6 => ?_)) <;> (try (exfalso; first | omega | exact h6 trivial | contradiction))
    · have h7 : edgeE bs u.1 = 3 := by rw [hE2, if_pos (by omega)]
      rw [herr (by rw [h7]; decide), h7]
      apply W.sr
      apply oas; rfl; rfl
      apply OL.nx
      refine W.rt ?_
      ((with_reducible apply At.fin1); rfl; rfl; intro w' hw')
      exact ⟨rfl, by (exact hw'.fr)⟩
    · have h7 : edgeE bs u.1 = 0 := by rw [hE2, if_neg (by omega)]
      apply W.skip
      with_reducible apply At.in_normal
      with_reducible apply At.next
      apply W.reg
      apply obn; rfl; rfl; rfl; apply Bin.add_in; omega
      apply omv; rfl; rfl
      apply OL.nil
      refine At.again (j + 1) ⟨by omega, fun m e hm he2 => ?_⟩ (by omega) (by exact Sub.au) (fun w' hw' => hw'.thin (by exact Thin.au))
      by_cases em : m = j
      · subst em
        rw [hue] at he2
        obtain rfl := Option.some.inj he2
        exact h7
      · exact hj0 m e (by omega) he2
  · have h0 : firstE (edgeE bs) t.to_ = 0 := firstE_all fun m e he2 => hj0 m e (by have := (List.getElem?_eq_some_iff.1 he2).1; omega) he2
    rw [h0]
    refine W.xt ?_
    with_reducible apply At.next
    apply W.sr
    apply oas; rfl; rfl
    apply OL.nx
    apply W.ret
    ((with_reducible apply At.fin1); rfl; rfl; intro w' hw')
    exact ⟨rfl, by (exact hw'.fr)⟩
end Go.Proofs.Ytehelljmaiophaa.ss

/- The walk of the reference's shapeErr. Conditions: none. -/
namespace Go.Ss
set_option linter.unusedVariables false
set_option linter.unusedSimpArgs false
open Go.Eng Go.RowKit
set_option linter.unusedVariables false
set_option linter.unusedSimpArgs false
structure GR where
  O : Nat → Prop
  q : Option Addr
  c : Nat
/-- a grown row of ints, as an array of memory that is new -/
theorem rowInts {H : List Eng.Item} {S : List World} {w w' : World} {B m cap : Nat} {O : Nat → Prop} {q : Option Addr} {e : TypeId} {l : List Int} (h : Cls H S w') (hr : row B O q m cap e 1 (ints l) ∈ H) (hB : w.heap.size ≤ B) : IntsO w' (fresh w w') l q := fun hl => by
  have h1 := h.item hr
  obtain ⟨a, h3, _, h5⟩ := SlAt.of_row h1 (by rw [ints_length]; exact hl)
  have h6 := h1.1 a h3
  have hb : B ≤ a.block := by
    rcases h1.2.2 with ⟨h7, _⟩ | ⟨g, cap', cur, h7, hb, _⟩
    · simp only [Value.slice.injEq] at h7
      rw [h7.1] at h3; cases h3
    · simp only [Value.slice.injEq] at h7
      rw [h7.1] at h3
      obtain rfl := Option.some.inj h3
      exact hb
  exact ⟨a, h3, ⟨Nat.le_trans hB hb, h.lt _ hr _ ⟨hb, h6⟩⟩, h5⟩
theorem rowIntsL {H : List Eng.Item} {S : List World} {w' : World} {B m cap : Nat} {O : Nat → Prop} {q : Option Addr} {e : TypeId} {l : List Int} (h : Cls H S w') (hr : row B O q m cap e 1 (ints l) ∈ H) : IntsO w' (low w') l q := fun hl => by
  have h1 := h.item hr
  obtain ⟨a, h3, _, h5⟩ := SlAt.of_row h1 (by rw [ints_length]; exact hl)
  have h6 := h1.1 a h3
  have hb : B ≤ a.block := by
    rcases h1.2.2 with ⟨h7, _⟩ | ⟨g, cap', cur, h7, hb, _⟩
    · simp only [Value.slice.injEq] at h7
      rw [h7.1] at h3; cases h3
    · simp only [Value.slice.injEq] at h7
      rw [h7.1] at h3
      obtain rfl := Option.some.inj h3
      exact hb
  exact ⟨a, h3, h.lt _ hr _ ⟨hb, h6⟩, h5⟩
/-- a list without repetitions whose members lie in another one is no longer -/
theorem nodup_le : ∀ {l m : List Int}, l.Nodup → (∀ x ∈ l, x ∈ m) → l.length ≤ m.length
  | [], _, _, _ => by simp
  | x :: r, m, hn, hs => by
    have hx := hs x (.head _)
    obtain ⟨m1, m2, rfl⟩ := List.append_of_mem hx
    rw [List.nodup_cons] at hn
    have := nodup_le (l := r) (m := m1 ++ m2) hn.2 (fun y hy => by
      have h1 := hs y (.tail _ hy)
      have h2 : y ≠ x := fun e => hn.1 (e ▸ hy)
      simp at h1 ⊢
      rcases h1 with h1 | h1 | h1
      · exact .inl h1
      · exact absurd h1 h2
      · exact .inr h1)
    simp at this ⊢
    omega
/-- values without repetition in the range of values -/
def Lim4 (l : List Int) : Prop := l.Nodup ∧ ∀ v ∈ l, 0 ≤ v ∧ v ≤ 4095
theorem Lim4.len {l : List Int} (h : Lim4 l) : l.length ≤ 4096 := by
  have := nodup_le (m := (List.range 4096).map fun n : Nat => (n : Int)) h.1 (fun x hx => by
    have := h.2 x hx
    exact List.mem_map.2 ⟨x.toNat, List.mem_range.2 (by omega), by omega⟩)
  simpa using this
theorem Lim4.snoc {l : List Int} {v : Int} (h : Lim4 l) (hd : defE v l = 0) : Lim4 (l ++ [v]) := by
  obtain ⟨h1, h2, h3⟩ := def_zero hd
  constructor
  · rw [List.nodup_append]
    refine ⟨h.1, by simp, fun a ha b hb => ?_⟩
    obtain rfl : b = v := by simpa using hb
    rintro rfl
    exact h3 ha
  · intro x hx
    rcases List.mem_append.1 hx with hx | hx
    · exact h.2 x hx
    · obtain rfl : x = v := by simpa using hx
      exact ⟨h1, h2⟩
end Go.Ss
namespace Go.Proofs.Ytehelljmaiophaa.ss
set_option linter.unusedVariables false
set_option linter.unusedSimpArgs false
set_option maxRecDepth 100000
open Go.Eng Go.RowKit Go.Ss
set_option linter.unusedVariables false
set_option linter.unusedSimpArgs false
theorem shapeErr_calls (es : List (Bk × BkY)) (q : Option Addr) (cap : Nat) (nm : Int) (w : World) (he : Arr bkR w (low w) es q) (hlen : es.length ≤ 140737488355328) :
    Calls Try.prog 57 [.agg #[.int .i64 nm, .slice q es.length cap]].toArray w fun e w' => e = .returned (.int .i64 (shapeE (es.map Prod.fst))) ∧ Ext w w' := by
  obtain ⟨bs, hbs⟩ : ∃ bs, es.map Prod.fst = bs := ⟨_, rfl⟩
  have hbl : bs.length = es.length := by rw [← hbs, List.length_map]
  rw [hbs]
  refine enter Try.func57 rfl Try.ntmps57 rfl (Cls.start w) ?_
  (simp only [argEnv, Nat.zero_add, Nat.reduceAdd])
  apply W.sr
  apply OL.box; rfl; rfl; exact CellsL.agg; (intro bk hbk; simp only [AllLe, and_true] at hbk)
  apply oas; rfl; rfl
  apply OL.nsr
  apply oas; rfl; rfl
  apply OL.nx
  apply W.seq
  apply W.sr
  apply ofa; rfl; rfl; rfl
  apply old; rfl; rfl; exact .head _; rfl; rfl
  apply oop; rfl; apply Pev.len_slice; rfl; exact yes; rfl
  apply omv; rfl; rfl
  apply OL.nx
  apply W.block
  revert bk
  intro bF hbF
  have hbF1 : w.heap.size ≤ bF := by first | exact hbF | exact hbF.1
  have hsz : ∀ k, firstR (fun k => blockE bs (defsF (bs.take k)) (bs.getD k noB)) k = 0 → blockE bs (defsF (bs.take k)) (bs.getD k noB) ≠ 0 → k < bs.length → shapeE bs = blockE bs (defsF (bs.take k)) (bs.getD k noB) := fun k h5 h6 h7 => by
    unfold shapeE
    exact firstR_at (g := fun k => blockE bs (defsF (bs.take k)) (bs.getD k noB)) h7 h5 h6
  refine W.loop (G := Nat × GR) (fun g => g.1 ≤ es.length ∧ firstR (fun k => blockE bs (defsF (bs.take k)) (bs.getD k noB)) g.1 = 0 ∧ Lim4 (defsF (bs.take g.1))) (fun g => es.length - g.1)
    (fun g => [(1, true, .pointer (some ⟨bF, 0, none⟩)), (3, true, .slice g.2.q (defsF (bs.take g.1)).length g.2.c), (15, true, .slice q es.length cap), (16, true, .int .i64 (es.length : Int)), (17, true, .int .i64 (g.1 : Int))])
    (fun g => Cls [row w.heap.size g.2.O g.2.q (defsF (bs.take g.1)).length g.2.c 3 1 (ints (defsF (bs.take g.1))), blk bF 24 [.int .i64 nm, .slice q es.length cap]] [w]) (0, ⟨fun _ => False, none, 0⟩) ⟨by simp, rfl, by simp [defsF, Lim4]⟩ (by exact Sub.au) (fun w' hw' => hw'.row_nil w.heap.size 3 1) ?_
  rintro ⟨k, ⟨O0, q0, c0⟩⟩ ⟨hk, hk0, hlim⟩
  simp only at hk hk0 hlim ⊢
  apply W.sr
  apply obn; rfl; rfl; rfl; apply Bin.lss
  apply OL.nx
  apply W.seq
  (refine W.cnd (fun hlt => ?_) (fun hlt => ?_)) <;> (try (exfalso; first | omega | exact hlt trivial | contradiction))
  · have hkl : k < es.length := by omega
    obtain ⟨a, p, hqa, hab, hp, hcell, hok⟩ := he.get hkl
    have hab : a.block < w.heap.size := hab
    have hcell : CellsAt w (a.add (k * 7)) [.slice p.2.p.1 p.1.params.length p.2.p.2, .slice p.2.i.1 p.1.ins.length p.2.i.2, .int .i64 p.1.term.kind, .int .i64 p.1.term.arg, .int .i64 p.1.term.n, .slice p.2.t.c.1 p.1.term.cases.length p.2.t.c.2, .slice p.2.t.t.1 p.1.term.to_.length p.2.t.t.2] := hcell
    have hbsk : bs[k]? = some p.1 := by rw [← hbs, List.getElem?_map, hp]; rfl
    have hgd : bs.getD k noB = p.1 := by rw [List.getD_eq_getElem?_getD, hbsk]; rfl
    have hpl := hok.pl
    have hil := hok.il
    obtain ⟨pi, hpi, hiarr⟩ := hok.i
    have hpil : p.1.ins.length = pi.length := by rw [← hpi, List.length_map]
    have hdn : defsF (bs.take (k + 1)) = defsF (bs.take k) ++ defsB p.1 := by
      unfold defsF
      rw [List.take_add_one, hbsk, Option.toList_some, List.flatMap_append]
      simp
    have hbe : shapeE bs = if blockE bs (defsF (bs.take k)) p.1 ≠ 0 then blockE bs (defsF (bs.take k)) p.1 else shapeE bs := by
      split
      · rename_i h
        rw [hsz k hk0 (by rw [hgd]; exact h) (by omega), hgd]
      · rfl
    have hnx : blockE bs (defsF (bs.take k)) p.1 = 0 → firstR (fun k => blockE bs (defsF (bs.take k)) (bs.getD k noB)) (k + 1) = 0 := fun h => firstR_next hk0 (by rw [hgd]; exact h)
    generalize defsF (bs.take k) = seen at *
    rw [hqa]
    apply W.sk
    apply W.sb
    apply W.sr
    apply oop; rfl; apply Pev.idx; rfl; exact yes; rfl; exact yes; rfl; rfl; intro hcond; omega
    apply oop; rfl; apply Pev.load_keptA; rfl; exact yes; exact .head _; rfl; intro hcond; assumption; rfl; intro hcond; (rw [add_block]; assumption); intro hcond; exact NotOwned.au
    apply OL.alloc; rfl; rfl; exact CellsL.agg; (intro bk hbk; simp only [AllLe, and_true] at hbk)
    apply OL.storeB; rfl; rfl; exact CellsL.agg; rfl; rfl; rfl; exact Swap.au; exact Put.au
    apply OL.nx
    apply W.seq
    apply W.sr
    apply ofa; rfl; rfl; rfl
    apply old; rfl; rfl; exact .head _; rfl; rfl
    apply oop; rfl; apply Pev.len_slice; rfl; exact yes; rfl
    apply omv; rfl; rfl
    apply OL.nx
    apply W.block
    revert bk
    intro b5 hb5
    have hb51 : w.heap.size ≤ b5 := by first | exact hb5 | exact hb5.1
    refine W.loop (G := Nat × GR) (fun g => g.1 ≤ p.1.params.length ∧ firstR (paramE seen p.1.params) g.1 = 0 ∧ Lim4 (seen ++ p.1.params.take g.1)) (fun g => p.1.params.length - g.1)
      (fun g => [(1, true, .pointer (some ⟨bF, 0, none⟩)), (3, true, .slice g.2.q (seen ++ p.1.params.take g.1).length g.2.c), (5, true, .pointer (some ⟨b5, 0, none⟩)), (15, true, .slice (some a) es.length cap), (16, true, .int .i64 (es.length : Int)), (17, true, .int .i64 (k : Int)), (22, true, .slice p.2.p.1 p.1.params.length p.2.p.2), (23, true, .int .i64 (p.1.params.length : Int)), (24, true, .int .i64 (g.1 : Int))])
      (fun g => Cls [blk b5 41 [.slice p.2.p.1 p.1.params.length p.2.p.2, .slice p.2.i.1 p.1.ins.length p.2.i.2, .int .i64 p.1.term.kind, .int .i64 p.1.term.arg, .int .i64 p.1.term.n, .slice p.2.t.c.1 p.1.term.cases.length p.2.t.c.2, .slice p.2.t.t.1 p.1.term.to_.length p.2.t.t.2], row w.heap.size g.2.O g.2.q (seen ++ p.1.params.take g.1).length g.2.c 3 1 (ints (seen ++ p.1.params.take g.1)), blk bF 24 [.int .i64 nm, .slice (some a) es.length cap]] [w]) (0, ⟨O0, q0, c0⟩) ⟨by simp, rfl, by simpa using hlim⟩ (by simp only [List.take_zero, List.append_nil]; exact Sub.au) (fun w' hw' => by simpa only [List.take_zero, List.append_nil] using hw') ?_
    rintro ⟨j, ⟨Op, qp, cp⟩⟩ ⟨hj, hj0, hlim1⟩
    simp only at hj hj0 hlim1 ⊢
    apply W.sr
    apply obn; rfl; rfl; rfl; apply Bin.lss
    apply OL.nx
    apply W.seq
    (refine W.cnd (fun hlt1 => ?_) (fun hlt1 => ?_)) <;> (try (exfalso; first | omega | exact hlt1 trivial | contradiction))
    · have hjl : j < p.1.params.length := by omega
      obtain ⟨av, v, hqv, habv, hv, hcv⟩ := hok.p.get hjl
      have habv : av.block < w.heap.size := habv
      have hpe := paramE_at (seen := seen) hv
      have hln := hlim1.len
      have htk : p.1.params.take (j + 1) = p.1.params.take j ++ [v] := by rw [List.take_add_one, hv]; rfl
      generalize hs1 : seen ++ p.1.params.take j = seen1 at *
      rw [hqv]
      apply W.sk
      apply W.sb
      apply W.sr
      apply oop; rfl; apply Pev.idx; rfl; exact yes; rfl; exact yes; rfl; rfl; intro hcond; omega
      apply oop; rfl; apply Pev.load_kept; rfl; exact yes; exact .head _; rfl; intro hcond; assumption; intro hcond; (rw [add_block]; assumption); intro hcond; exact NotOwned.au
      apply oas; rfl; rfl
      apply OL.nx
      apply W.seq
      apply W.sr
      apply omv; rfl; rfl
      apply omv; rfl; rfl
      (((first | (with_reducible apply OL.op) | (with_reducible apply QL.op)); (exact Guard.au); rfl; rfl); (exact Pev.call (v := .int .i64 (defE v seen1)) rfl (by exact Args.au) (fun _ w2 hw2 => (defErr_calls v qp cp seen1 w2 (by omega) (rowIntsL hw2 (by exact mau))).mono (fun e w3 h => ⟨h.1, hw2.ext h.2⟩))))
      apply oas; rfl; rfl
      apply OL.nsr
      apply omv; rfl; rfl
      apply obn; rfl; rfl; rfl; apply Bin.neq
      apply OL.nx
      (refine W.cnd (fun hne => ?_) (fun hne => ?_)) <;> (try (exfalso; first | omega | exact hne trivial | contradiction))
      · have h5 : blockE bs seen p.1 = defE v seen1 := by
          unfold blockE
          rw [firstR_at hjl hj0 (by rw [hpe]; exact hne), hpe, if_pos hne]
        rw [hbe, h5, if_pos hne]
        apply W.sr
        apply omv; rfl; rfl
        apply oas; rfl; rfl
        apply OL.nx
        refine W.rt ?_
        ((with_reducible apply At.fin1); rfl; rfl; intro w' hw')
        exact ⟨rfl, by (exact hw'.fr)⟩
      have h0 : defE v seen1 = 0 := by simpa using hne
      apply W.sk
      apply W.reg
      apply omv; rfl; rfl
      apply omv; rfl; rfl
      apply OL.buildSlice; rfl; rfl; rfl; exact Elems.au; rfl; rfl; (intro bk hbk; simp only [AllLe, and_true] at hbk)
      apply OL.append; rfl; rfl; rfl; rfl; exact Hole.au; exact .head _; exact Take.au; rfl; rfl; exact ⟨_, .head _, Nat.le_refl _⟩; omega; intro O1 g1 cap1
      apply oas; rfl; rfl
      apply OL.nil
      with_reducible apply At.in_normal
      with_reducible apply At.next
      apply W.reg
      apply obn; rfl; rfl; rfl; apply Bin.add_in; omega
      apply omv; rfl; rfl
      apply OL.nil
      have hs2 : seen ++ p.1.params.take (j + 1) = seen1 ++ [v] := by rw [htk, ← List.append_assoc, hs1]
      refine At.again (j + 1, ⟨O1, some ⟨g1, 0, none⟩, cap1⟩) ⟨by simp only; omega, firstR_next hj0 (by rw [hpe]; exact h0), by simp only [hs2]; exact hlim1.snoc h0⟩ (by simp only; omega) (by simp only [hs2, List.length_append, List.length_cons, List.length_nil]; exact Sub.au) (fun w' hw' => ?_)
      simp only [hs2, ints_append, List.length_append, List.length_cons, List.length_nil]
      exact hw'.thin (by exact Thin.au)
    obtain rfl : j = p.1.params.length := by omega
    rw [List.take_length] at hlim1 ⊢
    have hB1 : blockE bs seen p.1 = if ¬ firstR (insE (seen ++ p.1.params) p.1.ins) p.1.ins.length = 0 then firstR (insE (seen ++ p.1.params) p.1.ins) p.1.ins.length else termE bs p.1.term := by
      unfold blockE
      rw [if_neg (fun h => h hj0)]
    have hdb : seen ++ defsB p.1 = (seen ++ p.1.params) ++ p.1.ins.map In.to_ := by unfold defsB; rw [List.append_assoc]
    rw [hdb] at hdn
    generalize seen ++ p.1.params = sp at *
    refine W.xt ?_
    with_reducible apply At.next
    apply W.seq
    apply W.sr
    apply ofa; rfl; rfl; rfl
    apply old; rfl; rfl; exact .head _; rfl; rfl
    apply oop; rfl; apply Pev.len_slice; rfl; exact yes; rfl
    apply omv; rfl; rfl
    apply OL.nx
    apply W.block
    refine W.loop (G := Nat × GR) (fun g => g.1 ≤ p.1.ins.length ∧ firstR (insE sp p.1.ins) g.1 = 0 ∧ Lim4 (sp ++ (p.1.ins.take g.1).map In.to_)) (fun g => p.1.ins.length - g.1)
      (fun g => [(1, true, .pointer (some ⟨bF, 0, none⟩)), (3, true, .slice g.2.q (sp ++ (p.1.ins.take g.1).map In.to_).length g.2.c), (5, true, .pointer (some ⟨b5, 0, none⟩)), (15, true, .slice (some a) es.length cap), (16, true, .int .i64 (es.length : Int)), (17, true, .int .i64 (k : Int)), (40, true, .slice p.2.i.1 p.1.ins.length p.2.i.2), (41, true, .int .i64 (p.1.ins.length : Int)), (42, true, .int .i64 (g.1 : Int))])
      (fun g => Cls [blk b5 41 [.slice p.2.p.1 p.1.params.length p.2.p.2, .slice p.2.i.1 p.1.ins.length p.2.i.2, .int .i64 p.1.term.kind, .int .i64 p.1.term.arg, .int .i64 p.1.term.n, .slice p.2.t.c.1 p.1.term.cases.length p.2.t.c.2, .slice p.2.t.t.1 p.1.term.to_.length p.2.t.t.2], row w.heap.size g.2.O g.2.q (sp ++ (p.1.ins.take g.1).map In.to_).length g.2.c 3 1 (ints (sp ++ (p.1.ins.take g.1).map In.to_)), blk bF 24 [.int .i64 nm, .slice (some a) es.length cap]] [w]) (0, ⟨Op, qp, cp⟩) ⟨by simp, rfl, by simpa using hlim1⟩ (by simp only [List.take_zero, List.map_nil, List.append_nil]; exact Sub.au) (fun w' hw' => by simpa only [List.take_zero, List.map_nil, List.append_nil] using hw') ?_
    rintro ⟨j, ⟨Oq, qq, cq⟩⟩ ⟨hj, hj1, hlim2⟩
    simp only at hj hj1 hlim2 ⊢
    apply W.sr
    apply obn; rfl; rfl; rfl; apply Bin.lss
    apply OL.nx
    apply W.seq
    (refine W.cnd (fun hlt2 => ?_) (fun hlt2 => ?_)) <;> (try (exfalso; first | omega | exact hlt2 trivial | contradiction))
    · have hjl : j < p.1.ins.length := by omega
      obtain ⟨ai, u, hqi, haib, hu, hcu, hoku⟩ := hiarr.get (show j < pi.length by omega)
      have haib : ai.block < w.heap.size := haib
      have hcu : CellsAt w (ai.add (j * 4)) [.int .i64 u.1.to_, .int .i64 u.1.op, .int .i64 u.1.n, .slice u.2.1 u.1.args.length u.2.2] := hcu
      have hui : p.1.ins[j]? = some u.1 := by rw [← hpi, List.getElem?_map, hu]; rfl
      have hual := hoku.al
      have hie := insE_at (seen := sp) hui
      have hln := hlim2.len
      have htk : p.1.ins.take (j + 1) = p.1.ins.take j ++ [u.1] := by rw [List.take_add_one, hui]; rfl
      have herr : insE sp p.1.ins j ≠ 0 → shapeE bs = insE sp p.1.ins j := fun h => by
        have h5 : blockE bs seen p.1 = insE sp p.1.ins j := by
          rw [hB1, firstR_at hjl hj1 h, if_pos h]
        rw [hbe, h5, if_pos h]
      generalize hs1 : sp ++ (p.1.ins.take j).map In.to_ = seen1 at *
      rw [hqi]
      apply W.sk
      apply W.sb
      apply W.sr
      apply oop; rfl; apply Pev.idx; rfl; exact yes; rfl; exact yes; rfl; rfl; intro hcond; omega
      apply oop; rfl; apply Pev.load_keptA; rfl; exact yes; exact .head _; rfl; intro hcond; assumption; rfl; intro hcond; (rw [add_block]; assumption); intro hcond; exact NotOwned.au
      apply OL.alloc; rfl; rfl; exact CellsL.agg; (intro bk hbk; simp only [AllLe, and_true] at hbk)
      apply OL.storeB; rfl; rfl; exact CellsL.agg; rfl; rfl; rfl; exact Swap.au; exact Put.au
      apply OL.nx
      apply W.seq
      apply W.sr
      apply ofa; rfl; rfl; rfl
      apply old; rfl; rfl; exact .head _; rfl; rfl
      apply omv; rfl; rfl
      revert bk
      intro b10 hb10
      (((first | (with_reducible apply OL.op) | (with_reducible apply QL.op)); (exact Guard.au); rfl; rfl); (exact Pev.call (v := .int .i64 (defE u.1.to_ seen1)) rfl (by exact Args.au) (fun _ w2 hw2 => (defErr_calls u.1.to_ qq cq seen1 w2 (by omega) (rowIntsL hw2 (by exact mau))).mono (fun e w3 h => ⟨h.1, hw2.ext h.2⟩))))
      apply oas; rfl; rfl
      apply OL.nsr
      apply omv; rfl; rfl
      apply obn; rfl; rfl; rfl; apply Bin.neq
      apply OL.nx
      (refine W.cnd (fun hne => ?_) (fun hne => ?_)) <;> (try (exfalso; first | omega | exact hne trivial | contradiction))
      · have h5 : insE sp p.1.ins j = defE u.1.to_ seen1 := by rw [hie, if_pos hne]
        rw [herr (by rw [h5]; exact hne), h5]
        apply W.sr
        apply omv; rfl; rfl
        apply oas; rfl; rfl
        apply OL.nx
        refine W.rt ?_
        ((with_reducible apply At.fin1); rfl; rfl; intro w' hw')
        exact ⟨rfl, by (exact hw'.fr)⟩
      have h0 : defE u.1.to_ seen1 = 0 := by simpa using hne
      have h5 : insE sp p.1.ins j = formE u.1 := by rw [hie, if_neg (fun h => h h0)]
      apply W.sk
      apply W.sr
      apply omv; rfl; rfl
      apply ofa; rfl; rfl; rfl
      apply old; rfl; rfl; exact .head _; rfl; rfl
      apply OL.buildSlice; rfl; rfl; rfl; exact Elems.au; rfl; rfl; (intro bk hbk; simp only [AllLe, and_true] at hbk)
      apply OL.append; rfl; rfl; rfl; rfl; exact Hole.au; exact .head _; exact Take.au; rfl; rfl; exact ⟨_, .head _, Nat.le_refl _⟩; omega; intro O1 g1 cap1
      apply oas; rfl; rfl
      apply OL.nsr
      apply oop; rfl; apply Pev.load_blkA; rfl; exact yes; exact .tail _ (.head _); rfl; exact Take.au
      (((first | (with_reducible apply OL.op) | (with_reducible apply QL.op)); (exact Guard.au); rfl; rfl); (exact Pev.call (v := .int .i64 (formE u.1)) rfl (by exact Args.au) (fun _ w2 hw2 => (insErr_calls u.1 u.2 w2 hual).mono (fun e w3 h => ⟨h.1, hw2.ext h.2⟩))))
      apply oas; rfl; rfl
      apply OL.nsr
      apply omv; rfl; rfl
      apply obn; rfl; rfl; rfl; apply Bin.neq
      apply OL.nx
      (refine W.cnd (fun hne2 => ?_) (fun hne2 => ?_)) <;> (try (exfalso; first | omega | exact hne2 trivial | contradiction))
      · rw [herr (by rw [h5]; exact hne2), h5]
        apply W.sr
        apply omv; rfl; rfl
        apply oas; rfl; rfl
        apply OL.nx
        refine W.rt ?_
        ((with_reducible apply At.fin1); rfl; rfl; intro w' hw')
        exact ⟨rfl, by (exact hw'.fr)⟩
      have h6 : formE u.1 = 0 := by simpa using hne2
      apply W.skip
      with_reducible apply At.in_normal
      with_reducible apply At.next
      apply W.reg
      apply obn; rfl; rfl; rfl; apply Bin.add_in; omega
      apply omv; rfl; rfl
      apply OL.nil
      have hs2 : sp ++ (p.1.ins.take (j + 1)).map In.to_ = seen1 ++ [u.1.to_] := by rw [htk, List.map_append, ← List.append_assoc, hs1]; rfl
      refine At.again (j + 1, ⟨O1, some ⟨g1, 0, none⟩, cap1⟩) ⟨by simp only; omega, firstR_next hj1 (by rw [h5]; exact h6), by simp only [hs2]; exact hlim2.snoc h0⟩ (by simp only; omega) (by simp only [hs2, List.length_append, List.length_cons, List.length_nil]; exact Sub.au) (fun w' hw' => ?_)
      simp only [hs2, ints_append, List.length_append, List.length_cons, List.length_nil]
      exact hw'.thin (by exact Thin.au)
    obtain rfl : j = p.1.ins.length := by omega
    rw [List.take_length] at hlim2 ⊢
    rw [if_neg (fun h => h hj1)] at hB1
    rw [← hdn] at hlim2 ⊢
    refine W.xt ?_
    with_reducible apply At.next
    apply W.sr
    apply oop; rfl; apply Pev.load_blkA; rfl; exact yes; exact .tail _ (.tail _ (.head _)); rfl; exact Take.au
    apply ofa; rfl; rfl; rfl
    apply oop; rfl; apply Pev.load_blkA; rfl; exact yes; exact .head _; rfl; exact Take.au
    (((first | (with_reducible apply OL.op) | (with_reducible apply QL.op)); (exact Guard.au); rfl; rfl); (exact Pev.call (v := .int .i64 (termE bs p.1.term)) rfl (by exact Args.au) (fun _ w2 hw2 => (termErr_calls es (some a) cap nm p.1.term p.2.t w2 ((hqa ▸ he : Arr bkR w (low w) es (some a)).at hw2 (by exact mau) (fun k hk => by exact NotOwned.au)) hlen (TmOk.at hok.t hw2 (by exact mau) (fun k hk => by exact NotOwned.au))).mono (fun e w3 h => ⟨by rw [h.1, hbs], hw2.ext h.2⟩))))
    apply oas; rfl; rfl
    apply OL.nsr
    apply omv; rfl; rfl
    apply obn; rfl; rfl; rfl; apply Bin.neq
    apply OL.nx
    (refine W.cnd (fun hne => ?_) (fun hne => ?_)) <;> (try (exfalso; first | omega | exact hne trivial | contradiction))
    · rw [hbe, hB1, if_pos hne]
      apply W.sr
      apply omv; rfl; rfl
      apply oas; rfl; rfl
      apply OL.nx
      refine W.rt ?_
      ((with_reducible apply At.fin1); rfl; rfl; intro w' hw')
      exact ⟨rfl, by (exact hw'.fr)⟩
    have h0 : termE bs p.1.term = 0 := by simpa using hne
    apply W.skip
    with_reducible apply At.in_normal
    with_reducible apply At.next
    apply W.reg
    apply obn; rfl; rfl; rfl; apply Bin.add_in; omega
    apply omv; rfl; rfl
    apply OL.nil
    exact At.again (k + 1, ⟨Oq, qq, cq⟩) ⟨by simp only; omega, hnx (by rw [hB1]; exact h0), hlim2⟩ (by simp only; omega) (by exact Sub.au) (fun w' hw' => hw'.thin (by exact Thin.au))
  obtain rfl : k = es.length := by omega
  have h0 : shapeE bs = 0 := by
    unfold shapeE
    rw [hbl]
    exact hk0
  rw [h0]
  refine W.xt ?_
  with_reducible apply At.next
  apply W.sr
  apply oas; rfl; rfl
  apply OL.nx
  apply W.ret
  ((with_reducible apply At.fin1); rfl; rfl; intro w' hw')
  exact ⟨rfl, by (exact hw'.fr)⟩
end Go.Proofs.Ytehelljmaiophaa.ss

/- The walks of the reference's Reach and Over. Conditions: none. -/
namespace Go.Ss
set_option linter.unusedVariables false
set_option linter.unusedSimpArgs false
open Go.Eng Go.RowKit
set_option linter.unusedVariables false
set_option linter.unusedSimpArgs false
def bls (l : List Bool) : List Value := l.map fun b => .bool b
theorem bls_length (l : List Bool) : (bls l).length = l.length := by simp [bls]
theorem bls_get {l : List Bool} {i : Nat} {b : Bool} (h : l[i]? = some b) : (bls l)[i]? = some (.bool b) := by simp [bls, h]
theorem bls_set (l : List Bool) (i : Nat) (b : Bool) : (bls l).set i (.bool b) = bls (l.set i b) := by simp [bls]
theorem bls_zero (n : Nat) : List.replicate n (Value.bool false) = bls (List.replicate n false) := by simp [bls]
theorem rc_none {G : List (List Int)} {v : Int} (h : v = 0 ∨ G.length = 0) (b : Nat) : ¬ Rc G v b := by
  intro hr
  induction hr with
  | zero h1 h2 => omega
  | step _ _ _ _ ih => exact ih
theorem getD_true {B : List Bool} {k : Nat} (hk : k < B.length) : B[k]? = some (B.getD k false) := by
  rw [List.getD_eq_getElem?_getD, List.getElem?_eq_getElem hk]; rfl
end Go.Ss
namespace Go.Proofs.Ytehelljmaiophaa.ss
set_option linter.unusedVariables false
set_option linter.unusedSimpArgs false
set_option maxRecDepth 100000
open Go.Eng Go.RowKit Go.Ss
set_option linter.unusedVariables false
set_option linter.unusedSimpArgs false
theorem Reach_calls (es : List (Bk × BkY)) (q : Option Addr) (cap : Nat) (nm v : Int) (w : World) (he : Arr bkR w (low w) es q) (hlen : es.length ≤ 140737488355328) :
    Calls Try.prog 39 [.agg #[.int .i64 nm, .slice q es.length cap], .int .i64 v].toArray w fun e w' => ∃ (b : Nat) (B : List Bool), e = .returned (.slice (some ⟨b, 0, none⟩) es.length es.length) ∧ B.length = es.length ∧ (∀ k : Nat, B[k]? = some true ↔ Rc (graphB (es.map Prod.fst)) v k) ∧ Ext w w' ∧ w.heap.size ≤ b ∧ (blk b 4 (bls B)).holds w' := by
  obtain ⟨G, hG⟩ : ∃ G, graphB (es.map Prod.fst) = G := ⟨_, rfl⟩
  have hGl : G.length = es.length := by rw [← hG]; simp [graphB]
  rw [hG]
  refine enter Try.func39 rfl Try.ntmps39 rfl (Cls.start w) ?_
  (simp only [argEnv, Nat.zero_add, Nat.reduceAdd])
  apply W.sr
  apply OL.box; rfl; rfl; exact CellsL.agg; (intro bk hbk; simp only [AllLe, and_true] at hbk)
  apply oas; rfl; rfl
  apply OL.nsr
  apply ofa; rfl; rfl; rfl
  apply old; rfl; rfl; exact .head _; rfl; rfl
  apply oop; rfl; apply Pev.len_slice; rfl; exact yes; rfl
  apply OL.makeSlice; rfl; rfl; rfl; rfl; rfl; rfl; rfl; omega; (intro bk hbk; simp only [AllLe, and_true] at hbk)
  apply oas; rfl; rfl
  apply OL.nx
  apply W.seq
  apply W.sr
  apply omv; rfl; rfl
  apply obn; rfl; rfl; rfl; apply Bin.eql
  apply omv; rfl; rfl
  apply ono; rfl; rfl; rfl; apply Pev.fld; rfl; exact yes; rfl
  apply ono; rfl; rfl; rfl; apply Pev.load_blk; rfl; exact fun h => h; exact .tail _ (.head _); rfl; rfl
  apply ono; rfl; rfl; rfl; apply Pev.len_slice; rfl; exact fun h => h; rfl
  apply ono; rfl; rfl; rfl; apply Pev.bin; rfl; exact fun h => h; rfl; exact yes; intro hcond; apply Bin.eql
  apply oop; rfl; apply Pev.pick_or; rfl; exact yes; rfl; exact fun h => h
  apply OL.nx
  rename_i bF hbF
  revert bk
  intro bR hbR
  rw [bls_zero]
  refine W.cond rfl (fun h1 => ?_) (fun h1 => ?_)
  · apply W.sr
    apply omv; rfl; rfl
    apply oas; rfl; rfl
    apply OL.nx
    refine W.rt ?_
    ((with_reducible apply At.fin1); rfl; rfl; intro w' hw')
    refine ⟨bR, List.replicate es.length false, rfl, by simp, fun k => ⟨fun h => ?_, fun h => absurd h (rc_none (by simp [-List.length_eq_zero_iff] at h1; omega) k)⟩, (hw'.thin (by exact Thin.au)).fr (by exact mau) (fun k hk => NotOwned.nil), ?_, hw'.item (by exact mau)⟩
    · have := List.getElem?_eq_some_iff.1 h
      simp at this
    · first | exact hbR | exact hbR.1 | exact hbR.mem _ (by exact mau)
  have hv0 : v ≠ 0 := by simp [-List.length_eq_zero_iff] at h1; omega
  have hn0 : 0 < es.length := by simp [-List.length_eq_zero_iff] at h1; omega
  have h1' : v ≠ 0 ∧ 0 < es.length := ⟨hv0, hn0⟩
  apply W.sk
  apply W.sr
  apply omv; rfl; rfl
  apply oop; rfl; apply Pev.idxB; rfl; exact yes; rfl; exact yes; rfl; intro hcond; omega; rfl
  (apply OL.storeI); rfl; rfl; rfl; rfl; rfl; (exact Swap.au); (rw [bls_length, List.length_replicate]; omega)
  rw [show (bls (List.replicate es.length false)).set (0 + Int.toNat 0 * 1) (.bool true) = bls ((List.replicate es.length false).set 0 true) from bls_set _ _ _]
  apply OL.nx
  apply W.seq
  apply W.sr
  apply ofa; rfl; rfl; rfl
  apply old; rfl; rfl; exact .tail _ (.head _); rfl; rfl
  apply oop; rfl; apply Pev.len_slice; rfl; exact yes; rfl
  apply omv; rfl; rfl
  apply OL.nx
  apply W.block
  have hBR : w.heap.size ≤ bR := by first | exact hbR | exact hbR.1 | exact hbR.mem _ (by exact mau)
  refine W.loop (G := Nat × List Bool) (fun g => g.1 ≤ es.length ∧ g.2.length = es.length ∧ (∀ b : Nat, g.2[b]? = some true → Rc G v b) ∧ g.2[0]? = some true ∧ (Closed G v g.2 ∨ g.1 + 1 ≤ cntT g.2)) (fun g => es.length - g.1)
    (fun g => [(1, true, .int .i64 v), (2, true, .pointer (some ⟨bF, 0, none⟩)), (5, true, .slice (some ⟨bR, 0, none⟩) es.length es.length), (27, true, .int .i64 (es.length : Int)), (28, true, .int .i64 (g.1 : Int))])
    (fun g => Cls [blk bR 4 (bls g.2), blk bF 24 [.int .i64 nm, .slice q es.length cap]] [w]) (0, (List.replicate es.length false).set 0 true) ⟨by simp, by simp, fun b hb => ?_, by rw [List.getElem?_set]; simp [h1'.2], .inr ?_⟩ (by exact Sub.au) (fun w' hw' => hw') ?_
  · rw [List.getElem?_set] at hb
    split at hb
    · rename_i e
      subst e
      exact .zero h1'.1 (by omega)
    · have := List.getElem?_eq_some_iff.1 hb
      simp at this
  · have : 0 < cntT ((List.replicate es.length false).set 0 true) := List.count_pos_iff.2 (List.mem_of_getElem? (i := 0) (by rw [List.getElem?_set]; simp [h1'.2]))
    simp only
    omega
  rintro ⟨r, B0⟩ ⟨hr, hB0, hs0, hz0, hc0⟩
  simp only at hr hB0 hs0 hz0 hc0 ⊢
  apply W.sr
  apply obn; rfl; rfl; rfl; apply Bin.lss
  apply OL.nx
  apply W.seq
  (refine W.cnd (fun hltr => ?_) (fun hltr => ?_)) <;> (try (exfalso; first | omega | exact hltr trivial | contradiction))
  · apply W.sk
    apply W.sb
    apply W.sr
    apply ofa; rfl; rfl; rfl
    apply old; rfl; rfl; exact .tail _ (.head _); rfl; rfl
    apply oop; rfl; apply Pev.len_slice; rfl; exact yes; rfl
    apply omv; rfl; rfl
    apply OL.nx
    apply W.block
    refine W.loop (G := Nat × List Bool) (fun g => g.1 ≤ es.length ∧ Rnd G v B0 g.2 g.1 0) (fun g => es.length - g.1)
      (fun g => [(1, true, .int .i64 v), (2, true, .pointer (some ⟨bF, 0, none⟩)), (5, true, .slice (some ⟨bR, 0, none⟩) es.length es.length), (27, true, .int .i64 (es.length : Int)), (28, true, .int .i64 (r : Int)), (31, true, .slice q es.length cap), (32, true, .int .i64 (es.length : Int)), (33, true, .int .i64 (g.1 : Int))])
      (fun g => Cls [blk bR 4 (bls g.2), blk bF 24 [.int .i64 nm, .slice q es.length cap]] [w]) (0, B0) ⟨by simp, .start (by omega) hs0⟩ (by exact Sub.au) (fun w' hw' => hw') ?_
    rintro ⟨k, B⟩ ⟨hk, hR⟩
    simp only at hk hR ⊢
    have hBl : B.length = es.length := by rw [hR.len, hGl]
    apply W.sr
    apply obn; rfl; rfl; rfl; apply Bin.lss
    apply OL.nx
    apply W.seq
    (refine W.cnd (fun hlt => ?_) (fun hlt => ?_)) <;> (try (exfalso; first | omega | exact hlt trivial | contradiction))
    · have hkl : k < es.length := by omega
      obtain ⟨a, p, hqa, hab, hp, hcell, hok⟩ := he.get hkl
      have hab : a.block < w.heap.size := hab
      have hcell : CellsAt w (a.add (k * 7)) [.slice p.2.p.1 p.1.params.length p.2.p.2, .slice p.2.i.1 p.1.ins.length p.2.i.2, .int .i64 p.1.term.kind, .int .i64 p.1.term.arg, .int .i64 p.1.term.n, .slice p.2.t.c.1 p.1.term.cases.length p.2.t.c.2, .slice p.2.t.t.1 p.1.term.to_.length p.2.t.t.2] := hcell
      have htl := hok.t.tl
      obtain ⟨ts, hts, harr⟩ := hok.t.t
      have htl2 : p.1.term.to_.length = ts.length := by rw [← hts, List.length_map]
      have hGk : G[k]? = some (p.1.term.to_.map Ed.block) := by
        rw [← hG]
        simp [graphB, hp]
      rw [hqa]
      apply W.sk
      apply W.sb
      apply W.sr
      apply omv; rfl; rfl
      apply oop; rfl; apply Pev.idx; rfl; exact yes; rfl; exact yes; rfl; rfl; intro hcond; omega
      apply oop; rfl; apply Pev.load_keptA; rfl; exact yes; exact .head _; rfl; intro hcond; assumption; rfl; intro hcond; (rw [add_block]; assumption); intro hcond; exact NotOwned.au
      apply OL.alloc; rfl; rfl; exact CellsL.agg; (intro bk hbk; simp only [AllLe, and_true] at hbk)
      apply oas; rfl; rfl
      apply OL.storeB; rfl; rfl; exact CellsL.agg; rfl; rfl; rfl; exact Swap.au; exact Put.au
      apply OL.nsr
      apply ofa; rfl; rfl; rfl
      apply ofa; rfl; rfl; rfl
      apply old; rfl; rfl; exact .head _; rfl; rfl
      apply oop; rfl; apply Pev.len_slice; rfl; exact yes; rfl
      apply omv; rfl; rfl
      apply OL.nx
      apply W.block
      revert bk
      intro b7 hb7
      refine W.loop (G := Nat × List Bool) (fun g => g.1 ≤ ts.length ∧ Rnd G v B0 g.2 k g.1) (fun g => ts.length - g.1)
        (fun g => [(1, true, .int .i64 v), (2, true, .pointer (some ⟨bF, 0, none⟩)), (5, true, .slice (some ⟨bR, 0, none⟩) es.length es.length), (6, true, .int .i64 (k : Int)), (27, true, .int .i64 (es.length : Int)), (28, true, .int .i64 (r : Int)), (31, true, .slice (some a) es.length cap), (32, true, .int .i64 (es.length : Int)), (33, true, .int .i64 (k : Int)), (40, true, .slice p.2.t.t.1 ts.length p.2.t.t.2), (41, true, .int .i64 (ts.length : Int)), (42, true, .int .i64 (g.1 : Int))])
        (fun g => Cls [blk bR 4 (bls g.2), blk bF 24 [.int .i64 nm, .slice (some a) es.length cap]] [w]) (0, B) ⟨by simp, hR⟩ (by rw [htl2]; exact Sub.au) (fun w' hw' => hw'.thin (by exact Thin.au)) ?_
      rintro ⟨j, C⟩ ⟨hj, hRC⟩
      simp only at hj hRC ⊢
      have hCl : C.length = es.length := by rw [hRC.len, hGl]
      apply W.sr
      apply obn; rfl; rfl; rfl; apply Bin.lss
      apply OL.nx
      apply W.seq
      (refine W.cnd (fun hlt2 => ?_) (fun hlt2 => ?_)) <;> (try (exfalso; first | omega | exact hlt2 trivial | contradiction))
      · have hjl : j < ts.length := by omega
        obtain ⟨ae, u, hqt, hatb, hu, hcu, hoku⟩ := harr.get hjl
        have hatb : ae.block < w.heap.size := hatb
        have hcu : CellsAt w (ae.add (j * 2)) [.int .i64 u.1.block, .slice u.2.1 u.1.args.length u.2.2] := hcu
        have hue : (p.1.term.to_.map Ed.block)[j]? = some u.1.block := by rw [← hts]; simp [hu]
        have hck : C[k]? = some (C.getD k false) := getD_true (by omega)
        have hckv : (bls C)[0 + (k : Int).toNat * 1]? = some (.bool (C.getD k false)) := by
          rw [show 0 + (k : Int).toNat * 1 = k by omega]
          exact bls_get hck
        rw [hqt]
        apply W.sk
        apply W.sb
        apply W.sr
        apply oop; rfl; apply Pev.idx; rfl; exact yes; rfl; exact yes; rfl; rfl; intro hcond; omega
        apply oop; rfl; apply Pev.load_keptA; rfl; exact yes; exact .head _; rfl; intro hcond; assumption; rfl; intro hcond; (rw [add_block]; assumption); intro hcond; exact NotOwned.au
        apply OL.alloc; rfl; rfl; exact CellsL.agg; (intro bk hbk; simp only [AllLe, and_true] at hbk)
        apply OL.storeB; rfl; rfl; exact CellsL.agg; rfl; rfl; rfl; exact Swap.au; exact Put.au
        apply OL.nsr
        apply omv; rfl; rfl
        apply omv; rfl; rfl
        apply oop; rfl; apply Pev.idxB; rfl; exact yes; rfl; exact yes; rfl; intro hcond; omega; rfl
        apply oop; rfl; apply Pev.load_blk; rfl; exact yes; exact .tail _ (.head _); rfl; assumption
        apply omv; rfl; rfl
        apply oy; rfl; rfl; rfl; apply Pev.fld; rfl; exact yes; rfl
        apply oy; rfl; rfl; rfl; apply Pev.load_blk; rfl; exact fun h => h; exact .head _; rfl; rfl
        apply oy; rfl; rfl; rfl; apply Pev.move; rfl; exact yes
        apply oy; rfl; rfl; rfl; apply Pev.bin; rfl; exact fun h => h; rfl; exact fun h => h; intro hcond; apply Bin.neq
        apply oop; rfl; apply Pev.pick_and; rfl; exact yes; rfl; exact fun h => h
        apply omv; rfl; rfl
        apply oy; rfl; rfl; rfl; apply Pev.fld; rfl; exact yes; rfl
        apply oy; rfl; rfl; rfl; apply Pev.load_blk; rfl; exact fun h => h; exact .head _; rfl; rfl
        apply oy; rfl; rfl; rfl; apply Pev.fld; rfl; exact yes; rfl
        apply oy; rfl; rfl; rfl; apply Pev.load_blk; rfl; exact fun h => h; exact .tail _ (.tail _ (.head _)); rfl; rfl
        apply oy; rfl; rfl; rfl; apply Pev.len_slice; rfl; exact fun h => h; rfl
        apply oy; rfl; rfl; rfl; apply Pev.bin; rfl; exact fun h => h; rfl; exact yes; intro hcond; apply Bin.sub_in; omega
        (((first | (with_reducible apply OL.op) | (with_reducible apply QL.op)); (exact Guard.au); rfl; rfl); (exact Pev.call (v := .bool (decide (0 ≤ u.1.block) && decide (u.1.block ≤ (es.length : Int) - 1))) rfl (by exact Args.au) (fun _ w2 hw2 => (Within_calls u.1.block 0 ((es.length : Int) - 1) w2).mono (fun e w3 h => ⟨h.1, hw2.ext h.2⟩))))
        apply oop; rfl; apply Pev.pick_and; rfl; exact yes; rfl; exact fun h => h
        apply OL.nx
        refine W.cond rfl (fun h3 => ?_) (fun h3 => ?_)
        · simp at h3
          have hb0 : 0 ≤ u.1.block := by omega
          have hb1 : u.1.block < (es.length : Int) := by omega
          have hck' : C[k]? = some true := by rw [hck]; simpa using h3.1.1
          apply W.reg
          apply omv; rfl; rfl
          apply ofa; rfl; rfl; rfl
          apply old; rfl; rfl; exact .head _; rfl; rfl
          apply oop; rfl; apply Pev.idxB; rfl; exact yes; rfl; exact yes; rfl; intro hcond; omega; rfl
          (apply OL.storeI); rfl; rfl; rfl; rfl; rfl; (exact Swap.au); (rw [bls_length]; omega)
          rw [show (bls C).set (0 + u.1.block.toNat * 1) (.bool true) = bls (C.set u.1.block.toNat true) by rw [show 0 + u.1.block.toNat * 1 = u.1.block.toNat by omega]; exact bls_set _ _ _]
          apply OL.nil
          with_reducible apply At.in_normal
          with_reducible apply At.next
          apply W.reg
          apply obn; rfl; rfl; rfl; apply Bin.add_in; omega
          apply omv; rfl; rfl
          apply OL.nil
          exact At.again (j + 1, C.set u.1.block.toNat true) ⟨by simp only; omega, hRC.mark hGk hue hck' (by omega) ⟨hb0, by omega⟩⟩ (by simp only; omega) (by exact Sub.au) (fun w' hw' => hw'.thin (by exact Thin.au))
        · apply W.skip
          with_reducible apply At.in_normal
          with_reducible apply At.next
          apply W.reg
          apply obn; rfl; rfl; rfl; apply Bin.add_in; omega
          apply omv; rfl; rfl
          apply OL.nil
          refine At.again (j + 1, C) ⟨by simp only; omega, hRC.skip hGk hue ?_⟩ (by simp only; omega) (by exact Sub.au) (fun w' hw' => hw'.thin (by exact Thin.au))
          simp at h3
          by_cases e1 : C[k]? = some true
          · right
            have e2 : C.getD k false = true := by rw [hck] at e1; exact Option.some.inj e1
            by_cases e3 : u.1.block = v
            · exact .inl e3
            · right
              intro e4
              have := h3 (by simpa using e2) e3 e4.1
              omega
          · exact .inl e1
      · obtain rfl : j = ts.length := by omega
        refine W.xt ?_
        with_reducible apply At.in_normal
        with_reducible apply At.next
        apply W.reg
        apply obn; rfl; rfl; rfl; apply Bin.add_in; omega
        apply omv; rfl; rfl
        apply OL.nil
        refine At.again (k + 1, C) ⟨by simp only; omega, Rnd.next (l := p.1.term.to_.map Ed.block) (by rw [List.length_map, htl2]; exact hRC) hGk⟩ (by simp only; omega) (by exact Sub.au) (fun w' hw' => hw')
    · obtain rfl : k = es.length := by omega
      refine W.xt ?_
      with_reducible apply At.in_normal
      with_reducible apply At.next
      apply W.reg
      apply obn; rfl; rfl; rfl; apply Bin.add_in; omega
      apply omv; rfl; rfl
      apply OL.nil
      refine At.again (r + 1, B) ⟨by simp only; omega, hBl, hR.snd, hR.le.2 0 hz0, ?_⟩ (by simp only; omega) (by exact Sub.au) (fun w' hw' => hw')
      rcases hc0 with hc0 | hc0
      · exact .inl (hR.closed hc0 (fun _ _ => hz0))
      · rw [← hGl] at hR
        rcases hR.done with h5 | h5
        · exact .inl h5
        · exact .inr (by simp only; omega)
  · obtain rfl : r = es.length := by omega
    have hcl : Closed G v B0 := by
      rcases hc0 with hc0 | hc0
      · exact hc0
      · have := cntT_le B0
        omega
    refine W.xt ?_
    with_reducible apply At.next
    apply W.sr
    apply omv; rfl; rfl
    apply oas; rfl; rfl
    apply OL.nx
    apply W.ret
    ((with_reducible apply At.fin1); rfl; rfl; intro w' hw')
    exact ⟨bR, B0, rfl, hB0, closed_all hcl hs0 (fun _ _ => hz0), (hw'.thin (by exact Thin.au)).fr (by exact mau) (fun k hk => NotOwned.nil), hBR, hw'.item (by exact mau)⟩
end Go.Proofs.Ytehelljmaiophaa.ss

/- Nodes of four cells (two strings, two pointers), each in a block of its own: an item for a table of them; loads, stores of the pointers, new ones, comparisons of pointers. General. No condition. -/
namespace Go.Eng
set_option linter.unusedVariables false
set_option linter.unusedSimpArgs false
open Go.RowKit
set_option linter.unusedVariables false
set_option linter.unusedSimpArgs false

structure Nd where
  key : ByteArray
  val : ByteArray
  nx : Option Nat
  pr : Option Nat
abbrev NdT := Nat → Option Nd
def ptrV (k : Nat) : Value := .pointer (some ⟨k, 0, none⟩)
def ptrO : Option Nat → Value | none => .pointer none | some k => .pointer (some ⟨k, 0, none⟩)
def ndc (x : Nd) : List Value := [.string x.key, .string x.val, ptrO x.nx, ptrO x.pr]
def setNx (f : NdT) (b v : Nat) : NdT := fun k => if k = b then (f k).map fun y => { y with nx := some v } else f k
def setPr (f : NdT) (b v : Nat) : NdT := fun k => if k = b then (f k).map fun y => { y with pr := some v } else f k
theorem setNx_some {f : NdT} {b v k : Nat} : (setNx f b v k).isSome = (f k).isSome := by unfold setNx; split <;> simp
theorem setPr_some {f : NdT} {b v k : Nat} : (setPr f b v k).isSome = (f k).isSome := by unfold setPr; split <;> simp
def fset (f : NdT) (b : Nat) (x : Nd) : NdT := fun k => if k = b then some x else f k
theorem fset_same {f : NdT} {b : Nat} {x : Nd} : fset f b x b = some x := by simp [fset]
theorem fset_other {f : NdT} {b k : Nat} {x : Nd} (h : k ≠ b) : fset f b x k = f k := by simp [fset, h]
theorem fset_some {f : NdT} {b k : Nat} {x : Nd} (h : (f k).isSome = true) : (fset f b x k).isSome = true := by
  unfold fset; split <;> simp_all
/-- the nodes of the table f -/
def nds (t : TypeId) (f : NdT) : Item :=
  ⟨fun k => (f k).isSome = true, fun w => ∀ k x, f k = some x → w.heap[k]? = some (.cells (ndc x).toArray t (0, 0)), fun w w' hk h k x hx => (hk k (by simp [hx])).trans (h k x hx)⟩
theorem NotOwned.nds {H : List Item} {t : TypeId} {f : NdT} {k : Nat} (h : f k = none) (r : NotOwned H k) : NotOwned (Eng.nds t f :: H) k := NotOwned.any (fun hm => by
  have hm' : (f k).isSome = true := hm
  rw [h] at hm'; cases hm') r
section
variable {P : Program} {n : Nat} {l : Env} {H : List Item} {S : List World} {C : World → Prop} {c : Bool} {d : Option Nat} {ty : TypeId} {pos : String} {af : Array Edge} {g : Option (Nat × Bool)}
variable {ops : Array Oper} {rest : List Oper} {Q : Exit → Act → World → Prop} {t : TypeId} {x y z : Operand} {cx cy cz : Bool}

theorem Pev.load_nd {b o : Nat} {t' : TypeId} {f : NdT} {ky va : ByteArray} {nx pr : Option Nat} {v : Value} (hx : evl l x = some (cx, .pointer (some ⟨b, o, none⟩))) (hcx : c = true → cx = true) (hp : nds t' f ∈ H) (hs : scalB P t = true) (hf : f b = some ⟨ky, va, nx, pr⟩) (hv : ([.string ky, .string va, ptrO nx, ptrO pr] : List Value)[o]? = some v) :
    Pev P n l (Cls H S) ⟨d, .load t x, ty, pos, af, g⟩ c v :=
  .load_of hx hcx fun _ w hw => run_loadVar_scal hs (by
    have hb : (blk b t' (ndc ⟨ky, va, nx, pr⟩)).holds w := hw.item hp b _ hf
    rw [blk_cell hb]; exact hv)
theorem OL.storeNd {p b o : Nat} {t' : TypeId} {f : NdT} {nd nd' : Nd} {v : Value} {F : Item → List Item} (hx : evl l x = some (true, .pointer (some ⟨b, o, none⟩))) (hy : evl l y = some (true, v)) (hv : v.cells = #[v]) (h1 : oneL [v] = true) (hs : sizeN P t = some 1)
    (hH : Hole p H (nds t' f) F) (hf : f b = some nd) (ho : o < 4) (hnd : ndc nd' = (ndc nd).set o v) (kk : OL P n ops Q rest l (Cls (F (nds t' (fset f b nd'))) S)) : OL P n ops Q (⟨none, .store t x y, ty, pos, af, none⟩ :: rest) l (Cls H S) := by
  obtain ⟨hp, hF⟩ := hH.eq
  rw [hF] at kk
  refine OL.store_ (C' := Cls (H.set p (nds t' (fset f b nd'))) S) rfl rfl (fun a w hs' hc => ?_) kk
  have hb := hc.item (List.mem_of_getElem? hp) b nd hf
  obtain ⟨w', hr, hh, hkp⟩ := run_storeAt_blk (P := P) (t := t) (o := o) (vs := [v]) hb hs hv rfl (by simp [ndc]; omega) h1
  have own : (nds t' f).own b := by show (f b).isSome = true; rw [hf]; rfl
  refine ⟨w', ?_, hc.turn p hp (j := nds t' (fset f b nd')) (hkp.mono fun k _ hk => by rw [hk]; exact own) (fun k u hu => ?_) (fun q hq => ?_) (fun q hq => fset_some hq)⟩
  · simp only [execOp, hs'.eval hx rfl, hs'.eval hy rfl, Sem.run_bind, hr, Result.andThen_ok]; rfl
  · by_cases hkb : k = b
    · subst hkb
      rw [fset_same] at hu
      cases hu
      rw [hh, hnd]; rfl
    · rw [fset_other hkb] at hu
      have h3 := hc.item (List.mem_of_getElem? hp) k u hu
      exact (hkp.block k (Array.getElem?_eq_some_iff.1 h3).1 hkb).trans h3
  · have hq' : (fset f b nd' q).isSome = true := hq
    have hq2 : (f q).isSome = true := by
      by_cases hqb : q = b
      · subst hqb; rw [hf]; rfl
      · rwa [fset_other hqb] at hq'
    exact ⟨.inl hq2, Nat.lt_of_lt_of_le (hc.lt _ (List.mem_of_getElem? hp) q hq2) hkp.size⟩
theorem OL.storeNx {p b k : Nat} {t' : TypeId} {f : NdT} {F : Item → List Item} (hx : evl l x = some (true, .pointer (some ⟨b, 2, none⟩))) (hy : evl l y = some (true, .pointer (some ⟨k, 0, none⟩))) (hs : sizeN P t = some 1)
    (hH : Hole p H (nds t' f) F) (hf : (f b).isSome = true) (kk : OL P n ops Q rest l (Cls (F (nds t' (setNx f b k))) S)) : OL P n ops Q (⟨none, .store t x y, ty, pos, af, none⟩ :: rest) l (Cls H S) := by
  obtain ⟨nd, hnd⟩ := Option.isSome_iff_exists.1 hf
  refine OL.storeNd (nd' := { nd with nx := some k }) hx hy rfl rfl hs hH hnd (by decide) rfl ?_
  have : fset f b { nd with nx := some k } = setNx f b k := by
    funext j
    unfold fset setNx
    by_cases hj : j = b
    · rw [if_pos hj, if_pos hj, hj, hnd]; rfl
    · rw [if_neg hj, if_neg hj]
  rw [this]; exact kk
theorem OL.storePr {p b k : Nat} {t' : TypeId} {f : NdT} {F : Item → List Item} (hx : evl l x = some (true, .pointer (some ⟨b, 3, none⟩))) (hy : evl l y = some (true, .pointer (some ⟨k, 0, none⟩))) (hs : sizeN P t = some 1)
    (hH : Hole p H (nds t' f) F) (hf : (f b).isSome = true) (kk : OL P n ops Q rest l (Cls (F (nds t' (setPr f b k))) S)) : OL P n ops Q (⟨none, .store t x y, ty, pos, af, none⟩ :: rest) l (Cls H S) := by
  obtain ⟨nd, hnd⟩ := Option.isSome_iff_exists.1 hf
  refine OL.storeNd (nd' := { nd with pr := some k }) hx hy rfl rfl hs hH hnd (by decide) rfl ?_
  have : fset f b { nd with pr := some k } = setPr f b k := by
    funext j
    unfold fset setPr
    by_cases hj : j = b
    · rw [if_pos hj, if_pos hj, hj, hnd]; rfl
    · rw [if_neg hj, if_neg hj]
  rw [this]; exact kk
/-- a block becomes a node -/
theorem Cls.nd_new {b : Nat} {t' : TypeId} {f : NdT} {nd : Nd} {w : World} (h : Cls (blk b t' (ndc nd) :: nds t' f :: H) S w) : Cls (nds t' (fset f b nd) :: H) S w := by
  have hd := List.pairwise_cons.1 h.dj
  have hd2 := List.pairwise_cons.1 hd.2
  refine ⟨fun i hi => ?_, fun i hi => ?_, .cons (fun j hj k hk hk' => ?_) hd2.2, fun s hs => (h.kp s hs).mono fun k _ ⟨j, hj, hjk⟩ => ?_⟩
  · cases hi with
    | head =>
      intro k u hu
      by_cases hkb : k = b
      · subst hkb
        rw [fset_same] at hu; cases hu
        exact h.holds _ (.head _)
      · rw [fset_other hkb] at hu
        exact h.holds _ (.tail _ (.head _)) k u hu
    | tail _ hi => exact h.holds _ (.tail _ (.tail _ hi))
  · cases hi with
    | head =>
      intro k hk
      have hk' : (fset f b nd k).isSome = true := hk
      by_cases hkb : k = b
      · subst hkb; exact h.lt _ (.head _) k rfl
      · rw [fset_other hkb] at hk'
        exact h.lt _ (.tail _ (.head _)) k hk'
    | tail _ hi => exact h.lt _ (.tail _ (.tail _ hi))
  · have hk2 : (fset f b nd k).isSome = true := hk
    by_cases hkb : k = b
    · subst hkb; exact hd.1 j (.tail _ hj) k rfl hk'
    · rw [fset_other hkb] at hk2
      exact hd2.1 j hj k hk2 hk'
  · cases hj with
    | head =>
      have hjk' : k = b := hjk
      exact ⟨_, .head _, by show (fset f b nd k).isSome = true; rw [hjk', fset_same]; rfl⟩
    | tail _ hj =>
      cases hj with
      | head => exact ⟨_, .head _, by show (fset f b nd k).isSome = true; exact fset_some hjk⟩
      | tail _ hj => exact ⟨_, .tail _ hj, hjk⟩
/-- a block is no node -/
theorem Cls.nd_fresh {b : Nat} {t' t2 : TypeId} {cs : List Value} {f : NdT} {w : World} (h : Cls (blk b t2 cs :: nds t' f :: H) S w) : f b = none := by
  have hd := (List.pairwise_cons.1 h.dj).1 _ (.head _) b rfl
  have hd' : ¬ (f b).isSome = true := hd
  cases hfb : f b with
  | none => rfl
  | some x => rw [hfb] at hd'; exact absurd rfl hd'
theorem Cls.nds_zero {w : World} {t' : TypeId} (h : Cls H S w) : Cls (nds t' (fun _ => none) :: H) S w :=
  h.add (Keep.refl _ _) _ (fun k x hx => by cases hx) (fun k hk => by
    have hk' : ((none : Option Nd)).isSome = true := hk
    cases hk')

/-! comparisons of pointers -/
theorem guard_ptr {op : BinOp} {x y : Operand} {p p' : Option Addr} {w : World} : (eqGuard op t x y (.pointer p) (.pointer p')).run P w = .ok () w := by cases op <;> rfl
def ptrB (P : Program) (t : TypeId) : Bool := match P.underlying t with | some (.pointer e) => (match P.info? e with | some j => !Nat.beq j.size 0 | none => false) && (Nat.beq (P.pointee t) e) | _ => false
theorem ptrB_spec (h : ptrB P t = true) : ∃ e j, P.underlying t = some (.pointer e) ∧ P.info? e = some j ∧ j.size ≠ 0 ∧ P.pointee t = e := by
  unfold ptrB at h
  split at h
  · rename_i e he
    split at h
    · rename_i j hj
      simp only [Bool.and_eq_true, Bool.not_eq_true'] at h
      exact ⟨e, j, he, hj, fun hh => by rw [hh] at h; simp at h, Nat.eq_of_beq_eq_true h.2⟩
    · simp at h
  · cases h
theorem Bin.ptr_nil {p : Option Addr} (hu : ptrB P t = true) : Bin P .eql t (.pointer p) (.pointer none) (.bool p.isNone) := ⟨fun x y w => by
  obtain ⟨e, j, h1, h2, h3, h4⟩ := ptrB_spec hu
  rw [Sem.run_bind, guard_ptr, Result.andThen_ok]
  have := run_eql_pointer_nil (P := P) (w := w) t p (by rw [h4]; exact h1)
  rw [this]⟩
theorem Bin.ptr_nnil {p : Option Addr} (hu : ptrB P t = true) : Bin P .neq t (.pointer p) (.pointer none) (.bool (!p.isNone)) := ⟨fun x y w => by
  obtain ⟨e, j, h1, h2, h3, h4⟩ := ptrB_spec hu
  rw [Sem.run_bind, guard_ptr, Result.andThen_ok]
  have := run_neq_pointer_nil (P := P) (w := w) t p (by rw [h4]; exact h1)
  rw [this]⟩
theorem run_neq_ptr_other {tp te : TypeId} {j : TypeInfo} {w : World} {a b : Addr} {ca cb : Array Value} {ta tb : TypeId} (hp : P.underlying tp = some (.pointer te)) (hte : P.info? te = some j) (hsz : j.size ≠ 0)
    (hne : a ≠ b) (ha : w.heap[a.block]? = some (.cells ca ta (0, 0))) (hb : w.heap[b.block]? = some (.cells cb tb (0, 0))) :
    (binOp .neq tp (.pointer (some a)) (.pointer (some b))).run P w = .ok (.bool true) w := by
  have h : ∀ d : Nat, (Op.equalIn (d + 1) tp (.pointer (some a)) (.pointer (some b))).run P w = .ok false w := fun d => by
    simp [Op.equalIn, run_underlying hp, sizeOf, typeInfo, hte, hsz, run_sameAddr_other w hne ha hb]
  simp only [binOp]
  simp [Op.equal, Op.maxDepth, h 9999]
theorem Pev.nd_neq {a b : Nat} {t' : TypeId} {f : NdT} {yt : TypeId} (hx : evl l x = some (cx, .pointer (some ⟨a, 0, none⟩))) (hcx : c = true → cx = true) (hy : evl l y = some (cy, .pointer (some ⟨b, 0, none⟩))) (hcy : c = true → cy = true) (hu : ptrB P t = true)
    (hp : nds t' f ∈ H) (ha : (f a).isSome = true) (hb : (f b).isSome = true) : Pev P n l (Cls H S) ⟨d, .binOp .neq t x y yt, ty, pos, af, g⟩ c (.bool (!decide (a = b))) :=
  .of_run fun h ac w hs' hw => by
    obtain ⟨e, j, h1, h2, h3, h4⟩ := ptrB_spec hu
    have hr : (binOp .neq t (.pointer (some ⟨a, 0, none⟩)) (.pointer (some ⟨b, 0, none⟩))).run P w = .ok (.bool (!decide (a = b))) w := by
      by_cases hab : a = b
      · subst hab
        rw [Lib.run_neq_ptr_same w _ h1 h2]; simp
      · obtain ⟨xa, hxa⟩ := Option.isSome_iff_exists.1 ha
        obtain ⟨xb, hxb⟩ := Option.isSome_iff_exists.1 hb
        rw [run_neq_ptr_other h1 h2 h3 (fun hh => hab (by cases hh; rfl)) (hw.item hp a xa hxa) (hw.item hp b xb hxb)]
        simp [hab]
    simp only [execOp, hs'.eval hx (hcx h), hs'.eval hy (hcy h), Sem.run_bind, guard_ptr, hr, Result.andThen_ok]
    rfl
theorem Pev.slice_hm {e : TypeId} {sz len cp j m : Nat} {k' k'' : IntKind} {b e3 : Int} {q : Option Addr} {u : Operand} {cu : Bool} (hx : evl l x = some (cx, .slice q len cp)) (hcx : c = true → cx = true)
    (hz : evl l z = some (cz, .int k' b)) (hcz : c = true → cz = true) (hm : evl l u = some (cu, .int k'' e3)) (hcm : c = true → cu = true) (hu : slElem P t = some (e, sz)) (hb : b = (j : Int)) (hm3 : e3 = (m : Int)) (hr : c = true → j ≤ m ∧ m ≤ cp) :
    Pev P n l C ⟨d, .slice t x none (some z) (some u), ty, pos, af, g⟩ c (.slice q j m) :=
  .of_run fun h a w hs hw => by
    subst hb
    subst hm3
    obtain ⟨h2, h3⟩ := hr h
    obtain ⟨hus, hsz⟩ := slElem_both hu
    simp only [execOp, hs.eval hx (hcx h), Option.map_some, Option.map_none, hs.eval hz (hcz h), hs.eval hm (hcm h), Instr.sliceAt, Instr.slice, Sem.run_bind, run_underlying hus, Result.andThen_ok, Instr.sliceBounds, Instr.sliceBound, asIntOf, Sem.run_pure, run_sizeN hsz]
    simp [h2, h3, add_zero_]
theorem row_le {w : World} {base m cap size : Nat} {O : Nat → Prop} {q : Option Addr} {e : TypeId} {xs : List Value} (h : (row base O q m cap e size xs).holds w) : m ≤ cap := by
  rcases h.2.2 with ⟨h3, h4⟩ | ⟨g, cap', cur, h3, hb, hg, h4, h5⟩
  · omega
  · simp only [Value.slice.injEq] at h3
    obtain ⟨_, _, rfl⟩ := h3
    exact h4
theorem Thin.row {base m cap size : Nat} {O : Nat → Prop} {q : Option Addr} {e : TypeId} {xs : List Value} {H' : List Item} (hb : AllLe S base) (h : Thin S H H') : Thin S (Eng.row base O q m cap e size xs :: H) H' :=
  Thin.any (fun k hk => by
    have := hb.mem
    have hk' : base ≤ k := hk.1
    clear hk hb h
    induction S with
    | nil => trivial
    | cons s S ih => exact ⟨Nat.le_trans (this s (.head _)) hk', ih fun s hs => this s (.tail _ hs)⟩) h
theorem W.ex {α : Type} {code : Code} {C : α → World → Prop} (h : ∀ x, W P n code Q l (C x)) : W P n code Q l (fun w => ∃ x, C x w) := ⟨fun a w hs ⟨x, hc⟩ => (h x).run a w hs hc⟩
theorem OL.ex {α : Type} {C : α → World → Prop} (h : ∀ x, OL P n ops Q rest l (C x)) : OL P n ops Q rest l (fun w => ∃ x, C x w) := ⟨fun a w hs ⟨x, hc⟩ => (h x).run a w hs hc⟩
theorem Pev.lookup_o {k e : TypeId} {b : Nat} {m : MP} {s : ByteArray} {o : Option Nat} (hx : evl l x = some (cx, .map (some b))) (hcx : c = true → cx = true) (hy : evl l y = some (cy, .string s)) (hcy : c = true → cy = true) (ht : mapT P t = some (k, e)) (hz : zeroV P e = some (.pointer none)) (hm : mapS b m ∈ H) (hg : mget m s = o.map fun j => .pointer (some ⟨j, 0, none⟩)) :
    Pev P n l (Cls H S) ⟨d, .lookup t x y false, ty, pos, af, g⟩ c (.pointer (o.map fun j => ⟨j, 0, none⟩)) := by
  cases o with
  | none => exact .lookup_no hx hcx hy hcy ht hz hm hg
  | some j => exact .lookup_in hx hcx hy hcy ht hz hm hg
end
end Go.Eng

/- Rows: a full block is one; one row appended to another; a part of one; results of which the first stands in a block. General. No condition. -/
namespace Go.Eng
set_option linter.unusedVariables false
set_option linter.unusedSimpArgs false
open Go.RowKit
set_option linter.unusedVariables false
set_option linter.unusedSimpArgs false
section
variable {P : Program} {n : Nat} {l : Env} {H : List Item} {S : List World} {C : World → Prop} {c : Bool} {d : Option Nat} {ty : TypeId} {pos : String} {af : Array Edge} {g : Option (Nat × Bool)}
variable {ops : Array Oper} {rest : List Oper} {Q : Exit → Act → World → Prop}
variable {t : TypeId} {x y z : Operand} {cx cy cz : Bool}
theorem Cls.blk_row {b base m sz : Nat} {e : TypeId} {cs : List Value} {w : World} (h : Cls (blk b e cs :: H) S w) (hb : base ≤ b) (hl : cs.length = m * sz) (hm : m ≤ maxLen) : Cls (row base (fun k => k = b) (some ⟨b, 0, none⟩) m m e sz cs :: H) S w := by
  have hd := List.pairwise_cons.1 h.dj
  have h0 : (blk b e cs).holds w := h.holds _ (.head _)
  refine ⟨fun i hi => ?_, fun i hi => ?_, .cons (fun j hj k hk => hd.1 j hj k hk.2) hd.2, fun s hs => (h.kp s hs).mono fun k _ ⟨j, hj, hjk⟩ => ?_⟩
  · cases hi with
    | head => exact ⟨fun a ha => by cases ha; rfl, hl, .inr ⟨b, m, cs.toArray, rfl, hb, h0, Nat.le_refl _, hm, by simpa using hl, List.take_of_length_le (by simp [hl])⟩⟩
    | tail _ hi => exact h.holds _ (.tail _ hi)
  · cases hi with
    | head => exact fun k hk => h.lt _ (.head _) k hk.2
    | tail _ hi => exact h.lt _ (.tail _ hi)
  · cases hj with
    | head =>
      have hjk' : k = b := hjk
      exact ⟨_, .head _, by rw [hjk']; exact hb, hjk'⟩
    | tail _ hj => exact ⟨_, .tail _ hj, hjk⟩
theorem run_append_src_nil {w : World} {ty e : TypeId} {i : TypeInfo} {q : Option Addr} {m cap : Nat} (ht : P.underlying t = some (.slice e)) (hi : P.info? e = some i) (hc : m ≤ cap) :
    (Builtin.append_ #[t, t] ty #[.slice q m cap, .slice none 0 0]).run P w = .ok (.slice q m cap) w := by
  cases q <;> simp [Builtin.append_, run_underlying ht, sizeOf, typeInfo, hi, Builtin.lenOf, hc, Builtin.firstCells, loadCells, loadCellsFrom, storeCells]
/-- one row behind another -/
theorem OL.appendRR {F : Item → List Item} {e : TypeId} {dd sz bb p m cap cap2 m2 base base2 : Nat} {O O2 : Nat → Prop} {q q2 : Option Addr} {xs news : List Value}
    (hx : evl l x = some (true, .slice q m cap)) (hy : evl l y = some (true, .slice q2 m2 cap2)) (hn : Nat.ble (dd + 1) n = true)
    (hu : rowElem P t = some (e, sz, bb)) (hp' : Hole p H (row base O q m cap e sz xs) F) (hr2 : row base2 O2 q2 m2 cap2 e sz news ∈ H) (h1 : oneL news = true) (hpos : 0 < m)
    (hs : ∃ s ∈ S, base ≤ s.heap.size) (hlim : (m + m2) ≤ 9223372036854775807 ∧ (m + m2) * bb ≤ 140737488355328)
    (k : ∀ (O' : Nat → Prop) (g' cap' : Nat), OL P n ops Q rest ((dd, true, .slice (some ⟨g', 0, none⟩) (m + m2) cap') :: l) (Cls (F (row base O' (some ⟨g', 0, none⟩) (m + m2) cap' e sz (xs ++ news))) S)) :
    OL P n ops Q (⟨some dd, .call { callee := .builtin .append, args := #[x, y], argTypes := #[t, t] }, ty, pos, af, none⟩ :: rest) l (Cls H S) := by
  have hp := hp'.eq.1
  have hF := hp'.eq.2
  refine OL.newT (α := (Nat → Prop) × Nat × Nat) (C' := fun r w => Cls (H.set p (row base r.1 (some ⟨r.2.1, 0, none⟩) (m + m2) r.2.2 e sz (xs ++ news))) S w) rfl rfl hn (fun r => .slice (some ⟨r.2.1, 0, none⟩) (m + m2) r.2.2) (fun a w hs' hc => ?_) (fun r => by rw [← hF]; exact k r.1 r.2.1 r.2.2)
  obtain ⟨i, z, g1, g2, g3, g4, g5, g6, g7⟩ := rowElem_spec hu
  obtain ⟨s, hsm, hsb⟩ := hs
  have hbw : base ≤ w.heap.size := Nat.le_trans hsb (hc.kp s hsm).size
  have hi := hc.item (List.mem_of_getElem? hp)
  have hi2 := hc.item hr2
  obtain ⟨gx, rfl⟩ := row_some hi hpos
  rcases hi2.2.2 with ⟨h3, h4⟩ | ⟨g, cap', cur, h3, hb, hg, h4, h5, h6, h7⟩
  · cases h3
    have hne : news = [] := List.eq_nil_of_length_eq_zero (by have := hi2.2.1; omega)
    subst hne
    refine ⟨(O, gx, cap), w, ?_, ?_⟩
    · simp only [execOp, resolve, invoke, builtin, Sem.run_bind, Sem.run_pure, Result.andThen_ok, List.map_toArray, List.map_cons, List.map_nil, hs'.eval hx rfl, hs'.eval hy rfl, run_append_src_nil (P := P) (w := w) (ty := ty) (q := some ⟨gx, 0, none⟩) g1 g2 (row_le hi)]
      rfl
    · simp only [List.append_nil, Nat.add_zero]
      rwa [set_same hp]
  · simp only [Value.slice.injEq] at h3
    obtain ⟨rfl, _, rfl⟩ := h3
    have hl := hi2.2.1
    have hnews : ∀ j u, news[j]? = some u → w.cell? ((⟨g, 0, none⟩ : Addr).add j) = some u := fun j u hj => by
      rw [add_mid, Nat.zero_add]
      exact row_cell hi2 hj
    obtain ⟨v', w', hr, h2, h3, h4', h5'⟩ := run_append_own_at (P := P) (w := w) base t ty e i z sz bb g1 g2 g3 g4 g5 g6 g7 _ m xs hi.2 ⟨g, 0, none⟩ m2 cap2 news hl hnews (fun u hu => oneL_mem h1 u hu) hlim.1 hlim.2 hbw
    rcases h2.2 with ⟨rfl, h0⟩ | ⟨g', cap', cur', rfl, hb', hg', hrest⟩
    · omega
    · refine ⟨(fun k => O k ∨ k = g', g', cap'), w', ?_, ?_⟩
      · simp only [execOp, resolve, invoke, builtin, Sem.run_bind, Sem.run_pure, Result.andThen_ok, List.map_toArray, List.map_cons, List.map_nil, hs'.eval hx rfl, hs'.eval hy rfl, hr]
      · have hown : ∀ k, some k = (Value.slice (some ⟨gx, 0, none⟩) m cap).ownBlock → base ≤ k ∧ O k := fun k hk => by
          simp only [Value.ownBlock, Option.some.injEq] at hk
          subst hk
          exact ⟨(World.ownsRow.lt hi.2 _ rfl).1, hi.1 _ rfl⟩
        refine hc.turn p hp (j := row base (fun k => O k ∨ k = g') (some ⟨g', 0, none⟩) (m + m2) cap' e sz (xs ++ news)) ⟨h3.os, h3.tape, h3.output, h3.size, fun k hk hO => h3.block k hk (fun e => hO (hown k e))⟩ ?_ ?_ ?_
        · exact ⟨fun a ha => by cases ha; exact .inr rfl, h2⟩
        · intro k hk
          have hlt : g' < w'.heap.size := (Array.getElem?_eq_some_iff.1 hg').1
          rcases hk.2 with h | h
          · exact ⟨.inl ⟨hk.1, h⟩, Nat.lt_of_lt_of_le (hc.lt _ (List.mem_of_getElem? hp) k ⟨hk.1, h⟩) h3.size⟩
          · subst h
            refine ⟨?_, hlt⟩
            rcases h5' with h5' | h5'
            · exact .inl (hown k (by rw [← h5']; rfl))
            · simp only [Value.ownBlock, Option.some.injEq] at h5'
              exact .inr (by omega)
        · exact fun k hk => ⟨hk.1, .inl hk.2⟩
/-- the first elements of a row -/
theorem row_part {base m k cap sz : Nat} {O : Nat → Prop} {q : Option Addr} {e : TypeId} {xs : List Value} {w : World} (h : (row base O q m cap e sz xs).holds w) (hk : k ≤ m) : (row base O q k cap e sz (xs.take (k * sz))).holds w := by
  refine ⟨h.1, ?_⟩
  obtain ⟨h1, h2⟩ := h.2
  have hle : k * sz ≤ m * sz := Nat.mul_le_mul_right _ hk
  refine ⟨by rw [List.length_take]; omega, ?_⟩
  rcases h2 with ⟨h3, h4⟩ | ⟨g, cap', cur, h3, hb, hg, h4, h5, h6, h7⟩
  · simp only [Value.slice.injEq] at h3
    obtain ⟨rfl, rfl, rfl⟩ := h3
    obtain rfl : k = 0 := by omega
    exact .inl ⟨rfl, rfl⟩
  · simp only [Value.slice.injEq] at h3
    obtain ⟨rfl, _, rfl⟩ := h3
    refine .inr ⟨g, cap, cur, rfl, hb, hg, by omega, h5, h6, ?_⟩
    conv => rhs; rw [← h7]
    rw [List.take_take, Nat.min_eq_left hle]
theorem Cls.row_part {base m k cap sz : Nat} {O : Nat → Prop} {q : Option Addr} {e : TypeId} {xs : List Value} {w : World} (h : Cls (row base O q m cap e sz xs :: H) S w) (hk : k ≤ m) : Cls (row base O q k cap e sz (xs.take (k * sz)) :: H) S w := by
  have hd := List.pairwise_cons.1 h.dj
  refine ⟨fun i hi => ?_, fun i hi => ?_, .cons (fun j hj k' hk' => hd.1 j hj k' hk') hd.2, fun s hs => (h.kp s hs).mono fun k' _ ⟨j, hj, hjk⟩ => ?_⟩
  · cases hi with
    | head => exact Eng.row_part (h.holds _ (.head _)) hk
    | tail _ hi => exact h.holds _ (.tail _ hi)
  · cases hi with
    | head => exact fun k' hk' => h.lt (row base O q m cap e sz xs) (.head _) k' hk'
    | tail _ hi => exact h.lt _ (.tail _ hi)
  · cases hj with
    | head => exact ⟨_, .head _, hjk⟩
    | tail _ hj => exact ⟨_, .tail _ hj, hjk⟩
theorem At.cls {e : Exit} {C' : World → Prop} (hc : ∀ w, C w → C' w) (h : At n Q e l C') : At n Q e l C := ⟨fun a w s c => h.run a w s (hc w c)⟩
theorem At.finCT {fn : Func} {R : Ending → World → Prop} {tt b k u : Nat} {t' : TypeId} {cs : List Value} {v : Value} (hr : fn.results = #[.cell tt ty, .tmp u]) (ht : look l tt = some (true, .pointer (some ⟨b, 0, none⟩))) (hp : blk b t' cs ∈ H) (hs : aggN P ty = some k) (hk : cs.length = k)
    (hu : look l u = some (true, v)) (h : ∀ w, Cls H S w → R (.returned (.tuple #[.agg cs.toArray, v])) w) : At n (bodyPost P fn R) .ret l (Cls H S) :=
  ⟨fun a w hs' hc => ⟨hs'.df, .tuple #[.agg cs.toArray, v], by
    have h1 := hs'.at_ tt true _ ht
    have h3 := hs'.at_ u true _ hu
    have h2 := run_loadVar_agg (P := P) (t := ty) (vs := cs) (a := ⟨b, 0, none⟩) (w := w) (by rw [hk]; exact hs) (fun j v hj => by rw [add_mid, Nat.zero_add, blk_cell (hc.item hp)]; exact hj)
    simp [results, hr, Array.getD_eq_getD_getElem?, h1, asAddr, h2, h3], h w hc⟩⟩
theorem At.finCTT {fn : Func} {R : Ending → World → Prop} {tt b k u u2 : Nat} {t' : TypeId} {cs : List Value} {v v2 : Value} (hr : fn.results = #[.cell tt ty, .tmp u, .tmp u2]) (ht : look l tt = some (true, .pointer (some ⟨b, 0, none⟩))) (hp : blk b t' cs ∈ H) (hs : aggN P ty = some k) (hk : cs.length = k)
    (hu : look l u = some (true, v)) (hu2 : look l u2 = some (true, v2)) (h : ∀ w, Cls H S w → R (.returned (.tuple #[.agg cs.toArray, v, v2])) w) : At n (bodyPost P fn R) .ret l (Cls H S) :=
  ⟨fun a w hs' hc => ⟨hs'.df, .tuple #[.agg cs.toArray, v, v2], by
    have h1 := hs'.at_ tt true _ ht
    have h3 := hs'.at_ u true _ hu
    have h4 := hs'.at_ u2 true _ hu2
    have h2 := run_loadVar_agg (P := P) (t := ty) (vs := cs) (a := ⟨b, 0, none⟩) (w := w) (by rw [hk]; exact hs) (fun j v hj => by rw [add_mid, Nat.zero_add, blk_cell (hc.item hp)]; exact hj)
    simp [results, hr, Array.getD_eq_getD_getElem?, h1, asAddr, h2, h3, h4], h w hc⟩⟩
end
end Go.Eng

/- Append of a slice that reads, of any length, to a grown row. General. No condition. -/
namespace Go.Eng
set_option linter.unusedVariables false
set_option linter.unusedSimpArgs false
open Go.RowKit
set_option linter.unusedVariables false
set_option linter.unusedSimpArgs false
section
variable {P : Program} {n : Nat} {l : Env} {H : List Item} {S : List World} {C : World → Prop} {ty : TypeId} {pos : String} {af : Array Edge}
variable {ops : Array Oper} {rest : List Oper} {Q : Exit → Act → World → Prop} {t : TypeId} {x y : Operand}
theorem run_append_src_nil2 {w : World} {ty e : TypeId} {i : TypeInfo} {q : Option Addr} {m cap cap2 : Nat} (ht : P.underlying t = some (.slice e)) (hi : P.info? e = some i) (hc : m ≤ cap) :
    (Builtin.append_ #[t, t] ty #[.slice q m cap, .slice none 0 cap2]).run P w = .ok (.slice q m cap) w := by
  cases q <;> simp [Builtin.append_, run_underlying ht, sizeOf, typeInfo, hi, Builtin.lenOf, hc, Builtin.firstCells, loadCells, loadCellsFrom, storeCells]
theorem OL.appendK {F : Item → List Item} {e : TypeId} {dd sz bb p m cap cap2 m2 base : Nat} {O : Nat → Prop} {q q2 : Option Addr} {xs news : List Value}
    (hx : evl l x = some (true, .slice q m cap)) (hy : evl l y = some (true, .slice q2 m2 cap2)) (hn : Nat.ble (dd + 1) n = true)
    (hu : rowElem P t = some (e, sz, bb)) (hp' : Hole p H (row base O q m cap e sz xs) F) (hsl : ∀ w, Cls H S w → SlAt w w.heap.size q2 news) (hl : news.length = m2 * sz) (h1 : oneL news = true)
    (hs : ∃ s ∈ S, base ≤ s.heap.size) (hlim : (m + m2) ≤ 9223372036854775807 ∧ (m + m2) * bb ≤ 140737488355328)
    (k : ∀ (O' : Nat → Prop) (q' : Option Addr) (cap' : Nat), OL P n ops Q rest ((dd, true, .slice q' (m + m2) cap') :: l) (Cls (F (row base O' q' (m + m2) cap' e sz (xs ++ news))) S)) :
    OL P n ops Q (⟨some dd, .call { callee := .builtin .append, args := #[x, y], argTypes := #[t, t] }, ty, pos, af, none⟩ :: rest) l (Cls H S) := by
  have hp := hp'.eq.1
  have hF := hp'.eq.2
  refine OL.newT (α := (Nat → Prop) × Option Addr × Nat) (C' := fun r w => Cls (H.set p (row base r.1 r.2.1 (m + m2) r.2.2 e sz (xs ++ news))) S w) rfl rfl hn (fun r => .slice r.2.1 (m + m2) r.2.2) (fun a w hs' hc => ?_) (fun r => by rw [← hF]; exact k r.1 r.2.1 r.2.2)
  obtain ⟨i, z, g1, g2, g3, g4, g5, g6, g7⟩ := rowElem_spec hu
  obtain ⟨s, hsm, hsb⟩ := hs
  have hbw : base ≤ w.heap.size := Nat.le_trans hsb (hc.kp s hsm).size
  have hi := hc.item (List.mem_of_getElem? hp)
  cases q2 with
  | none =>
    have hm2 : news = [] := by
      cases news with
      | nil => rfl
      | cons v r =>
        obtain ⟨a, ha, _⟩ := hsl w hc (by simp)
        cases ha
    subst hm2
    have hm0 : m2 = 0 := by
      rcases Nat.eq_zero_or_pos m2 with h0 | h0
      · exact h0
      · have := Nat.mul_pos h0 g7
        simp at hl
        omega
    subst hm0
    refine ⟨(O, q, cap), w, ?_, ?_⟩
    · simp only [execOp, resolve, invoke, builtin, Sem.run_bind, Sem.run_pure, Result.andThen_ok, List.map_toArray, List.map_cons, List.map_nil, hs'.eval hx rfl, hs'.eval hy rfl, run_append_src_nil2 (P := P) (cap2 := cap2) (w := w) (ty := ty) (q := q) g1 g2 (row_le hi)]
      rfl
    · simp only [List.append_nil, Nat.add_zero]
      rwa [set_same hp]
  | some ad =>
    have hnews : ∀ j u, news[j]? = some u → w.cell? (ad.add j) = some u := fun j u hj => by
      obtain ⟨a, ha, _, hca⟩ := hsl w hc (by have := (List.getElem?_eq_some_iff.1 hj).1; omega)
      obtain rfl := Option.some.inj ha
      exact hca j u hj
    obtain ⟨v', w', hr, h2, h3, h4, h5⟩ := run_append_own_at (P := P) (w := w) base t ty e i z sz bb g1 g2 g3 g4 g5 g6 g7 _ m xs hi.2 ad m2 cap2 news hl hnews (fun u hu => oneL_mem h1 u hu) hlim.1 hlim.2 hbw
    have hown : ∀ k, some k = (Value.slice q m cap).ownBlock → base ≤ k ∧ O k := fun k hk => by
      cases q with
      | none => simp [Value.ownBlock] at hk
      | some a =>
        simp only [Value.ownBlock, Option.some.injEq] at hk
        subst hk
        exact ⟨(World.ownsRow.lt hi.2 _ rfl).1, hi.1 _ rfl⟩
    rcases h2.2 with ⟨rfl, h0⟩ | ⟨g', cap', cur, rfl, hb', hg', hrest⟩
    · refine ⟨(O, none, 0), w', ?_, ?_⟩
      · simp only [execOp, resolve, invoke, builtin, Sem.run_bind, Sem.run_pure, Result.andThen_ok, List.map_toArray, List.map_cons, List.map_nil, hs'.eval hx rfl, hs'.eval hy rfl, hr, h0]
      · rw [h0] at h2 ⊢
        refine hc.turn p hp (j := row base O none 0 0 e sz (xs ++ news)) ⟨h3.os, h3.tape, h3.output, h3.size, fun k hk hO => h3.block k hk (fun e => hO (hown k e))⟩ ⟨fun a ha => (by cases ha), h2⟩ (fun k hk => ⟨.inl hk, Nat.lt_of_lt_of_le (hc.lt _ (List.mem_of_getElem? hp) k hk) h3.size⟩) (fun k hk => hk)
    · refine ⟨(fun k => O k ∨ k = g', some ⟨g', 0, none⟩, cap'), w', ?_, ?_⟩
      · simp only [execOp, resolve, invoke, builtin, Sem.run_bind, Sem.run_pure, Result.andThen_ok, List.map_toArray, List.map_cons, List.map_nil, hs'.eval hx rfl, hs'.eval hy rfl, hr]
      · refine hc.turn p hp (j := row base (fun k => O k ∨ k = g') (some ⟨g', 0, none⟩) (m + m2) cap' e sz (xs ++ news)) ⟨h3.os, h3.tape, h3.output, h3.size, fun k hk hO => h3.block k hk (fun e => hO (hown k e))⟩ ?_ ?_ ?_
        · exact ⟨fun a ha => by cases ha; exact .inr rfl, h2⟩
        · intro k hk
          have hlt : g' < w'.heap.size := (Array.getElem?_eq_some_iff.1 hg').1
          rcases hk.2 with h | h
          · exact ⟨.inl ⟨hk.1, h⟩, Nat.lt_of_lt_of_le (hc.lt _ (List.mem_of_getElem? hp) k ⟨hk.1, h⟩) h3.size⟩
          · subst h
            refine ⟨?_, hlt⟩
            rcases h5 with h5 | h5
            · exact .inl (hown k (by rw [← h5]; rfl))
            · simp only [Value.ownBlock, Option.some.injEq] at h5
              exact .inr (by omega)
        · exact fun k hk => ⟨hk.1, .inl hk.2⟩
end
end Go.Eng

/- The walks of the reference's Over, Operands, usable and FuncErr. Conditions: none. -/
namespace Go.Eng
set_option linter.unusedVariables false
set_option linter.unusedSimpArgs false
open Go.RowKit
section
variable {P : Program} {n : Nat} {l : Env} {C : World → Prop} {c : Bool} {ty : TypeId} {pos : String} {af : Array Edge} {g : Option (Nat × Bool)}
variable {ops : Array Oper} {rest : List Oper} {Q : Exit → Act → World → Prop}
/-- what is not done has any value -/
theorem Pev.void {o : Oper} {v : Value} (h : c = false) : Pev P n l C o c v := ⟨fun hc => by rw [h] at hc; cases hc⟩
/-- a call behind a guard that is known to hold -/
theorem OL.callG {α : Type} (V : α → Value) (Φ : α → Prop) (C' : α → World → Prop) {f : FuncId} {args : List Operand} {vs : List Value} {ats : Array TypeId} {dd : Nat} (hg : Guard l ops g c) (hc1 : c = true) (hn : Nat.ble (dd + 1) n = true) (hf : callable P f = true) (ha : Args l c args vs)
    (h : ∀ w, C w → Calls P f vs.toArray w fun e w' => ∃ x, e = .returned (V x) ∧ Φ x ∧ C' x w')
    (k : ∀ x, Φ x → OL P n ops Q rest ((dd, true, V x) :: l) (C' x)) : OL P n ops Q (⟨some dd, .call { callee := .value (.func f), args := args.toArray, argTypes := ats }, ty, pos, af, g⟩ :: rest) l C := by
  have hn' := Nat.le_of_ble_eq_true hn
  refine ⟨fun a w hs hc => ?_⟩
  unfold wpList
  rw [Guard.wanted (o := ⟨some dd, .call { callee := .value (.func f), args := args.toArray, argTypes := ats }, ty, pos, af, g⟩) hs hg, hc1]
  refine .inl ?_
  show Oper.upon P _ a _ Q ((execOp a.eval _).run P w)
  rw [run_call hf]
  show Calls P f _ w _
  rw [List.map_toArray, ha.map hs hc1]
  refine (h w hc).mono fun e w' ⟨x, he, hx, hc'⟩ => ?_
  subst he
  exact (k x hx).run _ w' (hs.put hn' true _) hc'
end
end Go.Eng
namespace Go.Ss
set_option linter.unusedVariables false
set_option linter.unusedSimpArgs false
open Go.Eng Go.RowKit
theorem ints_one (l : List Int) : oneL (ints l) = true := by
  induction l with
  | nil => rfl
  | cons x r ih => simp only [ints, List.map_cons, oneL] at ih ⊢; rw [ih]; rfl
theorem flat_le : ∀ {l : List Ed} (n : Nat), ((l.take n).flatMap Ed.args).length ≤ (l.flatMap Ed.args).length
  | [], n => by simp
  | e :: l, 0 => by simp
  | e :: l, n + 1 => by
    have := flat_le (l := l) n
    simp only [List.take_succ_cons, List.flatMap_cons, List.length_append]
    omega
end Go.Ss
namespace Go.Proofs.Ytehelljmaiophaa.ss
set_option linter.unusedVariables false
set_option linter.unusedSimpArgs false
set_option maxRecDepth 100000
open Go.Eng Go.RowKit Go.Ss
set_option linter.unusedVariables false
set_option linter.unusedSimpArgs false
theorem Over_calls (es : List (Bk × BkY)) (q : Option Addr) (cap : Nat) (nm : Int) (a b : Nat) (w : World) (he : Arr bkR w (low w) es q) (hlen : es.length ≤ 140737488355328) (hb : b < es.length) :
    Calls Try.prog 49 [.agg #[.int .i64 nm, .slice q es.length cap], .int .i64 (a : Int), .int .i64 (b : Int)].toArray w fun e w' => ∃ r : Bool, e = .returned (.bool r) ∧ (r = true ↔ Ovr (graphB (es.map Prod.fst)) a b) ∧ Ext w w' := by
  refine enter Try.func49 rfl Try.ntmps49 rfl (Cls.start w) ?_
  (simp only [argEnv, Nat.zero_add, Nat.reduceAdd])
  apply W.sr
  apply OL.box; rfl; rfl; exact CellsL.agg; (intro bk hbk; simp only [AllLe, and_true] at hbk)
  apply oas; rfl; rfl
  apply OL.nsr
  apply omv; rfl; rfl
  apply omv; rfl; rfl
  apply obn; rfl; rfl; rfl; apply Bin.eql
  apply omv; rfl; rfl
  apply ono; rfl; rfl; rfl; apply Pev.load_blkA; rfl; exact yes; exact .head _; rfl; exact Take.au
  apply ono; rfl; rfl; rfl; apply Pev.move; rfl; exact yes
  by_cases hab : a = b
  · (((first | (with_reducible apply OL.op) | (with_reducible apply QL.op)); (exact Guard.au); rfl; rfl); (exact Pev.void (v := .slice none 0 0) (by simp; omega)))
    apply ono; rfl; rfl; rfl; apply Pev.move; rfl; exact yes
    apply OL.gateOff; exact Guard.no rfl rfl; (simp; omega); rfl
    apply OL.gateOff; exact Guard.no rfl rfl; (simp; omega); rfl
    apply OL.gateOff; exact Guard.no rfl rfl; (simp; omega); rfl
    apply oop; rfl; apply Pev.pick_on; rfl; exact yes; (intro hcond; simp; omega); rfl; exact yes
    apply oas; rfl; rfl
    apply OL.nx
    apply W.ret
    ((with_reducible apply At.fin1); rfl; rfl; intro w' hw')
    exact ⟨_, rfl, ⟨fun _ => .inl hab, fun _ => by simp [hab]⟩, by (exact hw'.fr)⟩
  · revert bk
    intro bF hbF
    refine OL.callG (α := Nat × List Bool) (fun z => .slice (some ⟨z.1, 0, none⟩) es.length es.length) (fun z => w.heap.size ≤ z.1 ∧ z.2.length = es.length ∧ ∀ k : Nat, z.2[k]? = some true ↔ Rc (graphB (es.map Prod.fst)) (a : Int) k) (fun z => Cls (blk z.1 4 (bls z.2) :: [blk bF 24 [.int .i64 nm, .slice q es.length cap]]) [w]) Guard.au (by simp; omega) rfl rfl (by exact Args.au) (fun w2 hw2 => (Reach_calls es q cap nm (a : Int) w2 (he.at hw2 (by exact mau) (fun k hk => by exact NotOwned.au)) hlen).mono fun e w3 ⟨bR, B, h1, h2, h3, h4, h5, h6⟩ => ⟨(bR, B), h1, ⟨Nat.le_trans (hw2.kp w (by exact mau)).size h5, h2, h3⟩, hw2.add h4 _ h6 (fun k hk => by rw [show k = bR from hk]; exact ⟨h5, blk_lt h6⟩)⟩) ?_
    rintro ⟨bR, B⟩ ⟨hbR, hBl, hB⟩
    simp only at hbR hBl hB ⊢
    have hbk : B[b]? = some (B.getD b false) := getD_true (by omega)
    have hbv : (bls B)[0 + (b : Int).toNat * 1]? = some (.bool (B.getD b false)) := by
      rw [show 0 + (b : Int).toNat * 1 = b by omega]
      exact bls_get hbk
    apply ono; rfl; rfl; rfl; apply Pev.move; rfl; exact yes
    apply ono; rfl; rfl; rfl; apply Pev.idxB; rfl; exact yes; rfl; exact fun h => h; rfl; intro hcond; omega; rfl
    apply ono; rfl; rfl; rfl; apply Pev.load_blk; rfl; exact fun h => h; exact .head _; rfl; assumption
    apply ono; rfl; rfl; rfl; apply Pev.not; rfl; exact fun h => h
    apply oop; rfl; apply Pev.pick_or; rfl; exact yes; rfl; exact fun h => h
    apply oas; rfl; rfl
    apply OL.nx
    apply W.ret
    ((with_reducible apply At.fin1); rfl; rfl; intro w' hw')
    refine ⟨_, rfl, ?_, (hw'.thin (.any (fun k hk => ?_) (by exact Thin.au))).fr (by exact mau) (fun k hk => NotOwned.nil)⟩
    · have h9 : decide ((a : Int) = (b : Int)) = false := decide_eq_false (by omega)
      rw [h9]
      unfold Ovr
      rw [← hB b, hbk]
      simp [hab]
    · rw [show k = bR from hk]
      exact ⟨hbR, trivial⟩
theorem Operands_calls (t : Tm) (y : TmY) (w : World) (ht : TmOk w (low w) t y) (hlim : (operT t).length ≤ 1000000000) :
    Calls Try.prog 59 [.agg (tmC t y).toArray].toArray w fun e w' => ∃ (q : Option Addr) (c : Nat), e = .returned (.slice q (operT t).length c) ∧ Ext w w' ∧ IntsO w' (fresh w w') (operT t) q := by
  obtain ⟨ts, hts, harr⟩ := ht.t
  have htl := ht.tl
  have htl2 : t.to_.length = ts.length := by rw [← hts, List.length_map]
  refine enter Try.func59 rfl Try.ntmps59 rfl (Cls.start w) ?_
  (simp only [argEnv, Nat.zero_add, Nat.reduceAdd])
  simp only [tmC]
  apply W.sr
  apply OL.box; rfl; rfl; exact CellsL.agg; (intro bk hbk; simp only [AllLe, and_true] at hbk)
  apply oas; rfl; rfl
  apply OL.nsr
  apply oas; rfl; rfl
  apply OL.nx
  apply W.seq
  apply W.sr
  apply ofa; rfl; rfl; rfl
  apply old; rfl; rfl; exact .head _; rfl; rfl
  apply obn; rfl; rfl; rfl; apply Bin.eql
  apply omv; rfl; rfl
  apply ono; rfl; rfl; rfl; apply Pev.fld; rfl; exact yes; rfl
  apply ono; rfl; rfl; rfl; apply Pev.load_blk; rfl; exact fun h => h; exact .head _; rfl; rfl
  apply ono; rfl; rfl; rfl; apply Pev.bin; rfl; exact fun h => h; rfl; exact yes; intro hcond; apply Bin.eql
  apply oop; rfl; apply Pev.pick_or; rfl; exact yes; rfl; exact fun h => h
  apply omv; rfl; rfl
  apply ono; rfl; rfl; rfl; apply Pev.fld; rfl; exact yes; rfl
  apply ono; rfl; rfl; rfl; apply Pev.load_blk; rfl; exact fun h => h; exact .head _; rfl; rfl
  apply ono; rfl; rfl; rfl; apply Pev.bin; rfl; exact fun h => h; rfl; exact yes; intro hcond; apply Bin.eql
  apply oop; rfl; apply Pev.pick_or; rfl; exact yes; rfl; exact fun h => h
  apply OL.nx
  revert bk
  intro bT hbT
  obtain ⟨pre, hpre⟩ : ∃ pre, (if t.kind = 0 ∨ t.kind = 2 ∨ t.kind = 3 then [t.arg] else []) = pre := ⟨_, rfl⟩
  have hop : operT t = pre ++ t.to_.flatMap Ed.args := by rw [← hpre]; rfl
  have hpl : pre.length ≤ 1 := by rw [← hpre]; split <;> simp
  have hol : (pre ++ t.to_.flatMap Ed.args).length ≤ 1000000000 := by rw [← hop]; exact hlim
  rw [hop]
  refine W.joinx (G := GR) (fun _ => True) (fun g => [(1, true, .pointer (some ⟨bT, 0, none⟩)), (3, true, .slice g.q pre.length g.c)]) (fun g => Cls [row w.heap.size g.O g.q pre.length g.c 3 1 (ints pre), blk bT 39 [.int .i64 t.kind, .int .i64 t.arg, .int .i64 t.n, .slice y.c.1 t.cases.length y.c.2, .slice y.t.1 t.to_.length y.t.2]] [w]) ?_ ?_
  · refine W.cls (fun w' hw' => hw'.row_nil w.heap.size 3 1) ?_
    refine W.cond rfl (fun h1 => ?_) (fun h1 => ?_)
    · have : pre = [t.arg] := by rw [← hpre, if_pos (by simp at h1; omega)]
      rw [this]
      apply W.reg
      apply omv; rfl; rfl
      apply ofa; rfl; rfl; rfl
      apply old; rfl; rfl; exact .tail _ (.head _); rfl; rfl
      apply OL.buildSlice; rfl; rfl; rfl; exact Elems.au; rfl; rfl; (intro bk hbk; simp only [AllLe, and_true] at hbk)
      apply OL.append; rfl; rfl; rfl; rfl; exact Hole.au; exact .head _; exact Take.au; rfl; rfl; exact ⟨_, .head _, Nat.le_refl _⟩; omega; intro O1 g1 cap1
      apply oas; rfl; rfl
      apply OL.nil
      exact At.joinedx ⟨O1, some ⟨g1, 0, none⟩, cap1⟩ trivial (by exact Sub.au) (fun w' hw' => hw'.thin (by exact Thin.au))
    · have : pre = [] := by rw [← hpre, if_neg (by simp at h1; omega)]
      rw [this]
      apply W.skip
      exact At.joinedx ⟨_, _, _⟩ trivial (by exact Sub.au) (fun w' hw' => hw')
  rintro ⟨O0, q0, c0⟩ _
  simp only
  apply W.seq
  apply W.sr
  apply ofa; rfl; rfl; rfl
  apply old; rfl; rfl; exact .tail _ (.head _); rfl; rfl
  apply oop; rfl; apply Pev.len_slice; rfl; exact yes; rfl
  apply omv; rfl; rfl
  apply OL.nx
  apply W.block
  refine W.loop (G := Nat × GR) (fun g => g.1 ≤ ts.length) (fun g => ts.length - g.1)
    (fun g => [(3, true, .slice g.2.q (pre ++ (t.to_.take g.1).flatMap Ed.args).length g.2.c), (25, true, .slice y.t.1 ts.length y.t.2), (26, true, .int .i64 (ts.length : Int)), (27, true, .int .i64 (g.1 : Int))])
    (fun g => Cls [row w.heap.size g.2.O g.2.q (pre ++ (t.to_.take g.1).flatMap Ed.args).length g.2.c 3 1 (ints (pre ++ (t.to_.take g.1).flatMap Ed.args))] [w]) (0, ⟨O0, q0, c0⟩) (by simp) (by simp only [List.take_zero, List.flatMap_nil, List.append_nil]; rw [htl2]; exact Sub.au) (fun w' hw' => by simp only [List.take_zero, List.flatMap_nil, List.append_nil]; exact hw'.thin (by exact Thin.au)) ?_
  rintro ⟨j, ⟨Op, qp, cp⟩⟩ hj
  simp only at hj ⊢
  apply W.sr
  apply obn; rfl; rfl; rfl; apply Bin.lss
  apply OL.nx
  apply W.seq
  (refine W.cnd (fun hlt => ?_) (fun hlt => ?_)) <;> (try (exfalso; first | omega | exact hlt trivial | contradiction))
  · have hjl : j < ts.length := by omega
    obtain ⟨ae, u, hqt, hatb, hu, hcu, hoku⟩ := harr.get hjl
    have hatb : ae.block < w.heap.size := hatb
    have hcu : CellsAt w (ae.add (j * 2)) [.int .i64 u.1.block, .slice u.2.1 u.1.args.length u.2.2] := hcu
    have hue : t.to_[j]? = some u.1 := by rw [← hts, List.getElem?_map, hu]; rfl
    have hnx : pre ++ (t.to_.take (j + 1)).flatMap Ed.args = (pre ++ (t.to_.take j).flatMap Ed.args) ++ u.1.args := by
      rw [List.take_add_one, hue]
      simp
    have hle := flat_le (l := t.to_) (j + 1)
    have hln : (pre ++ (t.to_.take (j + 1)).flatMap Ed.args).length ≤ 1000000000 := by
      rw [List.length_append] at hol ⊢
      omega
    rw [hnx, List.length_append] at hln
    generalize pre ++ (t.to_.take j).flatMap Ed.args = xs at *
    rw [hqt]
    apply W.sk
    apply W.sb
    apply W.sr
    apply oop; rfl; apply Pev.idx; rfl; exact yes; rfl; exact yes; rfl; rfl; intro hcond; omega
    apply oop; rfl; apply Pev.load_keptA; rfl; exact yes; exact .head _; rfl; intro hcond; assumption; rfl; intro hcond; (rw [add_block]; assumption); intro hcond; exact NotOwned.au
    apply OL.alloc; rfl; rfl; exact CellsL.agg; (intro bk hbk; simp only [AllLe, and_true] at hbk)
    apply OL.storeB; rfl; rfl; exact CellsL.agg; rfl; rfl; rfl; exact Swap.au; exact Put.au
    apply OL.nx
    apply W.reg
    apply omv; rfl; rfl
    apply ofa; rfl; rfl; rfl
    apply old; rfl; rfl; exact .head _; rfl; rfl
    (apply OL.appendK (news := ints u.1.args)); rfl; rfl; rfl; rfl; (exact Hole.au); (exact fun w2 hw2 => (hoku.2.2.1.at hw2 (.head _) (fun k hk => by exact NotOwned.au)).slAt); (rw [ints_length, Nat.mul_one]); (exact ints_one _); (exact ⟨w, .head _, Nat.le_refl _⟩); (omega); (intro O1 q1 c1)
    rw [← ints_append]
    apply oas; rfl; rfl
    apply OL.nil
    with_reducible apply At.in_normal
    with_reducible apply At.next
    apply W.reg
    apply obn; rfl; rfl; rfl; apply Bin.add_in; omega
    apply omv; rfl; rfl
    apply OL.nil
    refine At.again (j + 1, ⟨O1, q1, c1⟩) (by simp only; omega) (by simp only; omega) (by simp only [hnx, List.length_append]; exact Sub.au) (fun w' hw' => ?_)
    simp only [hnx, List.length_append]
    exact hw'.thin (by exact Thin.au)
  · obtain rfl : j = ts.length := by omega
    rw [← htl2, List.take_length]
    refine W.xt ?_
    with_reducible apply At.next
    apply W.sr
    apply omv; rfl; rfl
    apply oas; rfl; rfl
    apply OL.nx
    apply W.ret
    ((with_reducible apply At.fin1); rfl; rfl; intro w' hw')
    exact ⟨qp, cp, rfl, by (exact hw'.fr), rowInts hw' (.head _) (Nat.le_refl _)⟩
theorem usable_calls (es : List (Bk × BkY)) (q : Option Addr) (cap : Nat) (nm v : Int) (k at_ bR : Nat) (B : List Bool) (w : World) (he : Arr bkR w (low w) es q) (hlen : es.length ≤ 140737488355328) (hk : k < es.length) (hsh : shapeE (es.map Prod.fst) = 0)
    (hBl : B.length = es.length) (hB : B[k]? = some true ↔ Rc (graphB (es.map Prod.fst)) (-1) k) (hbl : (blk bR 4 (bls B)).holds w) :
    Calls Try.prog 58 [.agg #[.int .i64 nm, .slice q es.length cap], .int .i64 v, .int .i64 (k : Int), .int .i64 (at_ : Int), .slice (some ⟨bR, 0, none⟩) es.length es.length].toArray w fun e w' => ∃ r : Bool, e = .returned (.bool r) ∧ (r = true ↔ Fine (es.map Prod.fst) v k at_) ∧ Ext w w' := by
  obtain ⟨bs, hbs⟩ : ∃ bs, es.map Prod.fst = bs := ⟨_, rfl⟩
  have hbsl : bs.length = es.length := by rw [← hbs, List.length_map]
  rw [hbs] at hsh hB ⊢
  have hbR : bR < w.heap.size := blk_lt hbl
  have hbk : B[k]? = some (B.getD k false) := getD_true (by omega)
  have hbv : w.cell? ⟨bR, 0 + (k : Int).toNat * 1, none⟩ = some (.bool (B.getD k false)) := by
    rw [blk_cell hbl, show 0 + (k : Int).toNat * 1 = k by omega]
    exact bls_get hbk
  have hBk : B.getD k false = true ↔ Rc (graphB bs) (-1) k := by rw [← hB, hbk]; simp
  have huniq : ∀ b a b' a', DefAt bs v b a → DefAt bs v b' a' → b = b' ∧ a = a' := fun b a b' a' h1 h2 => by
    have h3 := (plget_iff hsh).2 h1
    rw [(plget_iff hsh).2 h2] at h3
    have := Option.some.inj h3
    exact ⟨(Prod.mk.inj this).1.symm, (Prod.mk.inj this).2.symm⟩
  generalize hz : B.getD k false = z at *
  refine enter Try.func58 rfl Try.ntmps58 rfl (Cls.start w) ?_
  (simp only [argEnv, Nat.zero_add, Nat.reduceAdd])
  apply W.sr
  apply OL.box; rfl; rfl; exact CellsL.agg; (intro bk hbk; simp only [AllLe, and_true] at hbk)
  apply oas; rfl; rfl
  apply OL.nx
  apply W.seq
  apply W.sr
  apply ofa; rfl; rfl; rfl
  apply old; rfl; rfl; exact .head _; rfl; rfl
  apply oop; rfl; apply Pev.len_slice; rfl; exact yes; rfl
  apply omv; rfl; rfl
  apply OL.nx
  apply W.block
  revert bk
  intro bF hbF
  refine W.loop (G := Nat) (fun n => n ≤ es.length ∧ ∀ m a, m < n → DefAt bs v m a → ¬ (m ≠ k ∨ a ≤ at_ ∨ z = false)) (fun n => es.length - n)
    (fun n => [(1, true, .int .i64 v), (2, true, .int .i64 (k : Int)), (3, true, .int .i64 (at_ : Int)), (4, true, .slice (some ⟨bR, 0, none⟩) es.length es.length), (5, true, .pointer (some ⟨bF, 0, none⟩)), (17, true, .slice q es.length cap), (18, true, .int .i64 (es.length : Int)), (19, true, .int .i64 (n : Int))])
    (fun n => Cls [blk bF 24 [.int .i64 nm, .slice q es.length cap]] [w]) 0 ⟨by omega, fun m a h => by omega⟩ (by exact Sub.au) (fun w' hw' => hw') ?_
  rintro n ⟨hn, hn0⟩
  apply W.sr
  apply obn; rfl; rfl; rfl; apply Bin.lss
  apply OL.nx
  apply W.seq
  (refine W.cnd (fun hlt => ?_) (fun hlt => ?_)) <;> (try (exfalso; first | omega | exact hlt trivial | contradiction))
  · have hnl : n < es.length := by omega
    obtain ⟨a, p, hqa, hab, hp, hcell, hok⟩ := he.get hnl
    have hab : a.block < w.heap.size := hab
    have hcell : CellsAt w (a.add (n * 7)) [.slice p.2.p.1 p.1.params.length p.2.p.2, .slice p.2.i.1 p.1.ins.length p.2.i.2, .int .i64 p.1.term.kind, .int .i64 p.1.term.arg, .int .i64 p.1.term.n, .slice p.2.t.c.1 p.1.term.cases.length p.2.t.c.2, .slice p.2.t.t.1 p.1.term.to_.length p.2.t.t.2] := hcell
    have hbsn : bs[n]? = some p.1 := by rw [← hbs, List.getElem?_map, hp]; rfl
    have hpl := hok.pl
    have hil := hok.il
    obtain ⟨pi, hpi, hiarr⟩ := hok.i
    have hpil : p.1.ins.length = pi.length := by rw [← hpi, List.length_map]
    rw [hqa]
    apply W.sk
    apply W.sb
    apply W.sr
    apply omv; rfl; rfl
    apply oop; rfl; apply Pev.idx; rfl; exact yes; rfl; exact yes; rfl; rfl; intro hcond; omega
    apply oop; rfl; apply Pev.load_keptA; rfl; exact yes; exact .head _; rfl; intro hcond; assumption; rfl; intro hcond; (rw [add_block]; assumption); intro hcond; exact NotOwned.au
    apply OL.alloc; rfl; rfl; exact CellsL.agg; (intro bk hbk; simp only [AllLe, and_true] at hbk)
    apply oas; rfl; rfl
    apply OL.storeB; rfl; rfl; exact CellsL.agg; rfl; rfl; rfl; exact Swap.au; exact Put.au
    apply OL.nsr
    apply ofa; rfl; rfl; rfl
    apply old; rfl; rfl; exact .head _; rfl; rfl
    apply omv; rfl; rfl
    revert bk
    intro b12 hb12
    have hb121 : w.heap.size ≤ b12 := by first | exact hb12 | exact hb12.1
    (((first | (with_reducible apply OL.op) | (with_reducible apply QL.op)); (exact Guard.au); rfl; rfl); (exact Pev.call (v := .bool (decide (v ∈ p.1.params))) rfl (by exact Args.au) (fun _ w2 hw2 => (HasInt_calls p.2.p.1 p.2.p.2 p.1.params v w2 (by omega) (hok.p.at hw2 (by exact mau) (fun k hk => by exact NotOwned.au))).mono (fun e w3 h => ⟨h.1, hw2.ext h.2⟩))))
    apply oas; rfl; rfl
    apply OL.nx
    apply W.seq
    apply W.sr
    apply ofa; rfl; rfl; rfl
    apply old; rfl; rfl; exact .head _; rfl; rfl
    apply oop; rfl; apply Pev.len_slice; rfl; exact yes; rfl
    apply omv; rfl; rfl
    apply OL.nx
    apply W.block
    refine W.loop (G := Nat × Bool) (fun g => g.1 ≤ pi.length ∧ (g.2 = true ↔ ∃ a, a ≤ g.1 ∧ DefAt bs v n a ∧ (n ≠ k ∨ a ≤ at_ ∨ z = false))) (fun g => pi.length - g.1)
      (fun g => [(1, true, .int .i64 v), (2, true, .int .i64 (k : Int)), (3, true, .int .i64 (at_ : Int)), (4, true, .slice (some ⟨bR, 0, none⟩) es.length es.length), (5, true, .pointer (some ⟨bF, 0, none⟩)), (11, true, .int .i64 (n : Int)), (13, true, .bool g.2), (17, true, .slice (some a) es.length cap), (18, true, .int .i64 (es.length : Int)), (19, true, .int .i64 (n : Int)), (29, true, .slice p.2.i.1 pi.length p.2.i.2), (30, true, .int .i64 (pi.length : Int)), (31, true, .int .i64 (g.1 : Int))])
      (fun g => Cls [blk bF 24 [.int .i64 nm, .slice (some a) es.length cap]] [w]) (0, decide (v ∈ p.1.params)) ⟨by simp, ?_⟩ (by rw [← hpil]; exact Sub.au) (fun w' hw' => hw'.thin (.any (fun k hk => by rw [show k = b12 from hk]; exact ⟨hb121, trivial⟩) Thin.same)) ?_
    · simp only [decide_eq_true_eq]
      constructor
      · intro h
        exact ⟨0, by omega, ⟨p.1, hbsn, .inl ⟨rfl, h⟩⟩, .inr (.inl (Nat.zero_le _))⟩
      · rintro ⟨a', h1, ⟨x, hx, h2⟩, _⟩
        rw [hbsn] at hx
        obtain rfl := Option.some.inj hx
        rcases h2 with ⟨_, h2⟩ | ⟨j, i, h2, _⟩
        · exact h2
        · omega
    rintro ⟨j, hh⟩ ⟨hj, hh0⟩
    simp only at hj hh0 ⊢
    apply W.sr
    apply obn; rfl; rfl; rfl; apply Bin.lss
    apply OL.nx
    apply W.seq
    (refine W.cnd (fun hlt2 => ?_) (fun hlt2 => ?_)) <;> (try (exfalso; first | omega | exact hlt2 trivial | contradiction))
    · have hjl : j < pi.length := by omega
      obtain ⟨ai, u, hqi, haib, hu, hcu, hoku⟩ := hiarr.get hjl
      have haib : ai.block < w.heap.size := haib
      have hcu : CellsAt w (ai.add (j * 4)) [.int .i64 u.1.to_, .int .i64 u.1.op, .int .i64 u.1.n, .slice u.2.1 u.1.args.length u.2.2] := hcu
      have hui : p.1.ins[j]? = some u.1 := by rw [← hpi, List.getElem?_map, hu]; rfl
      rw [hqi]
      apply W.sk
      apply W.sb
      apply W.sr
      apply omv; rfl; rfl
      apply oop; rfl; apply Pev.idx; rfl; exact yes; rfl; exact yes; rfl; rfl; intro hcond; omega
      apply oop; rfl; apply Pev.load_keptA; rfl; exact yes; exact .head _; rfl; intro hcond; assumption; rfl; intro hcond; (rw [add_block]; assumption); intro hcond; exact NotOwned.au
      apply OL.alloc; rfl; rfl; exact CellsL.agg; (intro bk hbk; simp only [AllLe, and_true] at hbk)
      apply oas; rfl; rfl
      apply OL.storeB; rfl; rfl; exact CellsL.agg; rfl; rfl; rfl; exact Swap.au; exact Put.au
      apply OL.nx
      apply W.reg
      apply omv; rfl; rfl
      apply omv; rfl; rfl
      apply ono; rfl; rfl; rfl; apply Pev.fld; rfl; exact yes; rfl
      apply ono; rfl; rfl; rfl; apply Pev.load_blk; rfl; exact fun h => h; exact .head _; rfl; rfl
      apply ono; rfl; rfl; rfl; apply Pev.move; rfl; exact yes
      apply ono; rfl; rfl; rfl; apply Pev.bin; rfl; exact fun h => h; rfl; exact fun h => h; intro hcond; apply Bin.eql
      apply ono; rfl; rfl; rfl; apply Pev.move; rfl; exact fun h => h
      apply OL.op; exact Guard.cyes rfl rfl; rfl; rfl; apply Pev.move; rfl; exact yes
      apply OL.op; exact Guard.cyes rfl rfl; rfl; rfl; apply Pev.move; rfl; exact yes
      apply OL.op; exact Guard.cyes rfl rfl; rfl; rfl; apply Pev.bin; rfl; exact fun h => h; rfl; exact fun h => h; intro hcond; apply Bin.neq
      apply OL.op; exact Guard.cyes rfl rfl; rfl; rfl; apply Pev.move; rfl; exact fun h => h
      apply OL.op; exact Guard.cno rfl rfl; rfl; rfl; apply Pev.move; rfl; exact yes
      apply OL.op; exact Guard.cno rfl rfl; rfl; rfl; apply Pev.move; rfl; exact yes
      apply OL.op; exact Guard.cno rfl rfl; rfl; rfl; apply Pev.bin; rfl; exact fun h => h; rfl; exact fun h => h; intro hcond; apply Bin.lss
      apply OL.op; exact Guard.cyes rfl rfl; rfl; rfl; apply Pev.pick_or; rfl; exact fun h => h; rfl; exact fun h => h
      apply OL.op; exact Guard.cyes rfl rfl; rfl; rfl; apply Pev.move; rfl; exact fun h => h
      apply OL.op; exact Guard.cno rfl rfl; rfl; rfl; apply Pev.move; rfl; exact yes
      apply OL.op; exact Guard.cno rfl rfl; rfl; rfl; apply Pev.move; rfl; exact yes
      apply OL.op; exact Guard.cno rfl rfl; rfl; rfl; apply Pev.idxB; rfl; exact fun h => h; rfl; exact fun h => h; rfl; intro hcond; omega; rfl
      apply OL.op; exact Guard.cno rfl rfl; rfl; rfl; apply Pev.load_kept; rfl; exact fun h => h; exact .head _; rfl; intro hcond; assumption; intro hcond; assumption; intro hcond; exact NotOwned.au
      apply OL.op; exact Guard.cno rfl rfl; rfl; rfl; apply Pev.not; rfl; exact fun h => h
      apply OL.op; exact Guard.cyes rfl rfl; rfl; rfl; apply Pev.pick_or; rfl; exact fun h => h; rfl; exact fun h => h
      apply ono; rfl; rfl; rfl; apply Pev.pick_and; rfl; exact fun h => h; rfl; exact fun h => h
      apply oop; rfl; apply Pev.pick_or; rfl; exact yes; rfl; exact fun h => h
      apply oas; rfl; rfl
      apply OL.nil
      with_reducible apply At.in_normal
      with_reducible apply At.next
      apply W.reg
      apply obn; rfl; rfl; rfl; apply Bin.add_in; omega
      apply omv; rfl; rfl
      apply OL.nil
      refine At.again (j + 1, (hh || decide (u.1.to_ = v) && (!decide ((n : Int) = (k : Int)) || decide ((j : Int) < (at_ : Int)) || !z))) ⟨by simp only; omega, ?_⟩ (by simp only; omega) (by exact Sub.au) (fun w' hw' => hw'.thin (by exact Thin.au))
      simp only [Bool.or_eq_true, Bool.and_eq_true, decide_eq_true_eq, Bool.not_eq_true', decide_eq_false_iff_not]
      constructor
      · rintro (h | ⟨h1, h2⟩)
        · obtain ⟨a', h3, h4, h5⟩ := hh0.1 h
          exact ⟨a', by omega, h4, h5⟩
        · refine ⟨j + 1, by omega, ⟨p.1, hbsn, .inr ⟨j, u.1, rfl, hui, h1⟩⟩, ?_⟩
          rcases h2 with (h2 | h2) | h2
          · exact .inl (by omega)
          · exact .inr (.inl (by omega))
          · exact .inr (.inr h2)
      · rintro ⟨a', h3, h4, h5⟩
        by_cases e : a' ≤ j
        · exact .inl (hh0.2 ⟨a', e, h4, h5⟩)
        · right
          obtain rfl : a' = j + 1 := by omega
          obtain ⟨x, hx, h6⟩ := h4
          rw [hbsn] at hx
          obtain rfl := Option.some.inj hx
          rcases h6 with ⟨h6, _⟩ | ⟨j', i, h6, h7, h8⟩
          · omega
          · obtain rfl : j = j' := by omega
            rw [hui] at h7
            obtain rfl := Option.some.inj h7
            refine ⟨h8, ?_⟩
            rcases h5 with h5 | h5 | h5
            · exact .inl (.inl (by omega))
            · exact .inl (.inr (by omega))
            · exact .inr h5
    · obtain rfl : j = pi.length := by omega
      refine W.xt ?_
      with_reducible apply At.next
      apply W.sr
      apply omv; rfl; rfl
      apply OL.nx
      cases hhv : hh with
      | true =>
        obtain ⟨a', h3, h4, h5⟩ := hh0.1 hhv
        refine W.cond rfl (fun h9 => ?_) (fun h9 => by cases h9)
        cases hzv : z with
        | false =>
          rw [hzv] at hbv
          apply W.sr
          apply omv; rfl; rfl
          apply omv; rfl; rfl
          apply oop; rfl; apply Pev.idxB; rfl; exact yes; rfl; exact yes; rfl; intro hcond; omega; rfl
          apply oop; rfl; apply Pev.load_kept; rfl; exact yes; exact .head _; rfl; intro hcond; assumption; intro hcond; assumption; intro hcond; exact NotOwned.au
          apply oop; rfl; apply Pev.not; rfl; exact yes
          apply omv; rfl; rfl
          apply ono; rfl; rfl; rfl; apply Pev.load_blkA; rfl; exact yes; exact .head _; rfl; exact Take.au
          apply ono; rfl; rfl; rfl; apply Pev.move; rfl; exact yes
          apply ono; rfl; rfl; rfl; apply Pev.move; rfl; exact yes
          apply OL.gateOff; exact Guard.no rfl rfl; rfl; rfl
          apply oop; rfl; apply Pev.pick_on; rfl; exact yes; (intro hcond; rfl); rfl; exact yes
          apply oas; rfl; rfl
          apply OL.nx
          refine W.rt ?_
          ((with_reducible apply At.fin1); rfl; rfl; intro w' hw')
          refine ⟨_, rfl, ⟨fun _ => ⟨n, a', h4, .inr (.inr fun hr => ?_)⟩, fun _ => by simp⟩, by (exact hw'.fr)⟩
          rw [hBk.2 hr] at hzv
          cases hzv
        | true =>
          rw [hzv] at hbv
          apply W.sr
          apply omv; rfl; rfl
          apply omv; rfl; rfl
          apply oop; rfl; apply Pev.idxB; rfl; exact yes; rfl; exact yes; rfl; intro hcond; omega; rfl
          apply oop; rfl; apply Pev.load_kept; rfl; exact yes; exact .head _; rfl; intro hcond; assumption; intro hcond; assumption; intro hcond; exact NotOwned.au
          apply oop; rfl; apply Pev.not; rfl; exact yes
          apply omv; rfl; rfl
          apply ono; rfl; rfl; rfl; apply Pev.load_blkA; rfl; exact yes; exact .head _; rfl; exact Take.au
          apply ono; rfl; rfl; rfl; apply Pev.move; rfl; exact yes
          apply ono; rfl; rfl; rfl; apply Pev.move; rfl; exact yes
          refine OL.callG (α := Bool) (fun r => .bool r) (fun r => r = true ↔ Ovr (graphB bs) n k) (fun _ => Cls [blk bF 24 [.int .i64 nm, .slice (some a) es.length cap]] [w]) Guard.au (by simp) rfl rfl (by exact Args.au) (fun w2 hw2 => (Over_calls es (some a) cap nm n k w2 ((hqa ▸ he : Arr bkR w (low w) es (some a)).at hw2 (by exact mau) (fun k hk => by exact NotOwned.au)) hlen hk).mono fun e w3 ⟨r, h6, h7, h8⟩ => ⟨r, h6, by rw [hbs] at h7; exact h7, hw2.ext h8⟩) ?_
          intro r hr
          apply oop; rfl; apply Pev.pick_or; rfl; exact yes; rfl; exact yes
          apply oas; rfl; rfl
          apply OL.nx
          refine W.rt ?_
          ((with_reducible apply At.fin1); rfl; rfl; intro w' hw')
          refine ⟨_, rfl, ?_, by (exact hw'.fr)⟩
          have hrc : Rc (graphB bs) (-1) k := hBk.1 hzv
          simp
          rw [hr]
          constructor
          · intro ho
            refine ⟨n, a', h4, ?_⟩
            by_cases e : n = k
            · rcases h5 with h5 | h5 | h5
              · exact absurd e h5
              · exact .inl ⟨e, h5⟩
              · rw [hzv] at h5; cases h5
            · exact .inr (.inl ⟨e, ho⟩)
          · rintro ⟨b', a'', h6, h7⟩
            obtain ⟨rfl, rfl⟩ := huniq _ _ _ _ h4 h6
            rcases h7 with h7 | h7 | h7
            · exact .inl h7.1
            · exact h7.2
            · exact absurd hrc h7
      | false =>
        refine W.cond rfl (fun h9 => by cases h9) (fun h9 => ?_)
        apply W.skip
        with_reducible apply At.in_normal
        with_reducible apply At.next
        apply W.reg
        apply obn; rfl; rfl; rfl; apply Bin.add_in; omega
        apply omv; rfl; rfl
        apply OL.nil
        refine At.again (n + 1) ⟨by omega, fun m a' hm hd hx => ?_⟩ (by omega) (by exact Sub.au) (fun w' hw' => hw')
        by_cases e : m = n
        · subst e
          have h6 : hh = true := hh0.2 ⟨a', ?_, hd, hx⟩
          · rw [hhv] at h6; cases h6
          · obtain ⟨x, hx2, h7⟩ := hd
            rw [hbsn] at hx2
            obtain rfl := Option.some.inj hx2
            rcases h7 with ⟨h7, _⟩ | ⟨j', i, h7, h8, _⟩
            · omega
            · have := (List.getElem?_eq_some_iff.1 h8).1
              omega
        · exact hn0 m a' (by omega) hd hx
  · obtain rfl : n = es.length := by omega
    refine W.xt ?_
    with_reducible apply At.next
    apply W.sr
    apply oas; rfl; rfl
    apply OL.nx
    apply W.ret
    ((with_reducible apply At.fin1); rfl; rfl; intro w' hw')
    refine ⟨false, rfl, ⟨fun h => (by cases h), ?_⟩, by (exact hw'.fr)⟩
    rintro ⟨b', a', h1, h2⟩
    exfalso
    refine hn0 b' a' ?_ h1 ?_
    · obtain ⟨x, hx, _⟩ := h1
      have := (List.getElem?_eq_some_iff.1 hx).1
      omega
    · rcases h2 with h2 | h2 | h2
      · exact .inr (.inl h2.2)
      · exact .inl h2.1
      · right; right
        cases hzv : z with
        | false => rfl
        | true => exact absurd (hBk.1 hzv) h2
end Go.Proofs.Ytehelljmaiophaa.ss

/- The walk of the reference's FuncErr. Conditions: none. -/
namespace Go.Eng
set_option linter.unusedVariables false
set_option linter.unusedSimpArgs false
open Go.RowKit Go.Ss
theorem Cls.pileS {H : List Item} {S : List World} {w w' : World} {q : Option Addr} {c : Nat} {l : List Int} (h : Cls H S w) (he : Ext w w') (hI : IntsO w' (fresh w w') l q) : Cls (pile w.heap.size (fun k => k < w'.heap.size) [⟨q, c, ints l⟩] :: H) S w' :=
  h.add he _ (fun s hs hl => by
    obtain rfl := List.mem_singleton.1 hs
    simp only [ints_length] at hl
    obtain ⟨a, h1, h2, h3⟩ := hI hl
    exact ⟨a, h1, h2, h3⟩) (fun k hk => hk)
end Go.Eng
namespace Go.Ss
set_option linter.unusedVariables false
set_option linter.unusedSimpArgs false
open Go.Eng Go.RowKit
set_option linter.unusedVariables false
set_option linter.unusedSimpArgs false
theorem params_lim {bs : List Bk} (h : shapeE bs = 0) {k : Nat} {b : Bk} (hb : bs[k]? = some b) : b.params.length ≤ 4096 := by
  obtain ⟨h1, _, _⟩ := block_zero (shape_block h hb)
  have hz : ∀ (j : Nat) v, b.params[j]? = some v → defE v (defsF (bs.take k) ++ b.params.take j) = 0 := fun j v hv => by
    have h4 := firstR_zero.1 h1 j (List.getElem?_eq_some_iff.1 hv).1
    rwa [paramE_at hv] at h4
  refine Lim4.len ⟨?_, fun v hv => ?_⟩
  · have := nodup_more (seen := []) (ps := b.params) (fun j v hv hm => (def_zero (hz j v hv)).2.2 (List.mem_append_right _ (by simpa using hm))) List.nodup_nil
    simpa using this
  · obtain ⟨j, hj⟩ := List.getElem?_of_mem hv
    have := def_zero (hz j v hj)
    exact ⟨this.1, this.2.1⟩
theorem flat_bound {n : Nat} : ∀ {l : List Ed}, (∀ e ∈ l, e.args.length ≤ n) → (l.flatMap Ed.args).length ≤ l.length * n
  | [], _ => by simp
  | e :: l, h => by
    have h1 := h e (.head _)
    have h2 := flat_bound fun x hx => h x (.tail _ hx)
    simp only [List.flatMap_cons, List.length_append, List.length_cons, Nat.succ_mul]
    omega
theorem shape_to {t : Tm} (h : shapeT t = true) (hc : t.cases.length ≤ 256) : t.to_.length ≤ 257 := by
  unfold shapeT at h
  split at h
  · simp [-List.length_eq_zero_iff] at h; omega
  · split at h
    · simp [-List.length_eq_zero_iff] at h; omega
    · split at h
      · simp [-List.length_eq_zero_iff] at h; omega
      · split at h
        · simp [-List.length_eq_zero_iff] at h; omega
        · split at h
          · simp [-List.length_eq_zero_iff] at h; omega
          · cases h
theorem oper_len {bs : List Bk} (h : shapeE bs = 0) {k : Nat} {b : Bk} (hb : bs[k]? = some b) : (operT b.term).length ≤ 1000000000 := by
  obtain ⟨h1, h2, _, _, h3⟩ := term_zero (block_zero (shape_block h hb)).2.2
  have h4 := shape_to h1 h2
  have h5 : (b.term.to_.flatMap Ed.args).length ≤ b.term.to_.length * 4096 := flat_bound fun e he => by
    obtain ⟨h6, h7, h8⟩ := edge_zero (h3 e he)
    have h9 : bs[e.block.toNat]? = some (bs.getD e.block.toNat noB) := by
      rw [List.getD_eq_getElem?_getD, List.getElem?_eq_getElem (by omega)]; rfl
    rw [h8]
    exact params_lim h h9
  unfold operT
  rw [List.length_append]
  have : (if b.term.kind = 0 ∨ b.term.kind = 2 ∨ b.term.kind = 3 then [b.term.arg] else []).length ≤ 1 := by split <;> simp
  omega
end Go.Ss
namespace Go.Proofs.Ytehelljmaiophaa.ss
set_option linter.unusedVariables false
set_option linter.unusedSimpArgs false
set_option maxRecDepth 100000
open Go.Eng Go.RowKit Go.Ss
set_option linter.unusedVariables false
set_option linter.unusedSimpArgs false
theorem FuncErr_calls (fn : Go.Ss.Fn) (y : FnY) (w : World) (hfn : FnOk w (low w) fn y) :
    Calls Try.prog 14 [.agg (fnC fn y).toArray].toArray w fun e w' => e = .returned (.int .i64 (funcE fn)) ∧ Ext w w' := by
  obtain ⟨es, hes, he⟩ := hfn.b
  obtain ⟨nm, bs⟩ := fn
  obtain ⟨q, cap⟩ := y
  have hbl := hfn.bl
  simp only at hes he hbl
  have hbl2 : bs.length = es.length := by rw [← hes, List.length_map]
  refine enter Try.func14 rfl Try.ntmps14 rfl (Cls.start w) ?_
  (simp only [argEnv, Nat.zero_add, Nat.reduceAdd])
  simp only [fnC]
  rw [hbl2]
  apply W.sr
  apply OL.box; rfl; rfl; exact CellsL.agg; (intro bk hbk; simp only [AllLe, and_true] at hbk)
  apply oas; rfl; rfl
  apply OL.nsr
  apply oas; rfl; rfl
  apply OL.nx
  apply W.seq
  apply W.sr
  apply ofa; rfl; rfl; rfl
  apply old; rfl; rfl; exact .head _; rfl; rfl
  apply oop; rfl; apply Pev.len_slice; rfl; exact yes; rfl
  apply omv; rfl; rfl
  apply OL.nx
  apply W.block
  revert bk
  intro bF hbF
  have hbF1 : w.heap.size ≤ bF := by first | exact hbF | exact hbF.1
  refine W.loop (G := Nat × Int) (fun z => z.1 ≤ es.length ∧ (es.length ≤ 128 → z.2 = (insAll (bs.take z.1) : Int)) ∧ insAll (bs.take z.1) ≤ z.1 * 140737488355328) (fun z => es.length - z.1)
    (fun z => [(1, true, .pointer (some ⟨bF, 0, none⟩)), (3, true, .int .i64 z.2), (17, true, .slice q es.length cap), (18, true, .int .i64 (es.length : Int)), (19, true, .int .i64 (z.1 : Int))])
    (fun _ => Cls [blk bF 24 [.int .i64 nm, .slice q es.length cap]] [w]) (0, 0) ⟨by simp, fun _ => by simp [insAll], by simp [insAll]⟩ (by exact Sub.au) (fun w' hw' => hw') ?_
  rintro ⟨k, z⟩ ⟨hk, hz, hz2⟩
  simp only at hk hz hz2 ⊢
  apply W.sr
  apply obn; rfl; rfl; rfl; apply Bin.lss
  apply OL.nx
  apply W.seq
  (refine W.cnd (fun hlt => ?_) (fun hlt => ?_)) <;> (try (exfalso; first | omega | exact hlt trivial | contradiction))
  · have hkl : k < es.length := by omega
    obtain ⟨a, p, hqa, hab, hp, hcell, hok⟩ := he.get hkl
    have hab : a.block < w.heap.size := hab
    have hcell : CellsAt w (a.add (k * 7)) [.slice p.2.p.1 p.1.params.length p.2.p.2, .slice p.2.i.1 p.1.ins.length p.2.i.2, .int .i64 p.1.term.kind, .int .i64 p.1.term.arg, .int .i64 p.1.term.n, .slice p.2.t.c.1 p.1.term.cases.length p.2.t.c.2, .slice p.2.t.t.1 p.1.term.to_.length p.2.t.t.2] := hcell
    have hbsk : bs[k]? = some p.1 := by rw [← hes, List.getElem?_map, hp]; rfl
    have hil := hok.il
    have hins : insAll (bs.take (k + 1)) = insAll (bs.take k) + p.1.ins.length := by
      unfold insAll
      rw [List.take_add_one, hbsk]
      simp
    rw [hqa]
    apply W.sk
    apply W.sb
    apply W.sr
    apply oop; rfl; apply Pev.idx; rfl; exact yes; rfl; exact yes; rfl; rfl; intro hcond; omega
    apply oop; rfl; apply Pev.load_keptA; rfl; exact yes; exact .head _; rfl; intro hcond; assumption; rfl; intro hcond; (rw [add_block]; assumption); intro hcond; exact NotOwned.au
    apply OL.alloc; rfl; rfl; exact CellsL.agg; (intro bk hbk; simp only [AllLe, and_true] at hbk)
    apply OL.storeB; rfl; rfl; exact CellsL.agg; rfl; rfl; rfl; exact Swap.au; exact Put.au
    apply OL.nx
    apply W.reg
    apply omv; rfl; rfl
    apply ofa; rfl; rfl; rfl
    apply old; rfl; rfl; exact .head _; rfl; rfl
    apply oop; rfl; apply Pev.len_slice; rfl; exact yes; rfl
    apply obn; rfl; rfl; rfl; apply Bin.add
    apply oas; rfl; rfl
    apply OL.nil
    with_reducible apply At.in_normal
    with_reducible apply At.next
    apply W.reg
    apply obn; rfl; rfl; rfl; apply Bin.add_in; omega
    apply omv; rfl; rfl
    apply OL.nil
    have hle : es.length ≤ 128 → IntKind.i64.wrap (z + (p.1.ins.length : Int)) = ((insAll (bs.take (k + 1)) : Nat) : Int) := fun h => by
      have h1 := hz h
      rw [IntWalk.i64_in _ (by rw [h1]; omega), h1, hins]
      omega
    refine At.again (k + 1, IntKind.i64.wrap (z + (p.1.ins.length : Int))) ⟨by simp only; omega, hle, by rw [hins]; simp only; omega⟩ (by simp only; omega) (by exact Sub.au) (fun w' hw' => hw'.thin (by exact Thin.au))
  obtain rfl : k = es.length := by omega
  rw [← hbl2, List.take_length] at hz hz2
  refine W.xt ?_
  with_reducible apply At.next
  apply W.seq
  apply W.sr
  apply ofa; rfl; rfl; rfl
  apply old; rfl; rfl; exact .head _; rfl; rfl
  apply oop; rfl; apply Pev.len_slice; rfl; exact yes; rfl
  apply obn; rfl; rfl; rfl; apply Bin.eql
  apply OL.nx
  (refine W.cnd (fun h1 => ?_) (fun h1 => ?_)) <;> (try (exfalso; first | omega | exact h1 trivial | contradiction))
  · have hF : funcE ⟨nm, bs⟩ = 3 := by
      unfold funcE
      rw [if_pos (by simp only; omega)]
    apply W.sr
    apply oas; rfl; rfl
    apply OL.nx
    refine W.rt ?_
    ((with_reducible apply At.fin1); rfl; rfl; intro w' hw')
    rw [hF]
    exact ⟨rfl, by (exact hw'.fr)⟩
  obtain ⟨a, p, hqa, hab, hp, hcell, hok⟩ := he.get (show 0 < es.length by omega)
  have hab : a.block < w.heap.size := hab
  have hcell : CellsAt w (a.add (0 * 7)) [.slice p.2.p.1 p.1.params.length p.2.p.2, .slice p.2.i.1 p.1.ins.length p.2.i.2, .int .i64 p.1.term.kind, .int .i64 p.1.term.arg, .int .i64 p.1.term.n, .slice p.2.t.c.1 p.1.term.cases.length p.2.t.c.2, .slice p.2.t.t.1 p.1.term.to_.length p.2.t.t.2] := hcell
  have hg0 : bs.getD 0 noB = p.1 := by rw [List.getD_eq_getElem?_getD, ← hes, List.getElem?_map, hp]; rfl
  have hqe : q = some a := hqa
  rw [hqa]
  apply W.sk
  apply W.seq
  apply W.sr
  apply ofa; rfl; rfl; rfl
  apply old; rfl; rfl; exact .head _; rfl; rfl
  apply oop; rfl; apply Pev.len_slice; rfl; exact yes; rfl
  apply obn; rfl; rfl; rfl; apply Bin.gtr
  apply omv; rfl; rfl
  apply ono; rfl; rfl; rfl; apply Pev.move; rfl; exact yes
  apply ono; rfl; rfl; rfl; apply Pev.bin; rfl; exact fun h => h; rfl; exact yes; intro hcond; apply Bin.gtr
  apply oop; rfl; apply Pev.pick_or; rfl; exact yes; rfl; exact fun h => h
  apply omv; rfl; rfl
  apply ono; rfl; rfl; rfl; apply Pev.fld; rfl; exact yes; rfl
  apply ono; rfl; rfl; rfl; apply Pev.load_blk; rfl; exact fun h => h; exact .head _; rfl; rfl
  apply ono; rfl; rfl; rfl; apply Pev.idx; rfl; exact fun h => h; rfl; exact yes; rfl; rfl; intro hcond; (simp only [Bool.and_eq_true, Bool.or_eq_true, Bool.not_eq_true', decide_eq_true_eq, decide_eq_false_iff_not] at *; omega)
  apply ono; rfl; rfl; rfl; apply Pev.fldA; rfl; exact fun h => h; rfl
  apply ono; rfl; rfl; rfl; apply Pev.load_kept; rfl; exact fun h => h; exact .head _; rfl; intro hcond; apply CellsAt.at_ (by assumption) rfl; intro hcond; assumption; intro hcond; exact NotOwned.au
  apply ono; rfl; rfl; rfl; apply Pev.len_slice; rfl; exact fun h => h; rfl
  apply ono; rfl; rfl; rfl; apply Pev.bin; rfl; exact fun h => h; rfl; exact yes; intro hcond; apply Bin.gtr
  apply oop; rfl; apply Pev.pick_or; rfl; exact yes; rfl; exact fun h => h
  apply OL.nx
  refine W.cond rfl (fun h2 => ?_) (fun h2 => ?_)
  · have hF : funcE ⟨nm, bs⟩ = 2 := by
      unfold funcE
      rw [if_neg (by simp only; omega), if_pos ?_]
      simp only
      rw [hg0]
      simp at h2
      by_cases h3 : 128 < es.length
      · exact .inl (by omega)
      · have := hz (by omega)
        right
        rcases h2 with (h2 | h2) | h2
        · omega
        · left; omega
        · right; omega
    apply W.sr
    apply oas; rfl; rfl
    apply OL.nx
    refine W.rt ?_
    ((with_reducible apply At.fin1); rfl; rfl; intro w' hw')
    rw [hF]
    exact ⟨rfl, by (exact hw'.fr)⟩
  have h3 : es.length ≤ 128 := by simp at h2; omega
  have h2' : ¬ (128 < bs.length ∨ 1024 < insAll bs ∨ 6 < (bs.getD 0 noB).params.length) := by
    have := hz (by omega)
    rw [hg0]
    simp at h2
    omega
  apply W.sk
  apply W.seq
  apply W.sr
  apply ofa; rfl; rfl; rfl
  apply old; rfl; rfl; exact .head _; rfl; rfl
  (((first | (with_reducible apply OL.op) | (with_reducible apply QL.op)); (exact Guard.au); rfl; rfl); (exact Pev.call (v := .bool (decide (-1 ≤ nm) && decide (nm ≤ 1048575))) rfl (by exact Args.au) (fun _ w2 hw2 => (Within_calls nm (-1) 1048575 w2).mono (fun e w3 h => ⟨h.1, hw2.ext h.2⟩))))
  apply oop; rfl; apply Pev.not; rfl; exact yes
  apply OL.nx
  refine W.cond rfl (fun h4 => ?_) (fun h4 => ?_)
  · have hF : funcE ⟨nm, bs⟩ = 4 := by
      unfold funcE
      rw [if_neg (by simp only; omega), if_neg h2', if_pos (by simp at h4; simp only; omega)]
    apply W.sr
    apply oas; rfl; rfl
    apply OL.nx
    refine W.rt ?_
    ((with_reducible apply At.fin1); rfl; rfl; intro w' hw')
    rw [hF]
    exact ⟨rfl, by (exact hw'.fr)⟩
  have hF : (¬ shapeE bs = 0 → funcE ⟨nm, bs⟩ = shapeE bs) ∧ (shapeE bs = 0 → ∀ r : Int, (r = 0 ∨ r = 6) → (r = 0 ↔ ∀ (k : Nat) b, bs[k]? = some b → UsesB bs k b) → r = funcE ⟨nm, bs⟩) := by
    constructor
    · intro h5
      unfold funcE
      rw [if_neg (by simp only; omega), if_neg h2', if_neg (by simp at h4; simp only; omega), if_pos h5]
    · intro h5 r hr hi
      unfold funcE
      rw [if_neg (by simp only; omega), if_neg h2', if_neg (by simp at h4; simp only; omega), if_neg (fun h => h h5)]
      split
      · rename_i h6; exact hi.2 h6
      · rename_i h6
        rcases hr with hr | hr
        · exact absurd (hi.1 hr) h6
        · exact hr
  rw [hqe] at he
  have hbad : ∀ (k : Nat) b, bs[k]? = some b → ¬ UsesB bs k b → shapeE bs = 0 → (6 : Int) = funcE ⟨nm, bs⟩ := fun k b hb hn h5 => hF.2 h5 6 (.inr rfl) ⟨fun h => by omega, fun h => absurd (h k b hb) hn⟩
  apply W.sk
  apply W.seq
  apply W.sr
  apply oop; rfl; apply Pev.load_blkA; rfl; exact yes; exact .head _; rfl; exact Take.au
  (((first | (with_reducible apply OL.op) | (with_reducible apply QL.op)); (exact Guard.au); rfl; rfl); (exact Pev.call (v := .int .i64 (shapeE bs)) rfl (by exact Args.au) (fun _ w2 hw2 => (shapeErr_calls es (some a) cap nm w2 (he.at hw2 (by exact mau) (fun k hk => by exact NotOwned.au)) (by omega)).mono (fun e w3 h => ⟨by rw [h.1, hes], hw2.ext h.2⟩))))
  apply oas; rfl; rfl
  apply OL.nsr
  apply omv; rfl; rfl
  apply obn; rfl; rfl; rfl; apply Bin.neq
  apply OL.nx
  (refine W.cnd (fun hne => ?_) (fun hne => ?_)) <;> (try (exfalso; first | omega | exact hne trivial | contradiction))
  · rw [hF.1 hne]
    apply W.sr
    apply omv; rfl; rfl
    apply oas; rfl; rfl
    apply OL.nx
    refine W.rt ?_
    ((with_reducible apply At.fin1); rfl; rfl; intro w' hw')
    exact ⟨rfl, by (exact hw'.fr)⟩
  have hs0 : shapeE bs = 0 := by simpa using hne
  apply W.sk
  apply W.sr
  apply oop; rfl; apply Pev.load_blkA; rfl; exact yes; exact .head _; rfl; exact Take.au
  refine OL.callE (α := Nat × List Bool) (fun z => .slice (some ⟨z.1, 0, none⟩) es.length es.length) (fun z => w.heap.size ≤ z.1 ∧ z.2.length = es.length ∧ ∀ k : Nat, z.2[k]? = some true ↔ Rc (graphB bs) (-1) k) (fun z => Cls (blk z.1 4 (bls z.2) :: [blk bF 24 [.int .i64 nm, .slice (some a) es.length cap]]) [w]) rfl rfl (by exact Args.au) (fun w2 hw2 => (Reach_calls es (some a) cap nm (-1) w2 (he.at hw2 (by exact mau) (fun k hk => by exact NotOwned.au)) (by omega)).mono fun e w3 ⟨bR, B, h1, h2, h3, h4, h5, h6⟩ => ⟨(bR, B), h1, ⟨Nat.le_trans (hw2.kp w (by exact mau)).size h5, h2, by rw [hes] at h3; exact h3⟩, hw2.add h4 _ h6 (fun k hk => by rw [show k = bR from hk]; exact ⟨h5, blk_lt h6⟩)⟩) ?_
  rintro ⟨bR, B⟩ ⟨hbR, hBl, hB⟩
  simp only at hbR hBl hB ⊢
  have hU : ∀ (v : Int) (k at_ : Nat) (hk : k < es.length) (H : List Eng.Item) (S : List World) (w2 : World) (hw2 : Cls H S w2) (hwS : w ∈ S) (hno : ∀ k, k < w.heap.size → NotOwned H k) (hmem : blk bR 4 (bls B) ∈ H), Calls Try.prog 58 [.agg #[.int .i64 nm, .slice (some a) es.length cap], .int .i64 v, .int .i64 (k : Int), .int .i64 (at_ : Int), .slice (some ⟨bR, 0, none⟩) es.length es.length].toArray w2 fun e w' => ∃ r : Bool, e = .returned (.bool r) ∧ (r = true ↔ Fine bs v k at_) ∧ Cls H S w' := fun v k at_ hk H S w2 hw2 hwS hno hmem => (usable_calls es (some a) cap nm v k at_ bR B w2 (he.at hw2 hwS hno) (by omega) hk (by rw [hes]; exact hs0) hBl (by rw [hes]; exact hB k) (hw2.item hmem)).mono fun e w3 ⟨r, h1, h2, h3⟩ => ⟨r, h1, by rw [hes] at h2; exact h2, hw2.ext h3⟩
  apply oas; rfl; rfl
  apply OL.nx
  apply W.seq
  apply W.sr
  apply ofa; rfl; rfl; rfl
  apply old; rfl; rfl; exact .tail _ (.head _); rfl; rfl
  apply oop; rfl; apply Pev.len_slice; rfl; exact yes; rfl
  apply omv; rfl; rfl
  apply OL.nx
  apply W.block
  refine W.loop (G := Nat) (fun k => k ≤ es.length ∧ ∀ (k' : Nat) b, k' < k → bs[k']? = some b → UsesB bs k' b) (fun k => es.length - k)
    (fun k => [(1, true, .pointer (some ⟨bF, 0, none⟩)), (7, true, .slice (some ⟨bR, 0, none⟩) es.length es.length), (62, true, .slice (some a) es.length cap), (63, true, .int .i64 (es.length : Int)), (64, true, .int .i64 (k : Int))]) (fun k => Cls [blk bR 4 (bls B), blk bF 24 [.int .i64 nm, .slice (some a) es.length cap]] [w]) 0 ⟨by omega, fun k' b h => by omega⟩ (by exact Sub.au) (fun w' hw' => hw') ?_
  rintro k ⟨hk, hk0⟩
  apply W.sr
  apply obn; rfl; rfl; rfl; apply Bin.lss
  apply OL.nx
  apply W.seq
  (refine W.cnd (fun hltk => ?_) (fun hltk => ?_)) <;> (try (exfalso; first | omega | exact hltk trivial | contradiction))
  · have hkl : k < es.length := by omega
    obtain ⟨a2, p, hqa2, hab2, hp, hcell2, hok⟩ := he.get hkl
    obtain rfl := Option.some.inj hqa2
    have hab2 : a.block < w.heap.size := hab2
    have hcell2 : CellsAt w (a.add (k * 7)) [.slice p.2.p.1 p.1.params.length p.2.p.2, .slice p.2.i.1 p.1.ins.length p.2.i.2, .int .i64 p.1.term.kind, .int .i64 p.1.term.arg, .int .i64 p.1.term.n, .slice p.2.t.c.1 p.1.term.cases.length p.2.t.c.2, .slice p.2.t.t.1 p.1.term.to_.length p.2.t.t.2] := hcell2
    have hbsk : bs[k]? = some p.1 := by rw [← hes, List.getElem?_map, hp]; rfl
    have hil := hok.il
    obtain ⟨pi, hpi, hiarr⟩ := hok.i
    have hpil : p.1.ins.length = pi.length := by rw [← hpi, List.length_map]
    have hop := oper_len hs0 hbsk
    apply W.sk
    apply W.sb
    apply W.sr
    apply omv; rfl; rfl
    apply oop; rfl; apply Pev.idx; rfl; exact yes; rfl; exact yes; rfl; rfl; intro hcond; omega
    apply oop; rfl; apply Pev.load_keptA; rfl; exact yes; exact .head _; rfl; intro hcond; assumption; rfl; intro hcond; (rw [add_block]; assumption); intro hcond; exact NotOwned.au
    apply OL.alloc; rfl; rfl; exact CellsL.agg; (intro bk hbk; simp only [AllLe, and_true] at hbk)
    apply oas; rfl; rfl
    apply OL.storeB; rfl; rfl; exact CellsL.agg; rfl; rfl; rfl; exact Swap.au; exact Put.au
    apply OL.nx
    apply W.seq
    apply W.sr
    apply ofa; rfl; rfl; rfl
    apply old; rfl; rfl; exact .head _; rfl; rfl
    apply oop; rfl; apply Pev.len_slice; rfl; exact yes; rfl
    apply omv; rfl; rfl
    apply OL.nx
    apply W.block
    revert bk
    intro b9 hb9
    have hb91 : w.heap.size ≤ b9 := by first | exact hb9 | exact hb9.1
    refine W.loop (G := Nat) (fun n => n ≤ p.1.ins.length ∧ ∀ (n' : Nat) i, n' < n → p.1.ins[n']? = some i → ∀ v ∈ i.args, Fine bs v k n') (fun n => p.1.ins.length - n)
      (fun n => [(1, true, .pointer (some ⟨bF, 0, none⟩)), (7, true, .slice (some ⟨bR, 0, none⟩) es.length es.length), (8, true, .int .i64 (k : Int)), (9, true, .pointer (some ⟨b9, 0, none⟩)), (62, true, .slice (some a) es.length cap), (63, true, .int .i64 (es.length : Int)), (64, true, .int .i64 (k : Int)), (70, true, .slice p.2.i.1 p.1.ins.length p.2.i.2), (71, true, .int .i64 (p.1.ins.length : Int)), (72, true, .int .i64 (n : Int))]) (fun n => Cls [blk b9 41 [.slice p.2.p.1 p.1.params.length p.2.p.2, .slice p.2.i.1 p.1.ins.length p.2.i.2, .int .i64 p.1.term.kind, .int .i64 p.1.term.arg, .int .i64 p.1.term.n, .slice p.2.t.c.1 p.1.term.cases.length p.2.t.c.2, .slice p.2.t.t.1 p.1.term.to_.length p.2.t.t.2], blk bR 4 (bls B), blk bF 24 [.int .i64 nm, .slice (some a) es.length cap]] [w]) 0 ⟨by omega, fun n' i h => by omega⟩ (by exact Sub.au) (fun w' hw' => hw') ?_
    rintro n ⟨hn, hn0⟩
    apply W.sr
    apply obn; rfl; rfl; rfl; apply Bin.lss
    apply OL.nx
    apply W.seq
    (refine W.cnd (fun hltn => ?_) (fun hltn => ?_)) <;> (try (exfalso; first | omega | exact hltn trivial | contradiction))
    · have hnl : n < p.1.ins.length := by omega
      obtain ⟨ai, u, hqi, haib, hu, hcu, hoku⟩ := hiarr.get (show n < pi.length by omega)
      have haib : ai.block < w.heap.size := haib
      have hcu : CellsAt w (ai.add (n * 4)) [.int .i64 u.1.to_, .int .i64 u.1.op, .int .i64 u.1.n, .slice u.2.1 u.1.args.length u.2.2] := hcu
      have hui : p.1.ins[n]? = some u.1 := by rw [← hpi, List.getElem?_map, hu]; rfl
      have hual := hoku.al
      rw [hqi]
      apply W.sk
      apply W.sb
      apply W.sr
      apply omv; rfl; rfl
      apply oop; rfl; apply Pev.idx; rfl; exact yes; rfl; exact yes; rfl; rfl; intro hcond; omega
      apply oop; rfl; apply Pev.load_keptA; rfl; exact yes; exact .head _; rfl; intro hcond; assumption; rfl; intro hcond; (rw [add_block]; assumption); intro hcond; exact NotOwned.au
      apply OL.alloc; rfl; rfl; exact CellsL.agg; (intro bk hbk; simp only [AllLe, and_true] at hbk)
      apply oas; rfl; rfl
      apply OL.storeB; rfl; rfl; exact CellsL.agg; rfl; rfl; rfl; exact Swap.au; exact Put.au
      apply OL.nsr
      apply ofa; rfl; rfl; rfl
      apply old; rfl; rfl; exact .head _; rfl; rfl
      apply oop; rfl; apply Pev.len_slice; rfl; exact yes; rfl
      apply omv; rfl; rfl
      apply OL.nx
      apply W.block
      revert bk
      intro b11 hb11
      have hb111 : w.heap.size ≤ b11 := by first | exact hb11 | exact hb11.1
      refine W.loop (G := Nat) (fun i => i ≤ u.1.args.length ∧ ∀ (m : Nat) v, m < i → u.1.args[m]? = some v → Fine bs v k n) (fun i => u.1.args.length - i)
        (fun i => [(1, true, .pointer (some ⟨bF, 0, none⟩)), (7, true, .slice (some ⟨bR, 0, none⟩) es.length es.length), (8, true, .int .i64 (k : Int)), (9, true, .pointer (some ⟨b9, 0, none⟩)), (10, true, .int .i64 (n : Int)), (62, true, .slice (some a) es.length cap), (63, true, .int .i64 (es.length : Int)), (64, true, .int .i64 (k : Int)), (70, true, .slice (some ai) p.1.ins.length p.2.i.2), (71, true, .int .i64 (p.1.ins.length : Int)), (72, true, .int .i64 (n : Int)), (78, true, .slice u.2.1 u.1.args.length u.2.2), (79, true, .int .i64 (u.1.args.length : Int)), (80, true, .int .i64 (i : Int))]) (fun i => Cls [blk b9 41 [.slice p.2.p.1 p.1.params.length p.2.p.2, .slice (some ai) p.1.ins.length p.2.i.2, .int .i64 p.1.term.kind, .int .i64 p.1.term.arg, .int .i64 p.1.term.n, .slice p.2.t.c.1 p.1.term.cases.length p.2.t.c.2, .slice p.2.t.t.1 p.1.term.to_.length p.2.t.t.2], blk bR 4 (bls B), blk bF 24 [.int .i64 nm, .slice (some a) es.length cap]] [w]) 0 ⟨by omega, fun m v h => by omega⟩ (by exact Sub.au) (fun w' hw' => hw'.thin (.any (fun k hk => by rw [show k = b11 from hk]; exact ⟨hb111, trivial⟩) Thin.same)) ?_
      rintro i ⟨hi, hi0⟩
      apply W.sr
      apply obn; rfl; rfl; rfl; apply Bin.lss
      apply OL.nx
      apply W.seq
      (refine W.cnd (fun hlti => ?_) (fun hlti => ?_)) <;> (try (exfalso; first | omega | exact hlti trivial | contradiction))
      · have hil2 : i < u.1.args.length := by omega
        obtain ⟨av, v, hqv, habv, hv, hcv⟩ := hoku.a.get hil2
        have habv : av.block < w.heap.size := habv
        rw [hqv]
        apply W.sk
        apply W.sb
        apply W.sr
        apply oop; rfl; apply Pev.idx; rfl; exact yes; rfl; exact yes; rfl; rfl; intro hcond; omega
        apply oop; rfl; apply Pev.load_kept; rfl; exact yes; exact .head _; rfl; intro hcond; assumption; intro hcond; (rw [add_block]; assumption); intro hcond; exact NotOwned.au
        apply oas; rfl; rfl
        apply OL.nsr
        apply oop; rfl; apply Pev.load_blkA; rfl; exact yes; exact .tail _ (.tail _ (.head _)); rfl; exact Take.au
        apply omv; rfl; rfl
        apply omv; rfl; rfl
        apply omv; rfl; rfl
        apply omv; rfl; rfl
        refine OL.callE (α := Bool) (fun r => .bool r) (fun r => r = true ↔ Fine bs v k n) (fun _ => Cls [blk b9 41 [.slice p.2.p.1 p.1.params.length p.2.p.2, .slice (some ai) p.1.ins.length p.2.i.2, .int .i64 p.1.term.kind, .int .i64 p.1.term.arg, .int .i64 p.1.term.n, .slice p.2.t.c.1 p.1.term.cases.length p.2.t.c.2, .slice p.2.t.t.1 p.1.term.to_.length p.2.t.t.2], blk bR 4 (bls B), blk bF 24 [.int .i64 nm, .slice (some a) es.length cap]] [w]) rfl rfl (by exact Args.au) (fun w2 hw2 => hU v k n hkl _ _ w2 hw2 (.head _) (fun k hk => by exact NotOwned.au) (by exact mau)) ?_
        intro r hr
        apply oop; rfl; apply Pev.not; rfl; exact yes
        apply OL.nx
        refine W.cond rfl (fun h3 => ?_) (fun h3 => ?_)
        · have hnf : ¬ Fine bs v k n := fun h => by rw [hr.2 h] at h3; cases h3
          have h6 := hbad k p.1 hbsk (fun h => hnf (h.1 n u.1 hui v (List.mem_of_getElem? hv))) hs0
          apply W.sr
          apply oas; rfl; rfl
          apply OL.nx
          refine W.rt ?_
          ((with_reducible apply At.fin1); rfl; rfl; intro w' hw')
          exact ⟨by rw [h6], (hw'.thin (.any (fun k hk => by rw [show k = b9 from hk]; exact ⟨hb91, trivial⟩) (.any (fun k hk => by rw [show k = bR from hk]; exact ⟨hbR, trivial⟩) (.any (fun k hk => by rw [show k = bF from hk]; exact ⟨hbF1, trivial⟩) Thin.same)))).fr (by exact mau) (fun k hk => NotOwned.nil)⟩
        · have hfv : Fine bs v k n := hr.1 (by simpa using h3)
          apply W.skip
          with_reducible apply At.in_normal
          with_reducible apply At.next
          apply W.reg
          apply obn; rfl; rfl; rfl; apply Bin.add_in; omega
          apply omv; rfl; rfl
          apply OL.nil
          refine At.again (i + 1) ⟨by omega, fun m v' hm hv' => ?_⟩ (by omega) (by exact Sub.au) (fun w' hw' => hw')
          by_cases em : m = i
          · subst em
            rw [hv] at hv'
            obtain rfl := Option.some.inj hv'
            exact hfv
          · exact hi0 m v' (by omega) hv'
      · obtain rfl : i = u.1.args.length := by omega
        refine W.xt ?_
        with_reducible apply At.in_normal
        with_reducible apply At.next
        apply W.reg
        apply obn; rfl; rfl; rfl; apply Bin.add_in; omega
        apply omv; rfl; rfl
        apply OL.nil
        refine At.again (n + 1) ⟨by omega, fun m i' hm hi' v hv => ?_⟩ (by omega) (by exact Sub.au) (fun w' hw' => hw')
        by_cases em : m = n
        · subst em
          rw [hui] at hi'
          obtain rfl := Option.some.inj hi'
          obtain ⟨m2, hm2⟩ := List.getElem?_of_mem hv
          exact hi0 m2 v (List.getElem?_eq_some_iff.1 hm2).1 hm2
        · exact hn0 m i' (by omega) hi' v hv
    · obtain rfl : n = p.1.ins.length := by omega
      refine W.xt ?_
      with_reducible apply At.next
      apply W.sr
      apply ofa; rfl; rfl; rfl
      apply oop; rfl; apply Pev.load_blkA; rfl; exact yes; exact .head _; rfl; exact Take.au
      refine OL.callE (α := Option Addr × Nat × Nat × Nat) (fun z => .slice z.1 (operT p.1.term).length z.2.1) (fun z => w.heap.size ≤ z.2.2.1 ∧ (0 < (operT p.1.term).length → ∃ qa, z.1 = some qa)) (fun z => Cls [pile z.2.2.1 (fun k => k < z.2.2.2) [⟨z.1, z.2.1, ints (operT p.1.term)⟩], blk b9 41 [.slice p.2.p.1 p.1.params.length p.2.p.2, .slice p.2.i.1 p.1.ins.length p.2.i.2, .int .i64 p.1.term.kind, .int .i64 p.1.term.arg, .int .i64 p.1.term.n, .slice p.2.t.c.1 p.1.term.cases.length p.2.t.c.2, .slice p.2.t.t.1 p.1.term.to_.length p.2.t.t.2], blk bR 4 (bls B), blk bF 24 [.int .i64 nm, .slice (some a) es.length cap]] [w]) rfl rfl (by exact Args.au) (fun w2 hw2 => (Operands_calls p.1.term p.2.t w2 (TmOk.at hok.t hw2 (by exact mau) (fun k hk => by exact NotOwned.au)) hop).mono fun e w3 ⟨qo, co, h1, h2, h3⟩ => ⟨(qo, co, w2.heap.size, w3.heap.size), h1, ⟨(hw2.kp w (by exact mau)).size, fun h => (h3 h).imp fun qa hq => hq.1⟩, hw2.pileS h2 h3⟩) ?_
      rintro ⟨qo, co, pB, pT⟩ ⟨hpB, hqo⟩
      simp only at hpB hqo ⊢
      apply oop; rfl; apply Pev.len_slice; rfl; exact yes; rfl
      apply omv; rfl; rfl
      apply OL.nx
      apply W.block
      refine W.loop (G := Nat) (fun i => i ≤ (operT p.1.term).length ∧ ∀ (m : Nat) v, m < i → (operT p.1.term)[m]? = some v → Fine bs v k p.1.ins.length) (fun i => (operT p.1.term).length - i)
        (fun i => [(1, true, .pointer (some ⟨bF, 0, none⟩)), (7, true, .slice (some ⟨bR, 0, none⟩) es.length es.length), (8, true, .int .i64 (k : Int)), (9, true, .pointer (some ⟨b9, 0, none⟩)), (62, true, .slice (some a) es.length cap), (63, true, .int .i64 (es.length : Int)), (64, true, .int .i64 (k : Int)), (95, true, .slice qo (operT p.1.term).length co), (96, true, .int .i64 ((operT p.1.term).length : Int)), (97, true, .int .i64 (i : Int))]) (fun i => Cls [pile pB (fun k => k < pT) [⟨qo, co, ints (operT p.1.term)⟩], blk b9 41 [.slice p.2.p.1 p.1.params.length p.2.p.2, .slice p.2.i.1 p.1.ins.length p.2.i.2, .int .i64 p.1.term.kind, .int .i64 p.1.term.arg, .int .i64 p.1.term.n, .slice p.2.t.c.1 p.1.term.cases.length p.2.t.c.2, .slice p.2.t.t.1 p.1.term.to_.length p.2.t.t.2], blk bR 4 (bls B), blk bF 24 [.int .i64 nm, .slice (some a) es.length cap]] [w]) 0 ⟨by omega, fun m v h => by omega⟩ (by exact Sub.au) (fun w' hw' => hw') ?_
      rintro i ⟨hi, hi0⟩
      apply W.sr
      apply obn; rfl; rfl; rfl; apply Bin.lss
      apply OL.nx
      apply W.seq
      (refine W.cnd (fun hlto => ?_) (fun hlto => ?_)) <;> (try (exfalso; first | omega | exact hlto trivial | contradiction))
      · have hil2 : i < (operT p.1.term).length := by omega
        obtain ⟨qa, hqa3⟩ := hqo (by omega)
        obtain ⟨v, hv⟩ : ∃ v, (operT p.1.term)[i]? = some v := ⟨_, List.getElem?_eq_getElem hil2⟩
        have hvm := List.mem_of_getElem? hv
        rw [hqa3]
        apply W.sk
        apply W.sb
        apply W.sr
        apply oop; rfl; apply Pev.idx; rfl; exact yes; rfl; exact yes; rfl; rfl; intro hcond; omega
        (((first | (with_reducible apply OL.op) | (with_reducible apply QL.op)); (exact Guard.au); rfl; rfl); (apply Pev.load_pile (s := ⟨some qa, co, ints (operT p.1.term)⟩)); rfl; ((first | exact fun _ => rfl | exact fun h => h | (intro h; simp_all; done))); (exact .head _); rfl; (exact .head _); rfl; (exact by rw [Nat.mul_one]; exact ints_get hv))
        apply oas; rfl; rfl
        apply OL.nsr
        apply oop; rfl; apply Pev.load_blkA; rfl; exact yes; apply List.Mem.tail; exact .tail _ (.tail _ (.head _)); rfl; exact Take.au
        apply omv; rfl; rfl
        apply omv; rfl; rfl
        apply ofa; rfl; rfl; rfl
        apply old; rfl; rfl; exact .tail _ (.head _); rfl; rfl
        apply oop; rfl; apply Pev.len_slice; rfl; exact yes; rfl
        apply omv; rfl; rfl
        refine OL.callE (α := Bool) (fun r => .bool r) (fun r => r = true ↔ Fine bs v k p.1.ins.length) (fun _ => Cls [pile pB (fun k => k < pT) [⟨some qa, co, ints (operT p.1.term)⟩], blk b9 41 [.slice p.2.p.1 p.1.params.length p.2.p.2, .slice p.2.i.1 p.1.ins.length p.2.i.2, .int .i64 p.1.term.kind, .int .i64 p.1.term.arg, .int .i64 p.1.term.n, .slice p.2.t.c.1 p.1.term.cases.length p.2.t.c.2, .slice p.2.t.t.1 p.1.term.to_.length p.2.t.t.2], blk bR 4 (bls B), blk bF 24 [.int .i64 nm, .slice (some a) es.length cap]] [w]) rfl rfl (by exact Args.au) (fun w2 hw2 => hU v k p.1.ins.length hkl _ _ w2 hw2 (.head _) (fun k hk => by exact NotOwned.au) (by exact mau)) ?_
        intro r hr
        apply oop; rfl; apply Pev.not; rfl; exact yes
        apply OL.nx
        refine W.cond rfl (fun h3 => ?_) (fun h3 => ?_)
        · have hnf : ¬ Fine bs v k p.1.ins.length := fun h => by rw [hr.2 h] at h3; cases h3
          have h6 := hbad k p.1 hbsk (fun h => hnf (h.2 v hvm)) hs0
          apply W.sr
          apply oas; rfl; rfl
          apply OL.nx
          refine W.rt ?_
          ((with_reducible apply At.fin1); rfl; rfl; intro w' hw')
          exact ⟨by rw [h6], (hw'.thin (.any (fun k hk => ⟨Nat.le_trans hpB hk.1, trivial⟩) (.any (fun k hk => by rw [show k = b9 from hk]; exact ⟨hb91, trivial⟩) (.any (fun k hk => by rw [show k = bR from hk]; exact ⟨hbR, trivial⟩) (.any (fun k hk => by rw [show k = bF from hk]; exact ⟨hbF1, trivial⟩) Thin.same))))).fr (by exact mau) (fun k hk => NotOwned.nil)⟩
        · have hfv : Fine bs v k p.1.ins.length := hr.1 (by simpa using h3)
          apply W.skip
          with_reducible apply At.in_normal
          with_reducible apply At.next
          apply W.reg
          apply obn; rfl; rfl; rfl; apply Bin.add_in; omega
          apply omv; rfl; rfl
          apply OL.nil
          refine At.again (i + 1) ⟨by omega, fun m v' hm hv' => ?_⟩ (by omega) (by exact Sub.au) (fun w' hw' => hw')
          by_cases em : m = i
          · subst em
            rw [hv] at hv'
            obtain rfl := Option.some.inj hv'
            exact hfv
          · exact hi0 m v' (by omega) hv'
      · obtain rfl : i = (operT p.1.term).length := by omega
        refine W.xt ?_
        with_reducible apply At.in_normal
        with_reducible apply At.next
        apply W.reg
        apply obn; rfl; rfl; rfl; apply Bin.add_in; omega
        apply omv; rfl; rfl
        apply OL.nil
        refine At.again (k + 1) ⟨by omega, fun k' b hk' hb' => ?_⟩ (by omega) (by exact Sub.au) (fun w' hw' => hw'.thin (.any (fun k hk => ⟨Nat.le_trans hpB hk.1, trivial⟩) (.any (fun k hk => by rw [show k = b9 from hk]; exact ⟨hb91, trivial⟩) Thin.same)))
        by_cases em : k' = k
        · subst em
          rw [hbsk] at hb'
          obtain rfl := Option.some.inj hb'
          exact ⟨fun n i hi v hv => hn0 n i (List.getElem?_eq_some_iff.1 hi).1 hi v hv, fun v hv => by
            obtain ⟨m, hm⟩ := List.getElem?_of_mem hv
            exact hi0 m v (List.getElem?_eq_some_iff.1 hm).1 hm⟩
        · exact hk0 k' b (by omega) hb'
  · obtain rfl : k = es.length := by omega
    have h6 := hF.2 hs0 0 (.inl rfl) ⟨fun _ k b hb => hk0 k b (by have := (List.getElem?_eq_some_iff.1 hb).1; omega) hb, fun _ => rfl⟩
    refine W.xt ?_
    with_reducible apply At.next
    apply W.sr
    apply oas; rfl; rfl
    apply OL.nx
    apply W.ret
    ((with_reducible apply At.fin1); rfl; rfl; intro w' hw')
    exact ⟨by rw [← h6], (hw'.thin (.any (fun k hk => by rw [show k = bR from hk]; exact ⟨hbR, trivial⟩) (.any (fun k hk => by rw [show k = bF from hk]; exact ⟨hbF1, trivial⟩) Thin.same))).fr (by exact mau) (fun k hk => NotOwned.nil)⟩
end Go.Proofs.Ytehelljmaiophaa.ss
